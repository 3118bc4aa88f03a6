/- Several texts in one file: contracts of functions of the given program, and plain laws, for the proof of a statement. -/
import Derived.Test.YtckmgjmeanloaaaGreatBaaj
set_option maxHeartbeats 8000000
set_option maxRecDepth 100000
namespace Go.Proofs.YtckmgjmeanloaaaGreat
open Go.Proofs.Tryz
section
open Go.RowKit Go.Sort
structure ChR where
 (vb:Value) (m:ChM)
def chF (x:ChR):List Value:=[x.vb,.int .i64 x.m.ver]
theorem Kc_ (x:ChR) :(chF x).length=2:=rfl
theorem Sq_:Elt 108 112 (.agg #[.slice none 0 0,.int .i64 0]) 2 32:=⟨underlying108,by kernel_rfl,rfl,by decide⟩
def ChRd (w:World) (x:ChR):Prop:=Own byF 1 5 0 w x.vb x.m.body
theorem chK:Mm_ ChRd (fun x:ChR=>ownF x.vb):=⟨fun h k ho=>h.offS k ho,fun h=>h.low⟩
abbrev ChsG (lo:Nat) (w:World) (v:Value) (l:List ChR):Prop:=Bo_ chF 2 112 ChRd (fun x:ChR=>ownF x.vb) lo w v l
structure StF (w0:World) (q:Nat) (S:StrM) (vb vo:Value) (l:List ChR) (w:World):Prop where
 box:Blk w q #[vb,.int .u64 S.skip,.bool S.broken]
 res:Blk w (q+1) #[.slice none 0 0,.int .u64 0,.bool false]
 buf:Own byF 1 5 (q+2) w vb S.buf
 out:ChsG (q+2) w vo l
 a1:Fu_ vb vo
 a2:∀x∈l,∀k,vb.ownBlock=some k→¬ownF x.vb k
 G:w0.grownBy w none
 hq:w0.heap.size=q
section
variable {w0 w w':World} {q:Nat} {S:StrM} {vb vo v':Value} {l:List ChR}
theorem StF.same (h:StF w0 q S vb vo l w) (hg:w.grownBy w' none):StF w0 q S vb vo l w':=
 ⟨h.box.same hg,h.res.same hg,h.buf.same hg,h.out.same chK hg,h.a1,h.a2,Aa_ h.G hg,h.hq⟩
theorem StF.put (h:StF w0 q S vb vo l w) (hg:w.grownBy w' (some q)) (S':StrM) (hb:Blk w' q #[v',.int .u64 S'.skip,.bool S'.broken]) (hv :(v'=vb∧S'.buf=S.buf)∨(v'=.slice none 0 0∧S'.buf=[])):StF w0 q S' v' vo l w':=by
 have h1:=h.hq;refine⟨hb,h.res.kept hg (by simp),?_,h.out.kept chK hg (fun k e=>by cases e;omega),?_,?_,Af_ h.G hg (by omega),h1⟩
 ·rcases hv with⟨rfl,e⟩ |⟨rfl,e⟩
  ·rw[e];exact h.buf.kept hg (fun k hk e=>by cases e;have:=(h.buf.lt _ hk).1;omega)
  ·rw[e];exact Own.nil _ _ _ _ _
 ·rcases hv with⟨rfl,e⟩ |⟨rfl,e⟩
  ·exact h.a1
  ·exact Dm_ _
 ·rcases hv with⟨rfl,e⟩ |⟨rfl,e⟩
  ·exact h.a2
  ·intro x _ k hk;simp[Value.ownBlock] at hk
theorem StF.app (h:StF w0 q S vb vo l w) {b:List UInt8} (o:Own byF 1 5 (q+2) w' v' b) (hg:w.grownBy w' vb.ownBlock) (hL:Lies vb v' w.heap.size) :
  Blk w' q #[vb,.int .u64 S.skip,.bool S.broken]∧StF w0 q { S with buf:=b } v' vo l (w'.setCell ⟨q,0,none⟩ v'):=by
 have h1:=h.hq
 have hlo:∀k,vb.ownBlock=some k→q+2≤k:=fun k hk=>(h.buf.lt k hk).1
 have hb:=h.box.kept hg (fun e=>by have:=hlo _ e;omega);have hs:w'.grownBy (w'.setCell ⟨q,0,none⟩ v') (some q):=Ac_ (Ab_ w' (some q)) 0 v'
 have hout:ChsG (q+2) w' vo l:=by
  refine⟨h.out.own.kept hg (fun k hk e=>h.a1 _ e hk),fun x hx=>?_⟩;obtain⟨a,b,c⟩:=h.out.all x hx;exact⟨Own.offS a (GrownS.of (S:=fun i=>vb.ownBlock=some i) hg fun k hk=>hk) (fun i hi hs=>h.a2 x hx i hs hi),b,c⟩
 refine⟨hb,hb.set_ 0 v' rfl,(h.res.kept hg (fun e=>by have:=hlo _ e;omega)).kept hs (by simp),o.kept hs (fun k hk e=>by cases e;have:=(o.lt _ hk).1;omega),hout.kept chK hs (fun k e=>by cases e;omega),?_,?_,Af_ (Ao_ h.G h.buf (by omega) hg) hs (by omega),h1⟩
 ·exact Fu_.app h.a1 (fun k hk=>(h.out.own.lt k hk).2) hL
 ·intro x hx k hk
  rcases hL with e |⟨m,e1,e2⟩
  ·exact h.a2 x hx k (e▸hk)
  ·rw[e1] at hk;cases hk;intro hb';have:=Own.low (h.out.all x hx).1 _ hb';omega
theorem StF.chunk (h:StF w0 q S vb vo l w) {x:ChR} (hx:ChRd w x) (hlo:∀k,ownF x.vb k→q+2≤k) (hxo:∀k,vo.ownBlock=some k→¬ownF x.vb k) (hxb:∀k,vb.ownBlock=some k→¬ownF x.vb k)
  (o:Own chF 2 112 (q+2) w' v' (l++[x])) (hg:w.grownBy w' vo.ownBlock) (hL:Lies vo v' w.heap.size):StF w0 q S vb v' (l++[x]) w':=by
 have h1:=h.hq
 have hlo2:∀k,vo.ownBlock=some k→q+2≤k:=fun k hk=>(h.out.own.lt k hk).1
 refine⟨h.box.kept hg (fun e=>by have:=hlo2 _ e;omega),h.res.kept hg (fun e=>by have:=hlo2 _ e;omega),h.buf.kept hg (fun k hk e=>h.a1 _ hk e),h.out.snoc chK hx hlo hxo o hg hL,?_,?_,Ao_ h.G h.out.own (by omega) hg,h1⟩
 ·exact(Fu_.app h.a1.symm (fun k hk=>(h.buf.lt k hk).2) hL).symm
 ·intro y hy k hk
  rcases ma_ hy with hy|hy
  ·exact h.a2 y hy k hk
  ·rw[ms_ hy];exact hxb k hk
end
def chsF (v:Value) (l:List ChR):Fp:=fun i=>ownF v i∨∃x∈l,ownF x.vb i
theorem ChsG.low {lo:Nat} {w:World} {v:Value} {l:List ChR} (h:ChsG lo w v l):Low w (chsF v l):=fun i hi=>hi.elim (h.own.low i) fun⟨x,hx,hi⟩=>Own.low (h.all x hx).1 i hi
theorem ChsG.offS {lo:Nat} {w w':World} {v:Value} {l:List ChR} {S:Fp} (h:ChsG lo w v l) (k:GrownS S w w') (ho:Off (chsF v l) S):ChsG lo w' v l:=
 ⟨h.own.offS k (ho.left fun _ hi=>.inl hi),fun x hx=>⟨Own.offS (h.all x hx).1 k (ho.left fun _ hi=>.inr ⟨x,hx,hi⟩),(h.all x hx).2⟩⟩
theorem ChsG.ge {lo:Nat} {w:World} {v:Value} {l:List ChR} (h:ChsG lo w v l):∀i,chsF v l i→lo≤i:=fun i hi=>hi.elim (fun e=>(h.own.lt i e).1) fun⟨x,hx,e⟩=>(h.all x hx).2.1 i e
def FeedP (S:StrM) (p:List UInt8) (w:World) (en:Ending) (w':World):Prop:=
 ∃vb vo l,en=.returned (.tuple #[.agg #[vb,.int .u64 (strF S p).1.skip,.bool (strF S p).1.broken],vo])∧Own byF 1 5 w.heap.size w' vb (strF S p).1.buf∧ChsG w.heap.size w' vo l∧l.map (·.m) =(strF S p).2∧Off (chsF vo l) (ownF vb)∧w.grownBy w' none
theorem bu_ (S0:StrM) (v0:Value) (v:Value) (p:List UInt8) (w:World) (h0:RdL byF 1 w v0 S0.buf) (hS:StrOk S0) (h:RdL byF 1 w v p) (hl:p.length≤1000000) :
  Calls Tryz.prog 46 #[.agg #[v0,.int .u64 S0.skip,.bool S0.broken],v] w (FeedP S0 p w):=by
 obtain⟨a0,c0,rfl⟩:=h0.shape;obtain⟨a,c,rfl⟩:=h.shape;have H:=hh_ h;have HS:=hh_ hS
 have hb1:S0.buf.length*1≤140737488355328:=by have:=hS.len;omega
 have hb2:S0.buf.length≤9223372036854775807:=by have:=hS.len;omega
 go_enter func46,ntmps46
 go_upto_region 1 with fail
 have A1:=Blk.new w #[.slice a0 S0.buf.length c0,.int .u64 S0.skip,.bool S0.broken] 70;have A2:Blk ((w.alloc (.cells #[.slice a0 S0.buf.length c0,.int .u64 S0.skip,.bool S0.broken] 70)).alloc (.cells #[.slice none 0 0,.int .u64 0,.bool false] 70)) (w.heap.size+1) #[.slice none 0 0,.int .u64 0,.bool false]:=Blk.new' _ _ _ (by simp);have g2:=ga_ (w.alloc (.cells #[.slice a0 S0.buf.length c0,.int .u64 S0.skip,.bool S0.broken] 70)) (.cells #[.slice none 0 0,.int .u64 0,.bool false] 70) none;have g1:=ga_ w (.cells #[.slice a0 S0.buf.length c0,.int .u64 S0.skip,.bool S0.broken] 70) none
 have hz2 :((w.alloc (.cells #[.slice a0 S0.buf.length c0,.int .u64 S0.skip,.bool S0.broken] 70)).alloc (.cells #[.slice none 0 0,.int .u64 0,.bool false] 70)).heap.size=w.heap.size+2:=by simp
 have B2:=A1.same g2;have G2:=Aa_ g1 g2;have R2:=h0.same G2;clear A1 g1 g2 h0 h;generalize (w.alloc (.cells #[.slice a0 S0.buf.length c0,.int .u64 S0.skip,.bool S0.broken] 70)).alloc (.cells #[.slice none 0 0,.int .u64 0,.bool false] 70)=w2 at *;generalize hq:w.heap.size=q at *;have HQ:=hh_ hq;clear hq;have N3:=Aw_ (e:=5) byF 1 (le_ w2.heap.size);have g3:=ga_ w2 (.cells #[] 5) none;have R3:=RdL.same R2 g3;have B3:=B2.same g3;have A3:=A2.same g3;have G3:=Aa_ G2 g3;have b3:=B3.cell;have hz3:w2.heap.size≤(w2.alloc (.cells #[] 5)).heap.size:=g3.size;have f3:=B3.free;have HG3:=hh_ G3;have Hz2:=hh_ hz2;clear G3 G2 g3 R2 A2 B2 hz2
 go_upto_region 2 with(at_builtin;refine A2_ Dj_ Dy_ N3 R3 rfl hb1 hb2 hz3 (by rfl) _ _ (by rfl) (by rfl) (by rfl) ?_;intro v4 w4 o4 g4 l4;obtain⟨a4,c4,rfl⟩:=o4.shape;have b4:=(B3.same g4).cell;have f4:=(B3.same g4).free)
 have hs:w4.grownBy (w4.setCell ⟨q,0,none⟩ (.slice a4 S0.buf.length c4)) (some q):=Ac_ (Ab_ w4 (some q)) 0 _;have hz22:=Hz2.out
 have D0:=hh_ (show StF w q S0 (.slice a4 S0.buf.length c4) (.slice none 0 0) [] (w4.setCell ⟨q,0,none⟩ (.slice a4 S0.buf.length c4)) from
  ⟨(B3.same g4).set_ 0 _ rfl,(A3.same g4).kept hs (by simp),(o4.base fun k hk=>by have:=(o4.lt k hk).1;omega).kept hs (fun k hk e=>by cases e;have:=(o4.lt _ hk).1;omega),Bo_.nil _ _,(Dm_ _).symm,by simp,Af_ (Aa_ HG3.out g4) hs (by have:=HQ.out;omega),HQ.out⟩)
 clear b4 f4 b3 f3 hs A3 B3 N3 R3 o4 g4 l4 hz3 HG3 hz22 Hz2;generalize w4.setCell ⟨q,0,none⟩ (.slice a4 S0.buf.length c4)=w5 at *;clear w4
 go_upto_region 4 with fail
 go_loopw [6,19] (fun s6 s19 wk=>∃(k:Nat) (vb:Value) (l:List ChR),k≤p.length∧s19=.int .i64 k∧StF w q (strF S0 (p.take k)).1 vb s6 l wk∧l.map (·.m) =(strF S0 (p.take k)).2) (fun _ s19 _=>p.length-(RowKit.intOf s19).toNat)
 case atStart=>exact⟨0,_,[],zl_ _,rfl,D0.out,rfl⟩
 case round=>
  clear D0;obtain⟨k,vb,l,hk,rfl,hD,hm⟩:=hrel
  by_cases hlt:k<p.length
  ·obtain⟨hok,hch,hcl⟩:=Ka_ HS.out p k hk
   have HN:=hh_ (If_ S0 hlt);have HM:=hh_ hm;have HD:=hh_ hD
   have hll:l.length≤k:=by have:=congrArg List.length hm;simp at this;omega
   obtain⟨g,off,cap,hv,hgl,hc⟩:=(RdL.same H.out hD.G).at_ Bl_ hlt;cases hv;have c0:=hc 0 _ rfl;rw[Nat.mul_one,Nat.add_zero] at c0;obtain⟨b,hb⟩:∃b,p[k]=b:=⟨_,rfl⟩;rw[hb] at c0 HN;obtain⟨ba,bc,rfl⟩:=hD.buf.shape;obtain⟨oa,oc,rfl⟩:=hD.out.own.shape;obtain⟨SF,hSF⟩:∃SF,strF S0 (p.take k)=SF:=⟨_,rfl⟩;rw[hSF] at hok hch hcl HN HM HD hD;clear hb hgl hc hm hSF;obtain⟨⟨B,K,R⟩,C⟩:=SF;dsimp only at hok hch hcl HN HM HD hD;have b1:=hD.box.cell;have f1:=hD.box.free;have hK:=hok.skip;have hBl:=hok.len;dsimp only at hK hBl;clear hD hok hch;cases R
   ·by_cases hsk:0<K
    ·have HS1:=hh_ (show strS ⟨B,K,false⟩ b =(⟨B,K-1,false⟩,[]) by unfold strS;rw[if_neg (by simp),if_pos hsk])
     have hwr:IntKind.u64.wrap (K-1)=K-1:=IntWalk.u64_in _ (by omega);have hg:=Ac_ (Ab_ wr (some q)) 1 (.int .u64 (K-1));have D2:=hh_ (HD.out.put hg ⟨B,K-1,false⟩ (v':=.slice ba B.length bc) (HD.out.box.set_ 1 _ rfl) (.inl ⟨rfl,rfl⟩))
     go_wp2_with fail
     refine⟨⟨k+1,.slice ba B.length bc,l,by omega,by go_num,?_,?_⟩,by simp[RowKit.intOf];omega⟩
     ·rw[HN.out,HS1.out];exact D2.out
     ·rw[HN.out,HS1.out];simpa using HM.out
    ·obtain rfl:K=0:=by omega
     obtain⟨n,u,e,hX⟩:∃n u e,readF (B++[b]) =(n,u,e):=⟨_,_,_,rfl⟩;have hu1:=Fp_ (B++[b]);have hn1:=Ek_ (B++[b])
     have HS1:=hh_ (show strS ⟨B,0,false⟩ b =(if e=3 then (⟨[],0,true⟩,[⟨[],1⟩]) else if e=0∧4096<n then (⟨[],n,false⟩,[⟨[],2⟩]) else if e=0∧n≤(B++[b]).length-u then (⟨[],0,false⟩,[⟨((B++[b]).drop u).take n,0⟩]) else (⟨B++[b],0,false⟩,[])) by
      unfold strS;rw[if_neg (by simp),if_neg (by omega)];dsimp only
      rw[hX])
     rw[hX] at hu1 hn1;dsimp only at hu1 hn1;have CR:=hh_ (show ∀v' w',RdL byF 1 w' v' (B++[b])→Calls Tryz.prog 81 #[v'] w' (fun en w2=>en=.returned (.tuple #[.int .u64 n,.int .i64 u,.int .i64 e])∧w'.grownBy w2 none) from fun v' w' h=>by have:=Mu_ v' _ w' h;rw[hX] at this;exact this)
     have hb3 :(B.length+1)*1≤140737488355328:=by omega
     have hb4:B.length+1≤9223372036854775807:=by omega
     have hbs:q+2≤wr.heap.size:=HD.out.res.lt;have Hcs:=hh_ (show(#[Value.int .u8 (b.toNat:Int)]:Array Value).toList=byF b from rfl);clear hX hsk
     go_upto_region 10 with(at_builtin;refine A6_ Dj_ Dy_ Bl_ HD.out.buf b hb3 hb4 hbs Hcs.out (by rfl) _ _ (by rfl) (by rfl) (by rfl) ?_;intro v4 w4 o4 g4 l4;obtain⟨a4,c4,rfl⟩:=o4.shape;obtain⟨b4,D4⟩:=HD.out.app o4 g4 l4;have ac4:=b4.cell;have af4:=b4.free)
     simp only[la_,ls_] at D4;have HD4:=hh_ D4
     have hLB :(B++[b]).length=B.length+1:=by simp
     clear b4 D4 ac4 af4 o4 g4 l4 b1 f1 HD hb3 hb4 hbs Hcs c0;generalize w4.setCell ⟨q,0,none⟩ (.slice a4 (B.length+1) c4)=w5' at *;generalize B++[b]=LB at *;clear w4;have bb1:=HD4.out.box.cell
     go_upto_region 11 with(go_at_call 81;refine(CR.out _ _ HD4.out.buf.rd).mono ?_;rintro en w6 ⟨rfl,g6⟩)
     have D6:=hh_ (HD4.out.same g6);clear bb1 HD4 g6 CR;have hbs6:q+2≤w6.heap.size:=D6.out.res.lt
     have hcb3 :(l.length+1)*32≤140737488355328:=by omega
     have hcb4:l.length+1≤9223372036854775807:=by omega
     have bb1:=D6.out.box.cell;have bf1:=D6.out.box.free;have hnil:∀k,¬ownF (.slice none 0 0) k:=Ay_;have HNIL:=hh_ hnil;clear hnil
     by_cases e3:e=3
     ·subst e3
      have HS2:=hh_ (HS1.out.trans (if_pos rfl));have Hcs:=hh_ (show(#[Value.slice none 0 0,.int .i64 1]:Array Value).toList=chF ⟨.slice none 0 0,⟨[],1⟩⟩ from rfl);clear HS1
      go_upto_region 13 with(at_builtin;refine Bx_ Sq_ Kc_ D6.out.out.own ⟨.slice none 0 0,⟨[],1⟩⟩ (by intro u hu;simp[chF] at hu;rcases hu with rfl|rfl <;> rfl) hcb3 hcb4 hbs6 Hcs.out (by rfl) _ _ (by rfl) (by rfl) (by rfl) ?_;intro v7 w7 o7 g7 l7;obtain⟨a7,c7,rfl⟩:=o7.shape)
      have D7:=hh_ (D6.out.chunk (x:=⟨.slice none 0 0,⟨[],1⟩⟩) (Own.nil _ _ _ _ _) (fun k h=>absurd h (HNIL.out k)) (fun k _ h=>HNIL.out k h) (fun k _ h=>HNIL.out k h) o7 g7 l7);replace D7:=D7.out;simp only[la_,ls_] at D7;replace D7:=hh_ D7;clear D6 bb1 bf1 o7 g7 l7;have bb1:=D7.out.box.cell;have bf1:=D7.out.box.free;have hg:w7.grownBy (((w7.setCell ⟨q,0,none⟩ (.slice none 0 0)).setCell ⟨q,1,none⟩ (.int .u64 0)).setCell ⟨q,2,none⟩ (.bool true)) (some q):=Ac_ (Ac_ (Ac_ (Ab_ _ _) _ _) _ _) _ _;have D8:=hh_ (D7.out.put hg ⟨[],0,true⟩ (v':=.slice none 0 0) (((D7.out.box.set_ 0 _ rfl).set_ 1 _ rfl).set_ 2 _ rfl) (.inr ⟨rfl,rfl⟩))
      go_wp2_with fail
      refine⟨⟨k+1,.slice none 0 0,l++[⟨.slice none 0 0,⟨[],1⟩⟩],by omega,by go_num,?_,?_⟩,by simp[RowKit.intOf];omega⟩
      ·rw[HN.out,HS2.out];exact D8.out
      ·rw[HN.out,HS2.out,List.map_append,HM.out];rfl
     ·have HS3:=hh_ (HS1.out.trans (if_neg e3))
      have e3' :(e==3)=false:=by simp[e3]
      clear HS1 e3
      by_cases e0:e=0
      ·subst e0
       by_cases hbig:4096<n
       ·have HS2:=hh_ (HS3.out.trans (if_pos ⟨rfl,hbig⟩))
        have Hcs:=hh_ (show(#[Value.slice none 0 0,.int .i64 2]:Array Value).toList=chF ⟨.slice none 0 0,⟨[],2⟩⟩ from rfl)
        have hbig':4096<(n:Int):=by omega
        clear HS3
        go_upto_region 16 with(at_builtin;refine Bx_ Sq_ Kc_ D6.out.out.own ⟨.slice none 0 0,⟨[],2⟩⟩ (by intro u hu;simp[chF] at hu;rcases hu with rfl|rfl <;> rfl) hcb3 hcb4 hbs6 Hcs.out (by rfl) _ _ (by rfl) (by rfl) (by rfl) ?_;intro v7 w7 o7 g7 l7;obtain⟨a7,c7,rfl⟩:=o7.shape)
        have D7:=hh_ (D6.out.chunk (x:=⟨.slice none 0 0,⟨[],2⟩⟩) (Own.nil _ _ _ _ _) (fun k h=>absurd h (HNIL.out k)) (fun k _ h=>HNIL.out k h) (fun k _ h=>HNIL.out k h) o7 g7 l7);replace D7:=D7.out;simp only[la_,ls_] at D7;replace D7:=hh_ D7;clear D6 bb1 bf1 o7 g7 l7;have bb1:=D7.out.box.cell;have bf1:=D7.out.box.free;have hg:w7.grownBy (((w7.setCell ⟨q,0,none⟩ (.slice none 0 0)).setCell ⟨q,1,none⟩ (.int .u64 n)).setCell ⟨q,2,none⟩ (.bool false)) (some q):=Ac_ (Ac_ (Ac_ (Ab_ _ _) _ _) _ _) _ _;have D8:=hh_ (D7.out.put hg ⟨[],n,false⟩ (v':=.slice none 0 0) (((D7.out.box.set_ 0 _ rfl).set_ 1 _ rfl).set_ 2 _ rfl) (.inr ⟨rfl,rfl⟩))
        go_wp2_with fail
        refine⟨⟨k+1,.slice none 0 0,l++[⟨.slice none 0 0,⟨[],2⟩⟩],by omega,by go_num,?_,?_⟩,by simp[RowKit.intOf];omega⟩
        ·rw[HN.out,HS2.out];exact D8.out
        ·rw[HN.out,HS2.out,List.map_append,HM.out];rfl
       ·have hbig' :(n:Int)≤4096:=by omega
        have HS4:=hh_ (HS3.out.trans (if_neg (by omega)));have hwr:IntKind.u64.wrap ((B.length:Int)+1-u) =(B.length:Int)+1-u:=IntWalk.u64_in _ (by omega);have hwi:IntKind.i64.wrap (n:Int)=n:=IntWalk.i64_in _ (by omega);clear HS3 hbig
        by_cases hfull:n≤LB.length-u
        ·have HS2:=hh_ (HS4.out.trans (if_pos ⟨rfl,hfull⟩))
         have hfull' :(n:Int)≤(B.length:Int)+1-u:=by omega
         clear HS4;have HB6:Own byF 1 5 (q+2) w6 (.slice a4 (B.length+1) c4) LB:=D6.out.buf
         have hcap4:B.length+1≤c4:=by have:=HB6.cap;omega
         have huB:u≤LB.length:=hu1;obtain⟨od,hod⟩:∃od,(if c4=u then a4 else Option.map (fun x=>Addr.add x u) a4)=od:=⟨_,rfl⟩;have R1:=RdL.drop Bl_ HB6.rd huB (by omega) (c4-u);rw[Nat.mul_one,hod] at R1
         have R2:RdL byF 1 w6 (.slice od (u+n-u) (c4-u)) ((LB.drop u).take n):=by rw[show u+n-u=n by omega];exact RdL.take Bl_ R1 (k:=n) (by rw[List.length_drop];omega) (c4-u)
         have g7:=ga_ w6 (.cells #[] 5) none;have N7:=Aw_ (e:=5) byF 1 (le_ w6.heap.size);have R7:=RdL.same R2 g7;have hz7:w6.heap.size≤(w6.alloc (.cells #[] 5)).heap.size:=g7.size;have D7:=hh_ (D6.out.same g7)
         have hlen7:n =((LB.drop u).take n).length:=by rw[lk_,List.length_drop];omega
         have Hlen7:=hh_ (show u+n-u =((LB.drop u).take n).length by omega)
         have hcb1 :((LB.drop u).take n).length*1≤140737488355328:=by rw[←hlen7];omega
         have hcb2 :((LB.drop u).take n).length≤9223372036854775807:=by rw[←hlen7];omega
         have hob:=hh_ fun q' hq'=>(D6.out.out.own.lt q' hq').2
         have hbb:=hh_ fun q' hq'=>(HB6.lt q' hq').2
         have bb2:=D7.out.box.cell;have hwu:IntKind.i64.wrap ((u:Int)+n)=u+n:=IntWalk.i64_in _ (by omega)
         have hun :(u:Int)+n≤(c4:Int):=by omega
         have hun1 :(u:Int)≤(u:Int)+n:=by omega
         have hu00 :(0:Int)≤(u:Int):=by omega
         have HS9:=hh_ HS2.out;clear R1 R2 g7 hlen7 D6 hfull HS2 HB6 bf1;generalize (LB.drop u).take n=BD at *
         go_upto_region 19 with(first
          |(at_builtin;refine A2_ Dj_ Dy_ N7 R7 Hlen7.out hcb1 hcb2 hz7 (by rfl) _ _ (by rfl) (by rfl) (by rfl) ?_;intro v8 w8 o8 g8 l8;obtain⟨a8,c8,rfl⟩:=o8.shape;have D8:=hh_ (D7.out.same g8);have hbs8:q+2≤w8.heap.size:=D8.out.res.lt;have Hcs8:=hh_ (show(#[Value.slice a8 BD.length c8,.int .i64 0]:Array Value).toList=chF ⟨.slice a8 BD.length c8,⟨BD,0⟩⟩ from rfl);have Ho8:=hh_ o8;have hbs9:=g8.size;clear o8 g8 l8)
          |(at_builtin;refine Bx_ Sq_ Kc_ D8.out.out.own ⟨.slice a8 BD.length c8,⟨BD,0⟩⟩ (by intro u hu;simp[chF] at hu;rcases hu with rfl|rfl <;> rfl) hcb3 hcb4 hbs8 Hcs8.out (by rfl) _ _ (by rfl) (by rfl) (by rfl) ?_;intro v9 w9 o9 g9 l9;obtain⟨a9,c9,rfl⟩:=o9.shape))
         have D9:=D8.out.chunk (x:=⟨.slice a8 BD.length c8,⟨BD,0⟩⟩) Ho8.out.zero (fun k hk=>by have:=(Ho8.out.lt k hk).1;omega) (fun k hk h=>by have:=(Ho8.out.lt k h).1;have:=hob.out k hk;omega) (fun k hk h=>by have:=(Ho8.out.lt k h).1;have:=hbb.out k hk;omega) o9 g9 l9;simp only[la_,ls_] at D9;replace D9:=hh_ D9;clear D8 D7 bb1 bb2 o9 g9 l9 N7 R7 Hlen7 hcb1 hcb2 hz7 hod;have bb1:=D9.out.box.cell;have bf1:=D9.out.box.free;have hg:w9.grownBy (w9.setCell ⟨q,0,none⟩ (.slice none 0 0)) (some q):=Ac_ (Ab_ _ _) _ _;have D10:=hh_ (D9.out.put hg ⟨[],0,false⟩ (v':=.slice none 0 0) (D9.out.box.set_ 0 _ rfl) (.inr ⟨rfl,rfl⟩))
         go_wp2_with fail
         refine⟨⟨k+1,.slice none 0 0,l++[⟨.slice a8 BD.length c8,⟨BD,0⟩⟩],by omega,by go_num,?_,?_⟩,by simp[RowKit.intOf];omega⟩
         ·rw[HN.out,HS9.out];exact D10.out
         ·rw[HN.out,HS9.out,List.map_append,HM.out];rfl
        ·have HS2:=hh_ (HS4.out.trans (if_neg (by omega)))
         have hfull' :(B.length:Int)+1-u<(n:Int):=by omega
         clear HS4 hfull
         go_wp2_with fail
         refine⟨⟨k+1,.slice a4 (B.length+1) c4,l,by omega,by go_num,?_,?_⟩,by simp[RowKit.intOf];omega⟩
         ·rw[HN.out,HS2.out];exact D6.out
         ·rw[HN.out,HS2.out];simpa using HM.out
      ·have HS2:=hh_ (HS3.out.trans ((if_neg (fun h=>e0 h.1)).trans (if_neg (fun h=>e0 h.1))))
       have e0' :(e==0)=false:=by simp[e0]
       clear HS3 e0
       go_wp2_with fail
       refine⟨⟨k+1,.slice a4 (B.length+1) c4,l,by omega,by go_num,?_,?_⟩,by simp[RowKit.intOf];omega⟩
       ·rw[HN.out,HS2.out];exact D6.out
       ·rw[HN.out,HS2.out];simpa using HM.out
   ·have HS1:=hh_ (show strS ⟨B,K,true⟩ b =(⟨B,K,true⟩,[]) by unfold strS;rw[if_pos rfl])
    go_wp2_with fail
    refine⟨⟨k+1,.slice ba B.length bc,l,by omega,by go_num,?_,?_⟩,by simp[RowKit.intOf];omega⟩
    ·rw[HN.out,HS1.out];exact HD.out
    ·rw[HN.out,HS1.out];simpa using HM.out
  ·obtain rfl:k=p.length:=by omega
   rw[List.take_length] at hD hm;obtain⟨bx,cx,rfl⟩:=hD.buf.shape;obtain⟨by',cy,rfl⟩:=hD.out.own.shape;have HD:=hh_ hD;have HM:=hh_ hm;have b1:=hD.box.cell;have r1:=hD.res.cell;have r2:=hD.res.free;have HP:=hh_ (show ∀en w' vb vo,en=.returned (.tuple #[.agg #[vb,.int .u64 (strF S0 p).1.skip,.bool (strF S0 p).1.broken],vo])→Own byF 1 5 w.heap.size w' vb (strF S0 p).1.buf→ChsG w.heap.size w' vo l→Off (chsF vo l) (ownF vb)→w.grownBy w' none→FeedP S0 p w en w' from fun en w' vb vo h1 h2 h3 h5 h4=>⟨vb,vo,l,h1,h2,h3,hm,h5,h4⟩);clear hm hlt hk;generalize strF S0 p=SF at *;obtain⟨⟨SB,SK,SR⟩,SC⟩:=SF;dsimp only at *
   go_wp2_with fail
   have rc:=(((HD.out.res.set_ 0 (.slice bx SB.length cx) rfl).set_ 1 (.int .u64 SK) rfl).set_ 2 (.bool SR) rfl).cell;have g1:wr.grownBy (((wr.setCell ⟨q+1,0,none⟩ (.slice bx SB.length cx)).setCell ⟨q+1,1,none⟩ (.int .u64 SK)).setCell ⟨q+1,2,none⟩ (.bool SR)) (some (q+1)):=Ac_ (Ac_ (Ac_ (Ab_ _ _) _ _) _ _) _ _;refine bodyPost_ret (v:=.tuple #[.agg #[.slice bx SB.length cx,.int .u64 SK,.bool SR],.slice by' l.length cy]) (by simp[results,results46,go_sem,rc]) rfl ?_;have hqq:=HQ.out
   have hbl:=fun k hk=>(HD.out.buf.lt k hk).1
   exact HP.out _ _ _ _ rfl ((HD.out.buf.kept g1 (fun k hk e=>by cases e;have:=hbl _ hk;omega)).base fun k hk=>by have:=hbl k hk;omega) ((HD.out.out.kept chK g1 (fun k e=>by cases e;omega)).base (by omega)) (fun i hi hf=>hi.elim (fun e=>HD.out.a1 i hf e) fun⟨x,hx,e⟩=>HD.out.a2 x hx i hf e) (Af_ HD.out.G g1 (by omega))
end
section
open Go.RowKit Go.Sort
theorem Lj_ (S:Nat→Prop) (b:Nat) (L:List (Int×Int)) (acc:Int) (R:List Int) (r:Int) (w:World) (h:RLed S w b L acc R) :
  Calls Tryz.prog 49 #[.pointer (some ⟨b,0,none⟩),.int .i64 r] w (fun e w'=>e=.returned (.int .i64 (rejE r))∧RLed S w' b L acc (rejR R r)∧GrownS S w w'):=by
 have H:=hh_ h
 by_cases hr:r<1∨6<r
 ·have h1:=hh_ (show rejE r=1 from if_pos hr)
  have h2:rejR R r=R:=if_pos hr;rw[h2];clear h
  by_cases hr1:r<1
  ·go_enter func49,ntmps49
   go_wp2
   go_ret
   exact⟨by rw[h1.out];rfl,H.out,GrownS.refl _ _⟩
  ·have hr2:6<r:=by omega
   go_enter func49,ntmps49
   go_wp2
   go_ret
   exact⟨by rw[h1.out];rfl,H.out,GrownS.refl _ _⟩
 ·have hr1:1≤r:=by omega
  have hr2:r≤6:=by omega
  obtain⟨k,rfl⟩:∃k:Nat,r=k:=⟨r.toNat,by omega⟩
  have hkl:k<R.length:=by rw[h.len];omega
  have hgd:R.getD k 0=R[k]:=by rw[List.getD_eq_getElem?_getD,gq_ hkl];rfl
  have h1:=hh_ (show rejE (k:Int)=0 from if_neg hr)
  have h2:rejR R (k:Int)=R.set k (satA R[k] 1):=by rw[←hgd];exact if_neg hr
  have HR2:=hh_ h2;have HRW:=hh_ (el_ h.rw (k:Int));rw[h2];obtain⟨vw,vt,vr,H0⟩:=h.rl;obtain⟨g,cap,hv,_,hgl,hcap,hck,hfr⟩:=H0.or.at_ A9_ hkl;have ck:=hck 0 _ rfl;rw[Nat.mul_one,Nat.add_zero] at ck;have fk:=hfr k;subst hv
  have C:=hh_ fun w=>Eg_ R[k] 1 w (h.rw _ (mg_ hkl)) ⟨by omega,by omega⟩
  have H0h:=hh_ H0;have hlr:=h.len
  have HC:=hh_ fun w' (h:World.grownBy w w' none)=>((An_ h).1 g k hgl (by simp)).trans ck
  have HF:=hh_ fun w' (h:World.grownBy w w' none)=>((An_ h).2 g k hgl (by simp)).trans fk
  have HB:=hh_ fun w' (h:World.grownBy w w' none)=>(H0.same h).blk.cell
  have HP:=hh_ fun w' (h:World.grownBy w w' none)=>(H0.same h).putR hkl (satA R[k] 1)
  clear hr hgd h2 ck fk hck hfr h H0;rw[hlr] at *;generalize R[k]=x at *
  have hk0 :(0:Int)≤(k:Int):=by omega
  have hk7 :(k:Int)<7:=by omega
  go_enter func49,ntmps49
  go_upto_region 3 with fail
  have K6:World.grownBy w w.drew none:=gw_
  (refine rn_ 14 (fun k _ w v w'=>match k with | 12=>v=.int .u64 (satA x 1)∧World.grownBy w w' none | _=>False) ?_;simp only[ts_])
  generalize w.drew=w6 at *
  (refine tq_ 3 ?_;(repeat(go_big_quiet_step (fail)));refine wn_ ?_)
  (refine to_ ?_;intro x3 mx3 dx3)
  clear dx3;have ax:=HB.out _ (Aa_ K6 mx3);unfold Bm_ at ax
  go_wp2_with fail
  refine⟨Ab_ _ _,?_⟩;clear ax
  (refine tq_ 4 ?_;(repeat(go_big_quiet_step (fail)));refine wn_ ?_)
  (refine to_ ?_;intro x8 mx8 dx8)
  clear dx8;have ax:=HB.out _ (Aa_ K6 mx8);unfold Bm_ at ax
  go_wp2_with fail
  refine⟨Ab_ _ _,?_⟩;clear ax
  (refine tq_ 2 ?_;(repeat(go_big_quiet_step (fail)));refine wn_ ?_)
  (refine to_ ?_;intro x11 mx11 dx11)
  clear dx11;have cx:=HC.out _ (Aa_ K6 mx11)
  go_wp2_with fail
  refine⟨Ab_ _ _,?_⟩;clear cx
  (refine tc_ ?_;intro x12 mx12 dx12;refine⟨?_,?_⟩;· (unfold Rg.callSpec;go_simp;(refine(C.out x12).mono ?_;rintro e w' ⟨rfl,rfl⟩;exact⟨_,rfl,rfl,Ab_ _ _⟩)))
  clear dx12;rintro v12 y12 ⟨rfl,g12⟩;refine⟨g12,?_⟩;clear g12;simp only[pt_]
  (refine tq_ 1 ?_;(repeat(go_big_quiet_step (fail)));refine wn_ ?_)
  (refine Rg.tree_nil ?_;intro z mz dz cz)
  have KZ:=Aa_ K6 mz;have cc:=HC.out _ KZ;have fz:=HF.out _ KZ;clear dz cz
  go_wp2
  go_ret
  obtain⟨H5,G5⟩:=HP.out z KZ;rw[HR2.out] at HRW;exact⟨by rw[h1.out];rfl,⟨⟨_,_,_,H5⟩,H.out.asc,H.out.keys,H.out.vals,by rw[List.length_set];exact H.out.len,HRW.out⟩,(GrownS.none_ (S:=S) KZ).trans G5 (fun _ hi _=>hi)⟩
theorem Jp_ (S:Nat→Prop) (b:Nat) (L:List (Int×Int)) (acc:Int) (R:List Int) (w:World) (h:RLed S w b L acc R) (hl:L.length≤1000000000) :
  Calls Tryz.prog 53 #[.pointer (some ⟨b,0,none⟩)] w (RetOwn intF 1 3 (L.map (·.1)) w):=by
 obtain⟨vw,vt,vr,H0⟩:=h.rl;obtain⟨oa,oc,rfl⟩:=H0.ow.shape
 have hlen :(L.map (·.1)).length=L.length:=by simp
 have hb1 :(L.map (·.1)).length*8≤140737488355328:=by omega
 have hb2 :(L.map (·.1)).length≤9223372036854775807:=by omega
 have ax:=(H0.same (ga_ w (.cells #[] 3) none)).blk.cell;unfold Bm_ at ax;have N:=Aw_ (e:=3) intF 1 (le_ w.heap.size);have RW:=(H0.ow.rd).same (ga_ w (.cells #[] 3) none);clear h H0 hlen;generalize L.map (·.1)=W at *
 go_enter func53,ntmps53
 go_wp2_with (at_builtin;refine A2_ Bv_ Bw_ N RW rfl hb1 hb2 (by simp) (by rfl) _ _ (by rfl) (by rfl) (by rfl) ?_;intro v4 w4 o4 g4 l4)
 go_ret
 exact⟨_,rfl,o4,Aa_ (ga_ w _ none) g4⟩
theorem Kv_ (S:Nat→Prop) (b:Nat) (L:List (Int×Int)) (acc:Int) (R:List Int) (w:World) (h:RLed S w b L acc R) :
  Calls Tryz.prog 58 #[.pointer (some ⟨b,0,none⟩)] w (RetOwn wordF 1 22 R w):=by
 obtain⟨vw,vt,vr,H0⟩:=h.rl;obtain⟨oa,oc,rfl⟩:=H0.or.shape;have hlen:=h.len
 have hb1:R.length*8≤140737488355328:=by omega
 have hb2:R.length≤9223372036854775807:=by omega
 have ax:=(H0.same (ga_ w (.cells #[] 22) none)).blk.cell;unfold Bm_ at ax;have N:=Aw_ (e:=22) wordF 1 (le_ w.heap.size);have RW:=(H0.or.rd).same (ga_ w (.cells #[] 22) none);clear h H0 hlen
 go_enter func58,ntmps58
 go_wp2_with (at_builtin;refine A2_ Cu_ Cw_ N RW rfl hb1 hb2 (by simp) (by rfl) _ _ (by rfl) (by rfl) (by rfl) ?_;intro v4 w4 o4 g4 l4)
 go_ret
 exact⟨_,rfl,o4,Aa_ (ga_ w _ none) g4⟩
theorem Ie_ (S:Nat→Prop) (b:Nat) (L:List (Int×Int)) (acc:Int) (R:List Int) (w:World) (h:RLed S w b L acc R) :
  Calls Tryz.prog 88 #[.pointer (some ⟨b,0,none⟩)] w (RetInt acc w):=by
 obtain⟨vw,vt,vr,H0⟩:=h.rl;have ax:=H0.blk.cell;unfold Bm_ at ax;clear h H0
 go_enter func88,ntmps88
 go_wp2
 go_ret
 exact Ai_ rfl (Ab_ _ _)
end
section
open Go.RowKit Go.Sort
theorem Cf_ {L:List Fp} (h:L.Pairwise Off) {i j:Nat} {P Q:Fp} (hi:L[i]?=some P) (hj:L[j]?=some Q) (hne:i≠j):Off P Q:=by
 obtain⟨hi1,rfl⟩:=gs_ hi;obtain⟨hj1,rfl⟩:=gs_ hj
 rcases Nat.lt_or_gt_of_ne hne with hlt|hlt
 ·exact List.pairwise_iff_getElem.1 h i j hi1 hj1 hlt
 ·exact(List.pairwise_iff_getElem.1 h j i hj1 hi1 hlt).symm
theorem Dq_ {w:World} {L:List Fp} (h:L.Pairwise Off) (hl:∀P∈L,Low w P) {j:Nat} {P P':Fp} (hj:L[j]?=some P) (hn:∀i,P' i→P i∨w.heap.size≤i) :(L.set j P').Pairwise Off:=by
 have hjl:=(gs_ hj).1
 have ho:∀i Q,i≠j→L[i]?=some Q→Off Q P':=fun i Q hne hi k hk hf=>by
  rcases hn k hf with e|e
  ·exact Cf_ h hi hj hne k hk e
  ·have:=hl Q (mo_ hi) k hk;omega
 refine List.pairwise_iff_getElem.2 fun a b ha hb hab=>?_
 rw[List.length_set] at ha hb
 by_cases hja:j=a
 ·subst hja
  rw[List.getElem_set_self,List.getElem_set_ne (by omega)];exact(ho b _ (by omega) (gq_ hb)).symm
 ·by_cases hjb:j=b
  ·subst hjb
   rw[List.getElem_set_self,List.getElem_set_ne hja];exact ho a _ (by omega) (gq_ ha)
  ·rw[List.getElem_set_ne hja,List.getElem_set_ne hjb]
   exact List.pairwise_iff_getElem.1 h a b ha hb hab
theorem RLed.tight {S:Fp} {w:World} {b:Nat} {L:List (Int×Int)} {acc:Int} {R:List Int} (h:RLed S w b L acc R):∃F:Fp,RLed F w b L acc R∧Low w F∧∀i,F i→S i:=by
 obtain⟨vw,vt,vr,r⟩:=h.rl;refine⟨fun i=>i=b∨ownF vw i∨ownF vt i∨ownF vr i,⟨⟨vw,vt,vr,⟨r.blk,r.ow,r.ot,r.or,.inl rfl,fun g hg=>⟨.inr (.inl hg),(r.sw g hg).2⟩,fun g hg=>⟨.inr (.inr (.inl hg)),(r.st g hg).2⟩,fun g hg=>⟨.inr (.inr (.inr hg)),(r.sr g hg).2⟩,r.awt,r.awr,r.atr⟩⟩,h.asc,h.keys,h.vals,h.len,h.rw⟩,fun i hi=>?_,fun i hi=>?_⟩
 ·rcases hi with rfl|hi|hi|hi
  ·exact r.blk.lt
  ·exact r.ow.low i hi
  ·exact r.ot.low i hi
  ·exact r.or.low i hi
 ·rcases hi with rfl|hi|hi|hi
  ·exact r.sb
  ·exact(r.sw i hi).1
  ·exact(r.st i hi).1
  ·exact(r.sr i hi).1
theorem RLed.mono {S T:Fp} {w:World} {b:Nat} {L:List (Int×Int)} {acc:Int} {R:List Int} (h:RLed S w b L acc R) (hT:∀i,S i→T i):RLed T w b L acc R:=by
 obtain⟨vw,vt,vr,r⟩:=h.rl;exact⟨⟨vw,vt,vr,⟨r.blk,r.ow,r.ot,r.or,hT _ r.sb,fun g hg=>⟨hT _ (r.sw g hg).1,(r.sw g hg).2⟩,fun g hg=>⟨hT _ (r.st g hg).1,(r.st g hg).2⟩,fun g hg=>⟨hT _ (r.sr g hg).1,(r.sr g hg).2⟩,r.awt,r.awr,r.atr⟩⟩,h.asc,h.keys,h.vals,h.len,h.rw⟩
def upF (F:Fp) (n:Nat):Fp:=fun i=>F i∨n≤i
theorem RLed.mov {F:Fp} {w w':World} {b:Nat} {L:List (Int×Int)} {acc:Int} {R:List Int} (h:RLed (upF F w.heap.size) w' b L acc R) (g:GrownS (upF F w.heap.size) w w'):∃F',RLed F' w' b L acc R∧Low w' F'∧Mov F F' w w':=by
 obtain⟨F',h1,h2,h3⟩:=h.tight;exact⟨F',h1,h2,⟨g.mono fun i hi hlt=>hi.elim id fun e=>absurd hlt (by omega),h3⟩⟩
abbrev rcluA (c:Cfg) (mark:Int) (vb:Value) (skip:Int) (broken:Bool) (bl:Nat) (vs vi:Value):Array Value:=#[.int .i64 c.Length,.int .i64 c.Lateness,.int .i64 c.Windows,.int .i64 c.Shards,.int .i64 c.Spread,.int .i64 c.Queue,.int .i64 c.Mode,.int .i64 c.Slots,.int .i64 c.Exact,.int .u64 c.Promote,.int .i64 c.Depth,.int .i64 c.Width,.int .i64 c.Top,.int .i64 c.Key,c.Classes,c.Table,.int .u64 c.Seed,.int .i64 mark,vb,.int .u64 skip,.bool broken,.pointer (some ⟨bl,0,none⟩),vs,vi]
structure RcG where
 (g:Nat) (vb:Value) (bl:Nat) (LF:Fp) (vs vi:Value) (sh:List RshG)
def RcG.parts (G:RcG):List Fp:=[oneF G.g,ownF G.vb,G.LF,ownF G.vs,ownF G.vi]++G.sh.map RshG.F
def RcG.F (G:RcG):Fp:=fun i=>∃P∈G.parts,P i
structure RcC (w:World) (G:RcG) (c:Cfg) (t:List Int) (K:CluM):Prop where
 gl:G.g<w.heap.size
 buf:Own byF 1 5 0 w G.vb K.str.buf
 led:RLed G.LF w G.bl K.led K.acc K.rej
 lel:Low w G.LF
 sp:Own ptrF 1 104 0 w G.vs (G.sh.map (·.g))
 it:Own itF 3 41 0 w G.vi K.items
 len:G.sh.length=K.sh.length
 shd:∀(i:Nat) s S,G.sh[i]?=some s→K.sh[i]?=some S→RSh w s c t S
 ap:G.parts.Pairwise Off
structure RClu (w:World) (G:RcG) (c:Cfg) (t:List Int) (K:CluM):Prop where
 blk:Blk w G.g (rcluA c K.mark G.vb K.str.skip K.str.broken G.bl G.vs G.vi)
 core:RcC w G c t K
section
variable {w w':World} {G:RcG} {c:Cfg} {t:List Int} {K:CluM}
theorem RcG.part_sh {i:Nat} {s:RshG} (h:G.sh[i]?=some s):G.parts[5+i]?=some s.F:=by
 unfold RcG.parts;rw[List.getElem?_append_right (by simp),show 5+i-[oneF G.g,ownF G.vb,G.LF,ownF G.vs,ownF G.vi].length=i by simp,List.getElem?_map,h];rfl
theorem RcC.shOf (h:RcC w G c t K) {s:RshG} (hs:s∈G.sh):∃(i:Nat) (S:ShM),G.sh[i]?=some s∧K.sh[i]?=some S∧RSh w s c t S:=by
 obtain⟨i,hi,e⟩:=List.getElem_of_mem hs
 have h1:G.sh[i]?=some s:=by rw[gq_ hi,e]
 have h2:i<K.sh.length:=by rw[←h.len];exact hi
 exact⟨i,K.sh[i],h1,gq_ h2,h.shd i _ _ h1 (gq_ h2)⟩
theorem RcC.lows (h:RcC w G c t K):∀P∈G.parts,Low w P:=by
 intro P hP;unfold RcG.parts at hP
 rcases ma_ hP with hP|hP
 ·simp only[List.mem_cons,List.not_mem_nil,or_false] at hP
  rcases hP with rfl|rfl|rfl|rfl|rfl
  ·intro i hi;rw[show i=G.g from hi];exact h.gl
  ·exact h.buf.low
  ·exact h.lel
  ·exact h.sp.low
  ·exact h.it.low
 ·obtain⟨s,hs,rfl⟩:=List.mem_map.1 hP
  obtain⟨_,_,_,_,hR⟩:=h.shOf hs;exact hR.low
theorem RcC.low (h:RcC w G c t K):Low w G.F:=fun i ⟨P,hP,hi⟩=>h.lows P hP i hi
theorem RcC.keptS {S:Fp} (h:RcC w G c t K) (k:GrownS S w w') (ho:∀P∈G.parts.drop 1,Off P S):RcC w' G c t K:=by
 have m1:ownF G.vb∈G.parts.drop 1:=by simp[RcG.parts]
 have m2:G.LF∈G.parts.drop 1:=by simp[RcG.parts]
 have m3:ownF G.vs∈G.parts.drop 1:=by simp[RcG.parts]
 have m4:ownF G.vi∈G.parts.drop 1:=by simp[RcG.parts]
 refine⟨ll_ h.gl k.size,h.buf.offS k (ho _ m1),h.led.keptS k (ho _ m2),h.lel.up k.size,h.sp.offS k (ho _ m3),h.it.offS k (ho _ m4),h.len,fun i s S e1 e2=>(h.shd i s S e1 e2).keptS k (ho _ ?_),h.ap⟩
 have:s.F∈G.sh.map RshG.F:=List.mem_map_of_mem (mo_ e1)
 simp[RcG.parts,this]
theorem RcC.same (h:RcC w G c t K) (k:w.grownBy w' none):RcC w' G c t K:=h.keptS (GrownS.none_ (S:=fun _=>False) k) fun _ _ _ _=>id
theorem RcC.own (h:RcC w G c t K) (k:GrownS (oneF G.g) w w'):RcC w' G c t K:=by
 refine h.keptS k fun P hP=>?_
 obtain⟨i,hi,e⟩:=List.getElem_of_mem hP;rw[List.getElem_drop] at e;rw[List.length_drop] at hi;exact Cf_ h.ap (i:=1+i) (j:=0) (by rw[gq_ (by omega),e]) rfl (by omega)
theorem RcC.off (h:RcC w G c t K) {i j:Nat} {P Q:Fp} (hi:G.parts[i]?=some P) (hj:G.parts[j]?=some Q) (hne:i≠j):Off P Q:=Cf_ h.ap hi hj hne
theorem RcC.setB (h:RcC w G c t K) (k:w.grownBy w' none) {v':Value} {b':List UInt8} (ho:Own byF 1 5 w.heap.size w' v' b'):RcC w' { G with vb:=v' } c t { K with str:={ K.str with buf:=b' } }:=by
 have h1:=h.same k;refine⟨h1.gl,ho.zero,h1.led,h1.lel,h1.sp,h1.it,h1.len,h1.shd,?_⟩
 exact Dq_ (j:=1) (P:=ownF G.vb) (P':=ownF v') h.ap h.lows rfl fun i hi=>.inr (ho.lt i hi).1
theorem RcC.setL (h:RcC w G c t K) {F':Fp} {led':List (Int×Int)} {acc':Int} {rej':List Int} (hr:RLed F' w' G.bl led' acc' rej') (hl:Low w' F') (m:Mov G.LF F' w w'):RcC w' { G with LF:=F' } c t { K with led:=led',acc:=acc',rej:=rej' }:=by
 refine⟨ll_ h.gl m.size,h.buf.offS m.grown (h.off (i:=1) (j:=2) rfl rfl (by omega)),hr,hl,h.sp.offS m.grown (h.off (i:=3) (j:=2) rfl rfl (by omega)),h.it.offS m.grown (h.off (i:=4) (j:=2) rfl rfl (by omega)),h.len,fun i s S e1 e2=>(h.shd i s S e1 e2).keptS m.grown (h.off (i:=5+i) (j:=2) (RcG.part_sh e1) rfl (by omega)),?_⟩;exact Dq_ (j:=2) (P:=G.LF) (P':=F') h.ap h.lows rfl m.new
theorem RcC.setI (h:RcC w G c t K) {v':Value} {l':List ItR} (ho:Own itF 3 41 0 w' v' l') (k:w.grownBy w' G.vi.ownBlock) (hL:Lies G.vi v' w.heap.size):RcC w' { G with vi:=v' } c t { K with items:=l' }:=by
 have g:GrownS (ownF G.vi) w w':=GrownS.of k fun j hj=>hj
 refine⟨ll_ h.gl k.size,h.buf.offS g (h.off (i:=1) (j:=4) rfl rfl (by omega)),h.led.keptS g (h.off (i:=2) (j:=4) rfl rfl (by omega)),h.lel.up g.size,h.sp.offS g (h.off (i:=3) (j:=4) rfl rfl (by omega)),ho,h.len,fun i s S e1 e2=>(h.shd i s S e1 e2).keptS g (h.off (i:=5+i) (j:=4) (RcG.part_sh e1) rfl (by omega)),?_⟩
 refine Dq_ (j:=4) (P:=ownF G.vi) (P':=ownF v') h.ap h.lows rfl fun i hi=>?_
 rcases hL with e |⟨m,e1,e2⟩
 ·left;unfold ownF at hi ⊢;rw[←e];exact hi
 ·right;unfold ownF at hi;rw[e1] at hi;cases hi;exact e2
theorem H5_ {i:Nat} {s s':RshG} (_:G.sh[i]?=some s):RcG.parts { G with sh:=G.sh.set i s' }=G.parts.set (5+i) s'.F:=by
 unfold RcG.parts;dsimp only;rw[List.set_append_right _ _ (by simp),List.map_set]
 simp
theorem RcC.setS (h:RcC w G c t K) {i:Nat} {s s':RshG} {S':ShM} (hi:G.sh[i]?=some s) (hR:RSh w' s' c t S') (m:Mov s.F s'.F w w') (hg:s'.g=s.g):RcC w' { G with sh:=G.sh.set i s' } c t { K with sh:=K.sh.set i S' }:=by
 have hil:=(gs_ hi).1;have hp:=RcG.part_sh hi;refine⟨ll_ h.gl m.size,h.buf.offS m.grown (h.off (i:=1) (j:=5+i) rfl hp (by omega)),h.led.keptS m.grown (h.off (i:=2) (j:=5+i) rfl hp (by omega)),h.lel.up m.size,?_,h.it.offS m.grown (h.off (i:=4) (j:=5+i) rfl hp (by omega)),by simp[h.len],?_,?_⟩
 ·have e :(G.sh.set i s').map (·.g)=G.sh.map (·.g):=by
   rw[List.map_set]
   refine List.ext_getElem? fun j=>?_
   by_cases hij:i=j
   ·subst hij
    rw[List.getElem?_set_self (by simpa using hil),List.getElem?_map,hi];simp[hg]
   ·rw[List.getElem?_set_ne hij]
  show Own ptrF 1 _ 0 w' G.vs ((G.sh.set i s').map (·.g))
  rw[e];exact h.sp.offS m.grown (h.off (i:=3) (j:=5+i) rfl hp (by omega))
 ·intro j u U e1 e2
  by_cases hij:i=j
  ·subst hij
   have hl:i<K.sh.length:=by rw[←h.len];exact hil
   have e1':some s'=some u:=(List.getElem?_set_self hil).symm.trans e1;have e2':some S'=some U:=(List.getElem?_set_self hl).symm.trans e2;cases e1';cases e2';exact hR
  ·have e1':G.sh[j]?=some u:=(List.getElem?_set_ne hij).symm.trans e1
   have e2':K.sh[j]?=some U:=(List.getElem?_set_ne hij).symm.trans e2;exact(h.shd j u U e1' e2').keptS m.grown (h.off (i:=5+j) (j:=5+i) (RcG.part_sh e1') hp (by omega))
 ·rw[H5_ hi]
  exact Dq_ h.ap h.lows hp m.new
theorem RcG.F_part {j:Nat} {P:Fp} (h:G.parts[j]?=some P):∀i,P i→G.F i:=fun _ hi=>⟨P,mo_ h,hi⟩
theorem mem_partsF {L:List Fp} {j:Nat} {P':Fp} {i:Nat} (h:∃P∈L.set j P',P i):P' i∨∃P∈L,P i:=by
 obtain⟨P,hP,hi⟩:=h
 rcases List.mem_or_eq_of_mem_set hP with hP|rfl
 ·exact .inr ⟨P,hP,hi⟩
 ·exact .inl hi
theorem RClu.same (h:RClu w G c t K) (k:w.grownBy w' none):RClu w' G c t K:=⟨h.blk.same k,h.core.same k⟩
theorem RClu.low (h:RClu w G c t K):Low w G.F:=h.core.low
theorem RClu.keptS {S:Fp} (h:RClu w G c t K) (k:GrownS S w w') (ho:Off G.F S):RClu w' G c t K:=
 ⟨h.blk.keptS k (ho G.g ⟨oneF G.g,by simp[RcG.parts],rfl⟩),h.core.keptS k fun P hP=>ho.left fun i hi=>⟨P,List.mem_of_mem_drop hP,hi⟩⟩
theorem RClu.setM (h:RClu w G c t K) (k:w.grownBy w' none) (m:Int):RClu (w'.setCell ⟨G.g,17,none⟩ (.int .i64 m)) G c t { K with mark:=m }∧Mov G.F G.F w (w'.setCell ⟨G.g,17,none⟩ (.int .i64 m)):=by
 have hg:GrownS (oneF G.g) w' (w'.setCell ⟨G.g,17,none⟩ (.int .i64 m)):=GrownS.of (Ac_ (Ab_ w' (some G.g)) 17 _) fun k e=>by cases e;rfl
 refine⟨⟨(h.blk.same k).set_ 17 _ rfl,?_⟩,⟨((GrownS.none_ k).trans hg fun i hi _=>RcG.F_part (j:=0) rfl i hi),fun i hi=>.inl hi⟩⟩
 have:=(h.core.same k).own hg
 exact⟨this.gl,this.buf,this.led,this.lel,this.sp,this.it,this.len,this.shd,this.ap⟩
theorem RClu.setL (h:RClu w G c t K) {F':Fp} {led':List (Int×Int)} {acc':Int} {rej':List Int} (hr:RLed F' w' G.bl led' acc' rej') (hl:Low w' F') (m:Mov G.LF F' w w'):RClu w' { G with LF:=F' } c t { K with led:=led',acc:=acc',rej:=rej' }∧Mov G.F (RcG.F { G with LF:=F' }) w w':=by
 have h0:=Cf_ h.core.ap (i:=0) (j:=2) rfl rfl (by omega);refine⟨⟨h.blk.keptS m.grown (h0 G.g rfl),h.core.setL hr hl m⟩,m.wide (RcG.F_part (j:=2) rfl) fun i hi=>?_⟩
 have:RcG.parts { G with LF:=F' }=G.parts.set 2 F':=rfl
 unfold RcG.F at hi;rw[this] at hi;exact(mem_partsF hi).elim .inr .inl
theorem RClu.setS (h:RClu w G c t K) {i:Nat} {s s':RshG} {S':ShM} (hi:G.sh[i]?=some s) (hR:RSh w' s' c t S') (m:Mov s.F s'.F w w') (hg:s'.g=s.g):RClu w' { G with sh:=G.sh.set i s' } c t { K with sh:=K.sh.set i S' }∧Mov G.F (RcG.F { G with sh:=G.sh.set i s' }) w w':=by
 have h0:=Cf_ h.core.ap (i:=0) (j:=5+i) rfl (RcG.part_sh hi) (by omega);refine⟨⟨h.blk.keptS m.grown (h0 G.g rfl),h.core.setS hi hR m hg⟩,m.wide (RcG.F_part (RcG.part_sh hi)) fun j hj=>?_⟩;unfold RcG.F at hj;rw[H5_ hi] at hj;exact(mem_partsF hj).elim .inr .inl
theorem RClu.setI (h:RClu w G c t K) {v':Value} {l':List ItR} (ho:Own itF 3 41 0 w' v' l') (k:w.grownBy w' G.vi.ownBlock) (hL:Lies G.vi v' w.heap.size) :
  Blk w' G.g (rcluA c K.mark G.vb K.str.skip K.str.broken G.bl G.vs G.vi)∧RClu (w'.setCell ⟨G.g,23,none⟩ v') { G with vi:=v' } c t { K with items:=l' }∧Mov G.F (RcG.F { G with vi:=v' }) w (w'.setCell ⟨G.g,23,none⟩ v'):=by
 have h0:=Cf_ h.core.ap (i:=0) (j:=4) rfl rfl (by omega)
 have g:GrownS (ownF G.vi) w w':=GrownS.of k fun j hj=>hj
 have hb:=h.blk.keptS g (h0 G.g rfl)
 have hg:GrownS (oneF G.g) w' (w'.setCell ⟨G.g,23,none⟩ v'):=GrownS.of (Ac_ (Ab_ w' (some G.g)) 23 _) fun k e=>by cases e;rfl
 refine⟨hb,⟨hb.set_ 23 _ rfl,(h.core.setI ho k hL).own hg⟩,⟨(g.mono fun i hi _=>RcG.F_part (j:=4) rfl i hi).trans hg fun i hi _=>RcG.F_part (j:=0) rfl i hi,fun i hi=>?_⟩⟩
 have:RcG.parts { G with vi:=v' }=G.parts.set 4 (ownF v'):=rfl
 unfold RcG.F at hi;rw[this] at hi
 rcases mem_partsF hi with hi|hi
 ·rcases hL with e |⟨m,e1,e2⟩
  ·left;exact RcG.F_part (j:=4) (P:=ownF G.vi) rfl i (by unfold ownF at hi ⊢;rw[←e];exact hi)
  ·right;unfold ownF at hi;rw[e1] at hi;cases hi;exact e2
 ·exact .inl hi
theorem RClu.setB (h:RClu w G c t K) (k:w.grownBy w' none) {v':Value} {S':StrM} (ho:Own byF 1 5 w.heap.size w' v' S'.buf) :
  RClu (((w'.setCell ⟨G.g,18,none⟩ v').setCell ⟨G.g,19,none⟩ (.int .u64 S'.skip)).setCell ⟨G.g,20,none⟩ (.bool S'.broken)) { G with vb:=v' } c t { K with str:=S' }∧Mov G.F (RcG.F { G with vb:=v' }) w (((w'.setCell ⟨G.g,18,none⟩ v').setCell ⟨G.g,19,none⟩ (.int .u64 S'.skip)).setCell ⟨G.g,20,none⟩ (.bool S'.broken)):=by
 have hg:GrownS (oneF G.g) w' (((w'.setCell ⟨G.g,18,none⟩ v').setCell ⟨G.g,19,none⟩ (.int .u64 S'.skip)).setCell ⟨G.g,20,none⟩ (.bool S'.broken)):=GrownS.of (Ac_ (Ac_ (Ac_ (Ab_ w' (some G.g)) _ _) _ _) _ _) fun k e=>by cases e;rfl
 refine⟨⟨(((h.blk.same k).set_ 18 _ rfl).set_ 19 _ rfl).set_ 20 _ rfl,?_⟩,⟨(GrownS.none_ k).trans hg fun i hi _=>RcG.F_part (j:=0) rfl i hi,fun i hi=>?_⟩⟩
 ·have:=(h.core.setB k ho).own hg
  exact⟨this.gl,this.buf,this.led,this.lel,this.sp,this.it,this.len,this.shd,this.ap⟩
 ·have:RcG.parts { G with vb:=v' }=G.parts.set 1 (ownF v'):=rfl
  unfold RcG.F at hi;rw[this] at hi
  rcases mem_partsF hi with hi|hi
  ·exact .inr (ho.lt i hi).1
  ·exact .inl hi
end
end
section
open Go.RowKit
def Dx_ (o:List Int) (k:Nat) (x:Int):List Int:=o.set k (o[k]?.getD 0+x)
theorem H8_ (o:List Int) (k:Nat) (x:Int) :(Dx_ o k x).length=o.length:=by simp[Dx_]
def trkN (c:Cfg):Int:=c.Shards*c.Windows*(c.Slots+c.Exact)
def queN (c:Cfg):Int:=c.Shards*c.Queue
def rowN (c:Cfg):Int:=c.Shards*c.Windows*c.Depth
def demB1 (c:Cfg) (l:List (Int×Int)):List Int:=Dx_ (List.replicate l.length 0) (fitI l (8*c.Width)) (rowN c)
def demB2 (c:Cfg) (l:List (Int×Int)):List Int:=Dx_ (demB1 c l) (fitI l 32) (trkN c)
def demB (c:Cfg) (l:List (Int×Int)):List Int:=Dx_ (demB2 c l) (fitI l 24) (queN c)
def keyF (l:List (Int×Int)) (X:Int) (d:List Int):Nat→Int×List Int
 | 0=>(-1,d)
 | n+1=>if ((fitI l ((n+1:Nat):Int):Nat):Int)≠(keyF l X d n).1 then (((fitI l ((n+1:Nat):Int):Nat):Int),Dx_ (keyF l X d n).2 (fitI l ((n+1:Nat):Int)) X) else keyF l X d n
def demF (c:Cfg) (l:List (Int×Int)):List Int:=(keyF l (trkN c+queN c) (demB c l) c.Key.toNat).2
def BdL (o:List Int) (M:Int):Prop:=∀k:Nat,0≤o[k]?.getD 0∧o[k]?.getD 0≤M
theorem BdL.add {o:List Int} {M x X:Int} (h:BdL o M) (hx:0≤x∧x≤X) (k:Nat):BdL (Dx_ o k x) (M+X):=by
 intro j;have h1:=h j;have h2:=h k;unfold Dx_;simp only[List.getElem?_set] at *
 by_cases e:k=j
 ·subst e
  rw[if_pos rfl]
  by_cases hl:k<o.length
  ·rw[if_pos hl];simp only[Option.getD_some];omega
  ·rw[if_neg hl];simp only[Option.getD_none];omega
 ·rw[if_neg e];omega
theorem BdL.zero (n:Nat):BdL (List.replicate n 0) 0:=by
 intro k;rw[List.getElem?_replicate]
 split <;> simp
theorem Jr_ (l:List (Int×Int)) (X:Int) (d:List Int):∀n,(keyF l X d n).2.length=d.length
 | 0=>rfl
 | n+1=>by
  unfold keyF;split
  ·simp only;rw[H8_,Jr_ l X d n]
  ·exact Jr_ l X d n
theorem BdL.mono {o:List Int} {M M':Int} (h:BdL o M) (hm:M≤M'):BdL o M':=fun k=>⟨(h k).1,Int.le_trans (h k).2 hm⟩
theorem Sm_ {l:List (Int×Int)} {X M:Int} {d:List Int} (h:BdL d M) (hX:0≤X∧X≤7000):∀n:Nat,BdL (keyF l X d n).2 (M+7000*n)
 | 0=>h.mono (by simp)
 | n+1=>by
  have ih:=Sm_ (l:=l) h hX n;unfold keyF;split
  ·exact(ih.add (x:=X) (X:=7000) hX (fitI l ((n+1:Nat):Int))).mono (by omega)
  ·exact ih.mono (by omega)
theorem R2_ {c:Cfg} (h:CfgNums c):0≤rowN c∧rowN c≤256:=by
 have a1:=h.shards;have a2:=h.windows;have a3:=h.depth
 have m1:c.Shards*c.Windows≤64:=by have:=Int.mul_le_mul a1.2 a2.2 (by omega) (by omega);simpa using this
 have m0:0≤c.Shards*c.Windows:=Int.mul_nonneg (by omega) (by omega)
 have m2:c.Shards*c.Windows*c.Depth≤256:=by have:=Int.mul_le_mul m1 a3.2 (by omega) (by omega);simpa using this
 exact⟨Int.mul_nonneg m0 (by omega),m2⟩
theorem Jj_ {c:Cfg} (h:CfgNums c):0≤trkN c∧trkN c≤6144:=by
 have a1:=h.shards;have a2:=h.windows;have a3:=h.slots;have a4:=h.exact
 have m1:c.Shards*c.Windows≤64:=by have:=Int.mul_le_mul a1.2 a2.2 (by omega) (by omega);simpa using this
 have m0:0≤c.Shards*c.Windows:=Int.mul_nonneg (by omega) (by omega)
 have m2:c.Shards*c.Windows*(c.Slots+c.Exact)≤6144:=by have:=Int.mul_le_mul m1 (show c.Slots+c.Exact≤96 by omega) (by omega) (by omega);simpa using this
 exact⟨Int.mul_nonneg m0 (by omega),m2⟩
theorem J3_ {c:Cfg} (h:CfgNums c):0≤queN c∧queN c≤512:=by
 have a1:=h.shards;have a2:=h.queue
 have m1:c.Shards*c.Queue≤512:=by have:=Int.mul_le_mul a1.2 a2.2 (by omega) (by omega);simpa using this
 exact⟨Int.mul_nonneg (by omega) (by omega),m1⟩
theorem Ov_ {c:Cfg} {l:List (Int×Int)} (h:CfgNums c):BdL (demB1 c l) 256:=by
 exact((BdL.zero l.length).add (R2_ h) (fitI l (8*c.Width))).mono (by omega)
theorem Pr_ {c:Cfg} {l:List (Int×Int)} (h:CfgNums c):BdL (demB2 c l) 6400:=(Ov_ h).add (Jj_ h) _
theorem Ss_ {c:Cfg} {l:List (Int×Int)} (h:CfgNums c):BdL (demB c l) 6912:=(Pr_ h).add (J3_ h) _
theorem Wi_ (c:Cfg) (l:List (Int×Int)) :(demB c l).length=l.length:=by simp[demB,demB2,demB1,H8_]
theorem Jl_ (c:Cfg) (l:List (Int×Int)) :(demF c l).length=l.length:=by unfold demF;rw[Jr_,Wi_]
theorem ev_ {c:Cfg} {l:List (Int×Int)} (h:CfgNums c) {n:Nat} (hn:n≤256):BdL (keyF l (trkN c+queN c) (demB c l) n).2 2000000:=by
 have h1:=Jj_ h;have h2:=J3_ h
 have:=Sm_ (l:=l) (X:=trkN c+queN c) (Ss_ (l:=l) h) (by omega) n
 intro k
 have:=this k
 omega
def dg_ (o:List Int) (w:World) (e:Ending) (w':World):Prop:=
 ∃B,e=.returned (.tuple #[.slice (some ⟨B,0,none⟩) o.length o.length,.int .i64 0])∧w.heap.size≤B∧OutAt w' B o∧w.grownBy w' none
structure Co_ (c:Cfg) (n:Nat) (w:World) (B:Nat) (out:List Int) (wx:World):Prop where
 box:BoxAt wx w.heap.size c
 len:out.length=n
 out:OutAt wx B out
 grown:w.grownBy wx none
 lt:w.heap.size<B
section
variable {c:Cfg} {n:Nat} {w:World} {B:Nat} {out:List Int} {wx wy:World}
theorem Co_.set (h:Co_ c n w B out wx) (k:Nat) (x:Int):Co_ c n w B (out.set k x) (wx.setCell ⟨B,k,none⟩ (.int .i64 x)):=
 ⟨h.box.kept (Ac_ (Ab_ wx _) k _) (by have:=h.lt;simp;omega),by simpa using h.len,h.out.set k x,Aj_ h.grown (Nat.le_of_lt h.lt) _,h.lt⟩
theorem Co_.add (h:Co_ c n w B out wx) (k:Nat) (x:Int):Co_ c n w B (Dx_ out k x) (wx.setCell ⟨B,k,none⟩ (.int .i64 (out[k]?.getD 0+x))):=h.set k _
theorem Co_.same (h:Co_ c n w B out wx) (hg:wx.grownBy wy none):Co_ c n w B out wy:=
 ⟨h.box.same hg,h.len,h.out.kept hg (by simp),Aa_ h.grown hg,h.lt⟩
theorem Co_.drew (h:Co_ c n w B out wx):Co_ c n w B out wx.drew:=h.same (Am_ (Ab_ _ _))
theorem Co_.cell (h:Co_ c n w B out wx) {k:Nat} (hk:k<n):wx.cell? ⟨B,k,none⟩=some (.int .i64 (out[k]?.getD 0)):=by
 rw[←List.getD_eq_getElem?_getD];exact h.out.cell (by rw[h.len];exact hk)
theorem Co_.free (h:Co_ c n w B out wx) (k:Nat):wx.frozen? ⟨B,k,none⟩=false:=h.out.free k
end
attribute [local go_sem ↓] Ag_
attribute [local go_sem] Ah_
theorem Li_ (c:Cfg) (l:List (Int×Int)) (t:List Int) (w:World) (hn:CfgNums c) (hm:CfgMem c l t w) (hc:F1_ c l) :
  Calls Tryz.prog 40 #[c.val] w (dg_ (demF c l) w):=by
 obtain⟨a11,a12⟩:=hn.width;have hp:0<l.length:=hc.ok.pos;have hp8:l.length≤8:=hc.ok.len;obtain⟨g,off,cap,hv,hgl,hcl⟩:=hm.classes.cell C9_ hp;have k1:=Jm_ (8*c.Width) hp;have k2:=Jm_ 32 hp;have k3:=Jm_ 24 hp;have Hn:=hh_ hn;have Hm:=hh_ hm;have Hc:=hh_ hc;have Hv:=hh_ hv
 have HR:Hid (∀w',w.grownBy w' none→RdL clsF 2 w' (.slice (some ⟨g,off,none⟩) l.length cap) l):=hh_ fun w' hg=>by rw[←hv];exact(hm.same hg).classes
 have hmk:=Sj_ l.length (by omega);clear hn hm hc hcl hv
 go_enter func40,ntmps40
 go_upto_region 6 with(first |(refine Au_ rfl _ rfl c rfl ?_;intro w1 B1 G1 z1) |(refine Al_ rfl _ rfl _ rfl c (by assumption) ?_) |(go_at_call 75;refine(Lv_ c l t _ Hn.out (Hm.out.same G1) Hc.out).mono ?_;rintro e w2 ⟨rfl,G2⟩;have B2:=B1.same G2;have K2:=Aa_ G1 G2;have hb2:=B2.cell;simp only[Cfg.arr,Hv.out] at hb2;have z2:=ll_ z1 G2.size;clear G1 G2 B1 z1) |(go_at_call 76;refine(S6_ _ l _ _ (HR.out _ (Aa_ K2 (ga_ w2 _ _)))).mono ?_;rintro e w3 ⟨rfl,G3⟩;have B3:=(B2.same (ga_ w2 _ _)).same G3;have O3:=hh_ ((OutAt.new w2 l.length).kept G3 (by simp));have K3:=Aa_ (Aa_ K2 (ga_ w2 _ _)) G3;have hb3:=B3.cell;simp only[Cfg.arr,Hv.out] at hb3;clear hb2 G3 B2))
 obtain⟨B,hB⟩:∃B,B=w2.heap.size:=⟨_,rfl⟩;have S3:Co_ c l.length w B (List.replicate l.length 0) w3:=⟨B3,by simp,by rw[hB];exact O3.out,K3,by rw[hB];exact z2⟩;have Hd1:=hh_ (show demB1 c l=Dx_ (List.replicate l.length 0) (fitI l (8*c.Width)) (rowN c) from rfl);have hb0:=BdL.zero l.length (fitI l (8*c.Width));have oc:=(S3.cell k1);have oc':=(O3.out.cell (k:=fitI l (8*c.Width)) (by simpa using k1));have of:=O3.out.free (fitI l (8*c.Width))
 have ok :(0:Int)≤(fitI l (8*c.Width):Nat):=by omega
 have ok' :((fitI l (8*c.Width):Nat):Int)<l.length:=by omega
 clear oc';rw[←hB] at of;rw[←hB];clear hmk B3 O3 K3 hB;generalize List.replicate l.length (0:Int)=o0 at *;have R1:=R2_ Hn.out;have R2:=Jj_ Hn.out;have R3:=J3_ Hn.out;unfold rowN at R1;unfold trkN at R2;unfold queN at R3;have R4:0≤c.Shards*c.Windows∧c.Shards*c.Windows≤64:=⟨Int.mul_nonneg (by have:=Hn.out.shards;omega) (by have:=Hn.out.windows;omega),by have:=Int.mul_le_mul Hn.out.shards.2 Hn.out.windows.2 (by have:=Hn.out.windows;omega) (by omega);simpa using this⟩;obtain⟨R1a,R1b⟩:=R1;obtain⟨R2a,R2b⟩:=R2;obtain⟨R3a,R3b⟩:=R3;obtain⟨R4a,R4b⟩:=R4;obtain⟨hb0a,hb0b⟩:=hb0;obtain⟨hsl1,hsl2⟩:=Hn.out.slots;obtain⟨hex1,hex2⟩:=Hn.out.exact
 go_cut [5] (fun s5 wx=>s5=.slice (some ⟨B,0,none⟩) l.length l.length∧Co_ c l.length w B (demB1 c l) wx)
 case first=>
  go_still_tail 14,(by kernel_rfl)
  go_wp2_with fail
  go_meet
  exact⟨rfl,by rw[Hd1.out];exact S3.drew.add _ (rowN c)⟩
 case rest=>
  obtain⟨rfl,S4⟩:=hcut;clear hb3;have hb4:=S4.box.cell;simp only[Cfg.arr,Hv.out] at hb4
  go_upto_region 8 with(go_at_call 76;refine(S6_ _ l _ _ (HR.out _ S4.grown)).mono ?_;rintro e w5 ⟨rfl,G5⟩;have S5:=S4.same G5;clear G5 hb4)
  go_cut [5] (fun s5 wx=>s5=.slice (some ⟨B,0,none⟩) l.length l.length∧Co_ c l.length w B (demB2 c l) wx)
  case first=>
   have Hd2:=hh_ (show demB2 c l=Dx_ (demB1 c l) (fitI l 32) (trkN c) from rfl);obtain⟨bx0,bx1⟩:=Ov_ (l:=l) Hn.out (fitI l 32);generalize demB1 c l=o1 at *;have hx5:=S5.cell k2
   have hk2 :(0:Int)≤(fitI l 32:Nat):=by omega
   have hk2' :((fitI l 32:Nat):Int)<l.length:=by omega
   obtain⟨r1,r2,r3⟩:=S5.box.re;have r4:=cell_regrown hx5
   have r5:=Bi_ (w:=w5) fun w' hg=>K8_ c l t w' Hn.out (Hm.out.same (Aa_ S5.grown hg)) Hc.out
   refine Tail.wp_region_tail_grown 8 (by kernel_rfl) (by kernel_rfl) ?_;simp only[List.take,List.drop]
   repeat(go_big_quiet_step (exact r5 _ _))
   refine wn_ ?_;rintro _ ⟨⟨d5,os5⟩,rfl⟩;have S5':=S5.same (A1_ w5 d5 os5);have hx5':=S5'.cell k2;have hf5:=S5'.free (fitI l 32);clear r1 r2 r3 r4 r5;generalize Go.Sort.grow (redrawn w5 d5) os5=w6 at *
   go_wp2_with fail
   go_meet
   exact⟨rfl,by rw[Hd2.out];exact S5'.add _ (trkN c)⟩
  case rest=>
   obtain⟨rfl,S6⟩:=hcut;have hb6:=S6.box.cell;simp only[Cfg.arr,Hv.out] at hb6
   go_upto_region 10 with(go_at_call 76;refine(S6_ _ l _ _ (HR.out _ S6.grown)).mono ?_;rintro e w7 ⟨rfl,G7⟩;have S7:=S6.same G7;clear G7 hb6)
   go_cut [5] (fun s5 wx=>s5=.slice (some ⟨B,0,none⟩) l.length l.length∧Co_ c l.length w B (demB c l) wx)
   case first=>
    have Hd3:=hh_ (show demB c l=Dx_ (demB2 c l) (fitI l 24) (queN c) from rfl);obtain⟨bx0,bx1⟩:=Pr_ (l:=l) Hn.out (fitI l 24);generalize demB2 c l=o2 at *;have hx7:=S7.cell k3
    have hk3 :(0:Int)≤(fitI l 24:Nat):=by omega
    have hk3' :((fitI l 24:Nat):Int)<l.length:=by omega
    have hf7:=S7.free (fitI l 24);have hb7:=S7.box.cell
    go_still_tail 11,(by kernel_rfl)
    go_wp2_with fail
    go_meet
    exact⟨rfl,by rw[Hd3.out];exact S7.drew.add _ (queN c)⟩
   case rest=>
    obtain⟨rfl,S8⟩:=hcut;obtain⟨y1,y2⟩:=Hn.out.key;have HF0:=hh_ (show keyF l (trkN c+queN c) (demB c l) 0 =(-1,demB c l) from rfl);have HFs:=hh_ (p:=∀n:Nat,keyF l (trkN c+queN c) (demB c l) (n+1)=if ((fitI l ((n+1:Nat):Int):Nat):Int)≠(keyF l (trkN c+queN c) (demB c l) n).1 then (((fitI l ((n+1:Nat):Int):Nat):Int),Dx_ (keyF l (trkN c+queN c) (demB c l) n).2 (fitI l ((n+1:Nat):Int)) (trkN c+queN c)) else keyF l (trkN c+queN c) (demB c l) n) (fun n=>rfl);have HFe:=hh_ (show demF c l =(keyF l (trkN c+queN c) (demB c l) c.Key.toNat).2 from rfl)
    have HFb:=hh_ fun(n:Nat) (hn:n≤256)=>ev_ (l:=l) Hn.out hn
    have HFl:=hh_ (Jl_ c l);generalize keyF l (trkN c+queN c) (demB c l)=F at *
    go_wp2_with fail
    go_loopw [12,13] (fun s12 s13 wr=>∃(k n:Nat) (la:Int) (o:List Int),k=n+1∧s13=.int .i64 k∧s12=.int .i64 la∧F n =(la,o)∧(k:Int)≤c.Key+1∧Co_ c l.length w B o wr) (fun _ s13 _=>(c.Key+1-RowKit.intOf s13).toNat)
    case atStart=>exact⟨1,0,-1,_,rfl,rfl,rfl,HF0.out,by omega,S8⟩
    case round=>
     obtain⟨k,n,la,o9,hkn,rfl,rfl,hFn,hk,S9⟩:=hrel;have hb9:=S9.box.cell;simp only[Cfg.arr,Hv.out] at hb9;have hbd:=HFb.out n (by omega);have hFs:=HFs.out n;rw[hFn] at hbd hFs;rw[←hkn] at hFs;have HFn:=hh_ hFs;have HKn:=hh_ hkn;have HF2:=hh_ hFn;clear hFs hkn hFn;have kk:=Jm_ (l:=l) (k:Int) hp
     by_cases hlt :(k:Int)≤c.Key
     ·cases hq :((fitI l (k:Int):Int) != la)
      ·have HQ:=hh_ (show F k =(la,o9) from HFn.out.trans (if_neg (by simpa using hq)))
       go_wp2_with (go_at_call 76;refine(S6_ _ l _ _ (HR.out _ S9.grown)).mono ?_;rintro e w10 ⟨rfl,G10⟩)
       exact⟨⟨k+1,k,la,o9,rfl,by go_num,rfl,HQ.out,by omega,S9.same G10⟩,by simp[RowKit.intOf];omega⟩
      ·have HQ:=hh_ (show F k =(((fitI l (k:Int):Nat):Int),Dx_ o9 (fitI l (k:Int)) (trkN c+queN c)) from HFn.out.trans (if_pos (by simpa using hq)))
       go_wp2_with (go_at_call 76;refine(S6_ _ l _ _ (HR.out _ S9.grown)).mono ?_;rintro e w10 ⟨rfl,G10⟩;have S10:=S9.same G10;clear G10 hb9)
       have hx10:=S10.cell kk;obtain⟨bx0,bx1⟩:=hbd (fitI l (k:Int))
       have hk4 :(0:Int)≤(fitI l (k:Int):Nat):=by omega
       have hk4' :((fitI l (k:Int):Nat):Int)<l.length:=by omega
       obtain⟨r1,r2,r3⟩:=S10.box.re;have r4:=cell_regrown hx10
       have r5:=Bi_ (w:=w10) fun w' hg=>K8_ c l t w' Hn.out (Hm.out.same (Aa_ S10.grown hg)) Hc.out
       refine Tail.wp_region_tail_grown 14 (by kernel_rfl) (by kernel_rfl) ?_;simp only[List.take,List.drop]
       repeat(go_big_quiet_step (exact r5 _ _))
       refine wn_ ?_;rintro _ ⟨⟨d5,os5⟩,rfl⟩;have S10':=S10.same (A1_ w10 d5 os5);have hx10':=S10'.cell kk;have hf10:=S10'.free (fitI l (k:Int));clear r1 r2 r3 r4 r5 hx10;generalize Go.Sort.grow (redrawn w10 d5) os5=w11 at *
       go_wp2_with fail
       refine⟨⟨k+1,k,_,_,rfl,by go_num,rfl,HQ.out,by omega,S10'.add _ (trkN c+queN c)⟩,?_⟩
       simp[RowKit.intOf];omega
     ·have HQ:=hh_ (show demF c l=o9 by rw[HFe.out,show c.Key.toNat=n by have:=HKn.out;omega,HF2.out])
      go_wp2_with fail
      go_ret2
      have hl9:=HFl.out;rw[HQ.out] at hl9 ⊢;exact⟨B,by rw[hl9];rfl,Nat.le_of_lt S9.lt,S9.out,S9.grown⟩
end
section
open Go.RowKit
def keysAdd (d:List Int) (X:Int):Nat→List Int
 | 0=>d
 | m+1=>Dx_ (keysAdd d X m) m X
theorem Hk_ (d:List Int) (X:Int):∀m,(keysAdd d X m).length=d.length
 | 0=>rfl
 | m+1=>by unfold keysAdd;rw[H8_,Hk_ d X m]
theorem Vd_ (o:List Int) (k:Nat) (x:Int) (j:Nat) :(Dx_ o k x)[j]?.getD 0=if k=j∧j<o.length then o[j]?.getD 0+x else o[j]?.getD 0:=by
 unfold Dx_;rw[List.getElem?_set]
 by_cases e:k=j
 ·subst e
  rw[if_pos rfl]
  by_cases hl:k<o.length
  ·rw[if_pos hl,if_pos ⟨rfl,hl⟩];rfl
  ·rw[if_neg hl,if_neg (fun h=>hl h.2),List.getElem?_eq_none (by omega)]
 ·rw[if_neg e,if_neg (fun h=>e h.1)]
theorem Gw_ (d:List Int) (X:Int):∀(m j:Nat),(keysAdd d X m)[j]?.getD 0=if j<m∧j<d.length then d[j]?.getD 0+X else d[j]?.getD 0
 | 0,j=>by simp[keysAdd]
 | m+1,j=>by
  unfold keysAdd;rw[Vd_,Hk_,Gw_ d X m j]
  by_cases h1:m=j
  ·subst h1
   by_cases h2:m<d.length
   ·rw[if_pos ⟨rfl,h2⟩,if_neg (by omega),if_pos ⟨by omega,h2⟩]
   ·rw[if_neg (fun h=>h2 h.2),if_neg (by omega),if_neg (fun h=>h2 h.2)]
  ·rw[if_neg (fun h=>h1 h.1)]
   by_cases h2:j<m∧j<d.length
   ·rw[if_pos h2,if_pos ⟨by omega,h2.2⟩]
   ·rw[if_neg h2,if_neg (fun h=>h2 ⟨by omega,h.2⟩)]
theorem N9_ {l:List (Int×Int)} {size:Int} {k:Nat} {p:Int×Int} (hs:1≤size) (h:∀(j:Nat) (p:Int×Int),j<k→l[j]?=some p→p.1<size) (hk:l[k]?=some p) (hp:size≤p.1):fitI l size=k:=by
 unfold fitI;rw[Px_ hs h hk hp];rfl
theorem e7_ {l:List (Int×Int)} {n:Int} (hn:1≤n) {q:Int×Int} {m:Nat} (hq:l[m]?=some q) (hl:n≤q.1) :
  ∃p,l[fitI l n]?=some p∧n≤p.1∧∀(j:Nat) (p:Int×Int),j<fitI l n→l[j]?=some p→p.1<n:=by
 unfold fitI fit;rw[if_pos hn]
 cases hf:l.findIdx? (fun p=>decide (n≤p.1)) with
 | none=>
  rw[List.findIdx?_eq_none_iff] at hf
  have:=hf q (mo_ hq)
  simp at this;omega
 | some k=>
  rw[List.findIdx?_eq_some_iff_getElem] at hf;obtain⟨h1,h2,h3⟩:=hf;refine⟨l[k],by simp[gq_ h1],by simpa using h2,fun j p hj hp=>?_⟩;simp only[Option.getD_some] at hj;obtain⟨h4,rfl⟩:=gs_ hp
  have:=h3 j hj
  simpa using this
theorem Zd_ {l:List (Int×Int)} (h:Og_ l) {n:Int} (hn:1≤n) {q:Int×Int} {m:Nat} (hq:l[m]?=some q) (hl:n+1≤q.1):fitI l (n+1)=fitI l n∨fitI l (n+1)=fitI l n+1:=by
 obtain⟨p,hp,h1,h2⟩:=e7_ hn hq (by omega)
 by_cases hb:n+1≤p.1
 ·exact .inl (N9_ (by omega) (fun j p hj hp=>by have:=h2 j p hj hp;omega) hp hb)
 ·right
  have hmk:fitI l n<m:=by
   rcases Nat.lt_trichotomy (fitI l n) m with h3|h3|h3
   ·exact h3
   ·rw[h3,hq] at hp;cases hp;omega
   ·have:=h2 m q h3 hq;omega
  have hml:=(gs_ hq).1;have hp2:l[fitI l n+1]?=some l[fitI l n+1]:=gq_ (by omega);have h4:=h.asc _ _ _ hp hp2;refine N9_ (by omega) (fun j p' hj hp'=>?_) hp2 (by omega)
  rcases Nat.lt_or_ge j (fitI l n) with h5|h5
  ·have:=h2 j p' h5 hp';omega
  ·obtain rfl:j=fitI l n:=by omega
   rw[hp'] at hp;cases hp;omega
theorem du_ {l:List (Int×Int)} (h:Og_ l):fitI l 1=0:=by
 have hp:l[0]?=some (l[0]'h.pos):=gq_ h.pos;exact N9_ (by omega) (fun j p hj _=>absurd hj (by omega)) hp (h.size 0 _ hp).1
theorem Rt_ {l:List (Int×Int)} (h:Og_ l) (X:Int) (d:List Int) {q:Int×Int} {m:Nat} (hq:l[m]?=some q):∀n:Nat,((n+1:Nat):Int)≤q.1→keyF l X d (n+1) =((fitI l ((n+1:Nat):Int):Int),keysAdd d X (fitI l ((n+1:Nat):Int)+1))
 | 0,_=>by
  have h1:fitI l ((0+1:Nat):Int)=0:=du_ h;unfold keyF;rw[h1]
  simp[keyF,keysAdd]
 | n+1,hn=>by
  have ih:=Rt_ h X d hq n (by omega);unfold keyF;rw[ih];have hs:=Zd_ h (n:=((n+1:Nat):Int)) (by omega) hq (by omega);rw[show((n+1:Nat):Int)+1 =((n+1+1:Nat):Int) by omega] at hs
  rcases hs with e|e
  ·rw[e,if_neg (by simp)]
  ·rw[e,if_pos (by simp only;omega)]
   rfl
theorem dh_ {c:Cfg} {l:List (Int×Int)} (hn:CfgNums c) (hc:F1_ c l):demF c l=keysAdd (demB c l) (trkN c+queN c) (fitI l c.Key+1):=by
 have hk:=hn.key;have hp:=hc.ok.pos;have hq:l[l.length-1]?=some (l[l.length-1]'(by omega)):=gq_ (by omega);obtain⟨k,hkk⟩:∃k:Nat,c.Key.toNat=k+1:=⟨c.Key.toNat-1,by omega⟩
 have hk2 :((k+1:Nat):Int)=c.Key:=by omega
 unfold demF;rw[hkk,Rt_ hc.ok _ _ hq k (by rw[hk2];exact(hc.last _ hq).2.2),hk2]
theorem Tf_ {c:Cfg} {l:List (Int×Int)} (hn:CfgNums c) (hc:F1_ c l) (i:Nat):0≤(demF c l)[i]?.getD 0∧(demF c l)[i]?.getD 0≤13568:=by
 have h1:=Jj_ hn;have h2:=J3_ hn;have h3:=Ss_ (l:=l) hn i;rw[dh_ hn hc,Gw_]
 split <;> omega
theorem Ee_ {l l':List (Int×Int)} (h:l.map (·.1)=l'.map (·.1)) (n:Int):fitI l n=fitI l' n:=by
 have key:∀l:List (Int×Int),fit l n=if 1≤n then (l.map (·.1)).findIdx? (fun s=>decide (n≤s)) else none:=by
  intro l;unfold fit
  split
  ·rw[List.findIdx?_map];rfl
  ·rfl
 unfold fitI;rw[key,key,h]
theorem Qj_ {c:Cfg} {l l':List (Int×Int)} (h:l.map (·.1)=l'.map (·.1)):demB c l=demB c l':=by
 have hl:l.length=l'.length:=by have:=congrArg List.length h;simpa using this
 unfold demB demB2 demB1;rw[Ee_ h,Ee_ h,Ee_ h,hl]
theorem I5_ {l l':List (Int×Int)} (h:l.map (·.1)=l'.map (·.1)) (X:Int) (d:List Int):∀n,keyF l X d n=keyF l' X d n
 | 0=>rfl
 | n+1=>by unfold keyF;rw[I5_ h X d n,Ee_ h]
theorem Qo_ {c:Cfg} {l l':List (Int×Int)} (h:l.map (·.1)=l'.map (·.1)):demF c l=demF c l':=by
 unfold demF;rw[Qj_ h,I5_ h]
end
section
open Go.RowKit
theorem ClsSt.setN {B b r g:Nat} {w:World} {c:Cfg} {t:List Int} {k:Nat} {l:List (Int×Int)} {wx:World} (S:ClsSt B b r g w c t k l wx) {i:Nat} (hi:i<l.length) (v:Int) :
  ClsSt B b r g w c t k (l.set i ((l.getD i (0,0)).1,v)) (wx.setCell ⟨k,i*2+1,none⟩ (.int .i64 v)):=by
 have h1:=S.st.deck.below;have h2:=S.st.old;have h3:=S.st.lt;have h4:=S.lt;have hg:wx.grownBy (wx.setCell ⟨k,i*2+1,none⟩ (.int .i64 v)) (some k):=Ac_ (Ab_ wx _) _ _;have h5:=S.st.grown.size;have h6:=S.st.low;refine⟨⟨S.st.nums,S.st.deck.kept hg (by intro x hx;cases hx;omega),S.st.box.kept hg (by simp;omega),S.st.res.kept hg (by simp;omega),S.st.table.kept hg ?_,S.st.tlen,S.st.twords,S.st.tblock,S.st.lt,S.st.old,S.st.low,?_⟩,S.spread,S.cls.set hi v,?_,S.lt,?_⟩
 ·intro x hx a n m hv
  cases hx
  have:=S.st.tblock a n m hv
  omega
 ·exact⟨S.st.grown.os,S.st.grown.tape,S.st.grown.output,by have:=S.st.grown.size;simpa [World.setCell] using this,fun i hi hnn=>(hg.block i (ll_ hi h5) (by simp;omega)).trans (S.st.grown.block i hi hnn)⟩
 ·rw[S.val];simp
 ·simpa using S.len
def cntTo (l:List (Int×Int)) (o:List Int):Nat→List (Int×Int)
 | 0=>l
 | j+1=>(cntTo l o j).set j (((cntTo l o j).getD j (0,0)).1,o.getD j 0)
theorem B2_ (l:List (Int×Int)) (o:List Int):∀j,(cntTo l o j).length=l.length
 | 0=>rfl
 | j+1=>by unfold cntTo;rw[List.length_set,B2_ l o j]
theorem Fa_ (l:List (Int×Int)) (o:List Int):∀(j i:Nat) (p:Int×Int),l[i]?=some p→(cntTo l o j)[i]?=some (p.1,if i<j then o.getD i 0 else p.2)
 | 0,i,p,h=>by simpa [cntTo] using h
 | j+1,i,p,h=>by
  have ih:=Fa_ l o j i p h;have hl:=(gs_ h).1;unfold cntTo;rw[List.getElem?_set]
  by_cases e:j=i
  ·subst e
   rw[if_pos rfl,if_pos (by rw[B2_];exact hl),if_pos (by omega)];rw[List.getD_eq_getElem?_getD,ih]
   rfl
  ·rw[if_neg e,ih]
   by_cases h2:i<j
   ·rw[if_pos h2,if_pos (by omega)]
   ·rw[if_neg h2,if_neg (by omega)]
theorem Eb_ {l:List (Int×Int)} {o:List Int} {j i:Nat} {p:Int×Int} (h :(cntTo l o j)[i]?=some p):∃q,l[i]?=some q∧p =(q.1,if i<j then o.getD i 0 else q.2):=by
 have hl:=(gs_ h).1;rw[B2_] at hl
 have:=Fa_ l o j i _ (gq_ hl)
 rw[h] at this;exact⟨_,gq_ hl,Option.some.inj this⟩
theorem N7_ (l:List (Int×Int)) (o:List Int) (j:Nat) :(cntTo l o j).map (·.1)=l.map (·.1):=by
 apply List.ext_getElem?
 intro i;rw[List.getElem?_map,List.getElem?_map]
 cases h:l[i]? with
 | none=>rw[List.getElem?_eq_none (by rw[B2_];exact List.getElem?_eq_none_iff.1 h)]
 | some p=>rw[Fa_ l o j i p h];rfl
structure ClsFit (c:Cfg) (l:List (Int×Int)):Prop where
 cls:F1_ c l
 cnt:∀i (hi:i<l.length),l[i].2 =(demF c l)[i]?.getD 0
theorem Ks_ {c:Cfg} {l l':List (Int×Int)} (hc:F1_ c l) (hn:CfgNums c) (h:l'=cntTo l (demF c l) l.length):ClsFit c l':=by
 subst h;have hs:=N7_ l (demF c l) l.length;have hd:demF c (cntTo l (demF c l) l.length)=demF c l:=Qo_ hs;refine⟨⟨⟨by rw[B2_];exact hc.ok.pos,by rw[B2_];exact hc.ok.len,fun i p hp=>?_,fun i p q hp hq=>?_⟩,fun p hp=>?_⟩,fun i hi=>?_⟩
 ·obtain⟨q,hq,rfl⟩:=Eb_ hp
  have h1:=hc.ok.size i q hq;have h2:=Tf_ hn hc i;have hl:=(gs_ hq).1;rw[if_pos hl,List.getD_eq_getElem?_getD];exact⟨h1.1,h1.2.1,h2.1,by show _≤_;have:=h2.2;simp only;omega⟩
 ·obtain⟨p',hp',rfl⟩:=Eb_ hp
  obtain⟨q',hq',rfl⟩:=Eb_ hq;exact hc.ok.asc i p' q' hp' hq'
 ·rw[B2_] at hp
  obtain⟨q,hq,rfl⟩:=Eb_ hp;exact hc.last q hq
 ·rw[hd]
  have hi2:i<l.length:=by rw[B2_] at hi;exact hi
  have:=Fa_ l (demF c l) l.length i _ (gq_ hi2)
  rw[gq_ hi,if_pos hi2,List.getD_eq_getElem?_getD] at this;rw[Option.some.inj this]
def Mx_ (B b:Nat) (w:World) (e:Ending) (w':World):Prop:=
 ∃c l t,e=.returned c.val∧CfgNums c∧CfgMem c l t w'∧Deck B w' b∧w.grownBy w' (some b)∧(∀a n m,c.Table=.slice (some a) n m→w.heap.size≤a.block)∧(∀a n m,c.Classes=.slice (some a) n m→w.heap.size≤a.block)∧Nums0 c∧ClsFit c l
attribute [local go_sem ↓] Ag_
attribute [local go_sem] Ah_
theorem U5_ {B:Nat} (b:Nat) (w:World) (hd:Deck B w b) (hB:B≤w.heap.size) :
  Calls Tryz.prog 18 #[.pointer (some ⟨b,0,none⟩)] w (Mx_ B b w):=by
 have hbB:=hd.below
 go_enter func18,ntmps18
 go_upto_region 1 with(refine C0_ rfl rfl ?_;intro w1 BR GG z1)
 replace hd:=hd.kept GG (by simp);replace GG:=Ak_ GG (some b)
 have hB1:B≤w1.heap.size:=by omega
 simp only[pt_]
 go_cut [3] (fun s3 wx=>∃g c t,s3=.pointer (some ⟨g,0,none⟩)∧MakeSt B b w.heap.size g w c t wx)
 case first=>
  go_wp2_with (first |(refine C0_ rfl rfl ?_;intro w4 BG G4 z4;replace BR:=BR.same G4;have ht7:=ht6.same G4;have hd4:=Deck.kept (by assumption) G4 (by simp);replace GG:=Aa_ GG (Ak_ G4 (some b));clear G4) |(refine C3_ rfl _ _ rfl _ rfl ⟨_,_,_,_,_,_,_,_,_,_,_,_,_,_,_,_,_⟩ rfl rfl rfl Cfg.zero (by assumption) ?_;intro w5 BC G5) |(go_at_call 37;refine(A3_ b _ _ (by assumption) (by omega) (by omega)).mono ?_;rintro e w2 ⟨r,rfl,hr0,hr1,hd2,G2⟩;replace BR:=BR.kept G2 (by simp;omega);replace GG:=Aa_ GG G2;replace hB1:=lt_ hB1 G2.size;replace z1:=ll_ z1 G2.size;clear G2) |(go_at_call 38;refine(Xu_ b _ (by assumption) hB1).mono ?_;rintro e w2 ⟨tv,tl,rfl,ht1,ht2,ht3,ht4,ht5,hd2,G2⟩;obtain⟨ta,tc,rfl⟩:=ht1.shape;replace BR:=BR.kept G2 (by simp;omega);replace GG:=Aa_ GG G2;have ht5':=hh_ (fun a n c h=>ll_ z1 (ht5 a n c h));replace hB1:=lt_ hB1 G2.size;replace z1:=ll_ z1 G2.size;clear G2 ht5) |(go_at_call 39;refine(a4_ b _ (by assumption)).mono ?_;rintro e w3 ⟨r,rfl,hr0,hr1,hd3,G3⟩;replace BR:=BR.kept G3 (by simp;omega);replace GG:=Aa_ GG G3;have ht6:=ht1.kept G3 (by intro b' hb';cases hb';exact ht4);replace hB1:=lt_ hB1 G3.size;replace z1:=ll_ z1 G3.size;clear G3))
  go_meet
  have hne:w3.heap.size≠w.heap.size:=by omega
  have hbg:B≤w3.heap.size:=hB1
  have hin:NotIn (.slice ta tl.length tc) w3.heap.size:=fun a n k hv=>Nat.ne_of_lt (ht6.blockLt (by omega) a n k hv)
  have ht8:RdL wordF 1 w5 (.slice ta 16 tc) tl:=by
   have hh:RdL wordF 1 w5 (.slice ta tl.length tc) tl:=ht7.kept G5 (by intro c hc;cases hc;exact hin);rw[ht2] at hh;exact hh
  refine⟨_,_,tl,rfl,⟨⟨?_,?_,?_,?_,?_,?_,?_,?_,?_,?_,?_,?_,?_,?_⟩,hd4.kept G5 (by intro c hc;cases hc;exact hbg),BC,BR.kept G5 (by simpa using hne),ht8,ht2,ht3,?_,z1,hB,rfl,?_⟩⟩
  case refine_15=>intro a n k hv;cases hv;exact⟨ht5'.out _ _ _ rfl,ht6.blockLt (by omega) _ _ _ rfl⟩
  case refine_16=>
   refine⟨G5.os.trans GG.os,G5.tape.trans GG.tape,G5.output.trans GG.output,lt_ GG.size G5.size,fun i hi hn=>(G5.block i (ll_ hi GG.size) ?_).trans (GG.block i hi hn)⟩
   simp;omega
  all_goals (simp only;omega)
 case rest=>
  obtain⟨g,c,t,rfl,S1⟩:=hcut;have hn1:=S1.nums.shards;have hlt1:=S1.lt;have hold1:=S1.old;have c1:=S1.box.cell;obtain⟨m1,m2⟩:=hn1;have D1:=S1.deck
  go_upto_region 2 with fail
  go_cut [3] (fun s3 wx=>∃c',s3=.pointer (some ⟨g,0,none⟩)∧MakeSt B b w.heap.size g w c' t wx∧1≤c'.Spread∧c'.Spread≤c'.Shards)
  case first=>
   go_wp2_with ((go_at_call 37;refine(A3_ b _ _ (by assumption) (by omega) (by omega)).mono ?_;rintro e w2 ⟨r,rfl,hr0,hr1,hd2,G2⟩);have S2:=S1.next hd2 G2;have c2:=S2.box.cell;have f2:=S2.box.free;clear c1 G2)
   go_meet
   exact⟨⟨c.Length,c.Lateness,c.Windows,c.Shards,1+r,c.Queue,c.Mode,c.Slots,c.Exact,c.Promote,c.Depth,c.Width,c.Top,c.Key,c.Classes,c.Table,c.Seed⟩,rfl,S2.set 4 _ rfl ⟨S2.nums.1,S2.nums.2,S2.nums.3,S2.nums.4,S2.nums.5,S2.nums.6,S2.nums.7,S2.nums.8,S2.nums.9,S2.nums.10,S2.nums.11,S2.nums.12,S2.nums.13,S2.nums.14⟩ rfl,by simp only;omega,by simp only;omega⟩
  case rest=>
  obtain⟨c3,rfl,S3,h3a,h3b⟩:=hcut;clear c1 D1 S1 m1 m2;have D3:=S3.deck
  go_upto_if 54 with((go_at_call 37;refine(A3_ b _ _ (by assumption) (by omega) (by omega)).mono ?_;rintro e w2 ⟨r,rfl,hr0,hr1,hd2,G2⟩);have S4:=S3.next hd2 G2;have c4:=S4.box.cell;have f4:=S4.box.free;clear D3 G2)
  go_cut [3] (fun s3 wx=>∃c',s3=.pointer (some ⟨g,0,none⟩)∧MakeSt B b w.heap.size g w c' t wx∧1≤c'.Spread∧c'.Spread≤c'.Shards)
  case first=>
   go_wp2_with fail
   ·go_meet
    exact⟨⟨c3.Length,c3.Lateness,c3.Windows,c3.Shards,c3.Spread,64,c3.Mode,c3.Slots,c3.Exact,c3.Promote,c3.Depth,c3.Width,c3.Top,c3.Key,c3.Classes,c3.Table,c3.Seed⟩,rfl,S4.set 5 _ rfl ⟨S4.nums.1,S4.nums.2,S4.nums.3,S4.nums.4,by simp,S4.nums.6,S4.nums.7,S4.nums.8,S4.nums.9,S4.nums.10,S4.nums.11,S4.nums.12,S4.nums.13,S4.nums.14⟩ rfl,h3a,h3b⟩
   ·go_meet
    exact⟨c3,rfl,S4,h3a,h3b⟩
  case rest=>
  obtain⟨c5,rfl,S5,h5a,h5b⟩:=hcut;clear c4 f4 S4 S3 h3a h3b hd2;have D5:=S5.deck
  go_upto_if 58 with((go_at_call 37;refine(A3_ b _ _ (by assumption) (by omega) (by omega)).mono ?_;rintro e w2 ⟨r,rfl,hr0,hr1,hd2,G2⟩);have S6:=S5.next hd2 G2;clear D5 G2)
  go_cut [3] (fun s3 wx=>∃c',s3=.pointer (some ⟨g,0,none⟩)∧MakeSt B b w.heap.size g w c' t wx∧1≤c'.Spread∧c'.Spread≤c'.Shards)
  case first=>
   go_wp2_with ((go_at_call 37;refine(A3_ b _ _ (by assumption) (by omega) (by omega)).mono ?_;rintro e w2 ⟨r,rfl,hr0,hr1,hd2,G2⟩);have S7:=S6.next hd2 G2;have c7:=S7.box.cell;have f7:=S7.box.free;clear G2)
   ·go_meet
    exact⟨⟨c5.Length,c5.Lateness,c5.Windows,c5.Shards,c5.Spread,c5.Queue,c5.Mode,c5.Slots,c5.Exact,c5.Promote,c5.Depth,c5.Width,c5.Top,5+r,c5.Classes,c5.Table,c5.Seed⟩,rfl,S7.set 13 _ rfl ⟨S7.nums.1,S7.nums.2,S7.nums.3,S7.nums.4,S7.nums.5,S7.nums.6,S7.nums.7,S7.nums.8,S7.nums.9,S7.nums.10,S7.nums.11,S7.nums.12,by simp only;omega,S7.nums.14⟩ rfl,h5a,h5b⟩
   ·go_meet
    exact⟨c5,rfl,S6,h5a,h5b⟩
  case rest=>
  obtain⟨c8,rfl,S8,h8a,h8b⟩:=hcut;clear S6 S5 h5a h5b hd2;have c8c:=S8.box.cell;have f8:=S8.box.free;have l8:=S8.box.lt
  go_upto_region 7 with fail
  go_cut [3] (fun s3 wx=>∃c' k l,s3=.pointer (some ⟨g,0,none⟩)∧ClsSt B b w.heap.size g w c' t k l wx∧(l=fiveL∨l=oneL))
  case first=>
   go_wp2_with fail
   go_meet
   exact⟨_,_,fiveL,rfl,Ml_ S8 fiveL (by decide) ⟨h8a,h8b⟩,.inl rfl⟩
  case rest=>
  obtain⟨c9,k9,l9,rfl,S9,hl9⟩:=hcut;clear c8c f8 l8 S8 h8a h8b;have D9:=S9.st.deck
  go_upto_if 72 with((go_at_call 37;refine(A3_ b _ _ (by assumption) (by omega) (by omega)).mono ?_;rintro e w2 ⟨r,rfl,hr0,hr1,hd2,G2⟩);have S10:=S9.next hd2 G2;clear D9 G2)
  go_cut [3] (fun s3 wx=>∃c' k l,s3=.pointer (some ⟨g,0,none⟩)∧ClsSt B b w.heap.size g w c' t k l wx∧(l=fiveL∨l=oneL))
  case first=>
   have c10:=S10.st.box.cell;have f10:=S10.st.box.free;have l10:=S10.st.box.lt
   go_wp2_with fail
   ·go_meet
    exact⟨_,_,oneL,rfl,Ml_ S10.st oneL (by decide) S10.spread,.inr rfl⟩
   ·go_meet
    exact⟨_,_,_,rfl,S10,hl9⟩
  case rest=>
  obtain⟨c,k,l,rfl,S11,hl⟩:=hcut;clear S10 S9 hl9 hd2
  have hcls:F1_ c l:=by
   have hw:=S11.st.nums.width;have hk:=S11.st.nums.key
   rcases hl with rfl|rfl
   ·exact⟨dq_,fun p hp=>by simp[fiveL] at hp;subst hp;simp only;omega⟩
   ·exact⟨fc_,fun p hp=>by simp[oneL] at hp;subst hp;simp only;omega⟩
  have B11:=S11.st.box;have Hcls:=hh_ hcls;clear hcls hl;have HDl:=hh_ (Jl_ c l)
  go_wp2_with (first |(refine Al_ rfl _ rfl _ rfl c (by assumption) ?_) |(go_at_call 40;refine(Li_ c l t _ S11.nums S11.mem Hcls.out).mono ?_;rintro e w12 ⟨D,rfl,hD,hO,G12⟩;have S12:=S11.same G12;clear B11 G12))
  have hol:=HDl.out;obtain⟨out,hout⟩:∃out,demF c l=out:=⟨_,rfl⟩;have HOut:=hh_ hout;rw[hout] at hO hol ⊢;rw[hol];clear hout;have hl8:l.length≤8:=S11.len.2;have hkD:k<D:=ll_ S11.cls.lt hD
  go_loopw [83] (fun s83 wr=>∃(j:Nat) (l':List (Int×Int)),s83=.int .i64 j∧j≤l.length∧l'.length=l.length∧l'=cntTo l out j∧ClsSt B b w.heap.size g w c t k l' wr∧OutAt wr D out) (fun s83 _=>l.length-(RowKit.intOf s83).toNat)
  case atStart=>exact⟨0,l,rfl,zl_ _,rfl,rfl,S12,hO⟩
  case round=>
   obtain⟨j,l',rfl,hj,hl',hct,S13,hO13⟩:=hrel;have Hct:=hh_ hct;clear hct
   by_cases hlt:j<l.length
   ·have hv:=S13.val
    obtain⟨r1,r2,r3⟩:=S13.st.box.re;simp only[Cfg.arr,hv,hl'] at r3;have r4:=cell_regrown (hO13.cell (k:=j) (by omega))
    have hjo :(0:Int)≤(j:Nat):=by omega
    have hjo' :((j:Nat):Int)<l.length:=by omega
    have Hl:=hh_ hl';have Hol:=hh_ hol;clear hv hl' hol
    go_wp2_with fail
    refine Tail.wp_region_tail_grown 9 (by kernel_rfl) (by kernel_rfl) ?_;simp only[List.take,List.drop]
    repeat(go_big_quiet_step (fail))
    refine wn_ ?_;rintro _ ⟨⟨d5,os5⟩,rfl⟩;have S14:=S13.same (A1_ wr d5 os5);have hO14:=hO13.kept (A1_ wr d5 os5) (by simp);have hx14:=S14.cls.cell (i:=j) (by rw[Hl.out];exact hlt);have hf14:=S14.cls.free (j*2+1);clear r1 r2 r3 r4;generalize Go.Sort.grow (redrawn wr d5) os5=w14 at *;obtain⟨x14,hx14⟩:=hx14
    go_wp2_with fail
    have S15:=S14.setN (i:=j) (by rw[Hl.out];exact hlt) (out.getD j 0);refine⟨⟨j+1,_,by go_num,by omega,by simp[Hl.out],by rw[Hct.out];rfl,S15,hO14.kept (Ac_ (Ab_ _ _) _ _) (by simp;omega)⟩,?_⟩
    simp[RowKit.intOf];omega
   ·have B13:=S13.st.box
    have ho1:c.Classes.oneCell'=true:=by rw[S13.val];rfl
    have ho2:c.Table.oneCell'=true:=by obtain⟨a,cap,hv⟩:=S13.st.table.shape;rw[hv];rfl
    go_wp2_with (first |(refine Al_ rfl _ rfl _ rfl c (by assumption) ?_) |(refine C3_ rfl _ _ rfl _ rfl c rfl ho1 ho2 Cfg.zero S13.st.res ?_;intro w20 B20 G20))
    obtain⟨tt,ff,hh,hff⟩:=B20.block;refine bodyPost_ret (v:=c.val) (results_cell_row rfl _ _ w.heap.size _ _ _ _ rfl hh underlying31 rfl Db_) rfl ?_;have hm:=S13.mem;have hr1:=S13.st.lt;have hr2:=S13.lt;have hold:=S13.st.old
    have hjl:j=l.length:=by omega
    have hcl:=Ks_ (l':=l') Hcls.out S13.nums (by rw[HOut.out,←hjl];exact Hct.out);refine⟨c,l',t,rfl,S13.nums,⟨hm.classes.kept G20 ?_,hm.table.kept G20 ?_,hm.tlen,hm.twords⟩,S13.st.deck.kept G20 (by intro x hx;cases hx;exact hold),?_,?_,?_,S13.st.nums,hcl⟩
    ·intro x hx a n m hv;cases hx;rw[S13.val] at hv;cases hv;simp;omega
    ·intro x hx a n m hv;cases hx;have:=S13.st.tblock a n m hv;omega
    ·have G13:=S13.st.grown
     exact⟨G20.os.trans G13.os,G20.tape.trans G13.tape,G20.output.trans G13.output,lt_ G13.size G20.size,fun i hi hn=>(G20.block i (ll_ hi G13.size) (by simp;omega)).trans (G13.block i hi hn)⟩
    ·intro a n m hv;have:=S13.st.tblock a n m hv;omega
    ·intro a n m hv;rw[S13.val] at hv;cases hv;simp;omega
end
section
open Go.RowKit
def bP (c:Cfg) (t:List Int) (l:List Summ) (k:ByteArray) (i:Int):Int×Int:=match l[i.toNat]? with
 | some s=>(min (bndE s.es s.untr k).1 (sEstF c t s k),min (bndE s.es s.untr k).2 (sEstF c t s k))
 | none=>(0,0)
def addP (a x:Int×Int):Int×Int:=(satA a.1 x.1,satA a.2 x.2)
def foldB (c:Cfg) (t:List Int) (l:List Summ) (k:ByteArray) (is:List Int):Int×Int:=is.foldl (fun a i=>addP a (bP c t l k i)) (0,0)
def lineF (c:Cfg) (t:List Int) (l:List Summ) (k:ByteArray):Int×Int:=foldB c t l k ((setF c t k).filter (fun i:Int=>decide (i<(l.length:Int))))
structure F0_ (l:List Summ):Prop where
 wf:∀s∈l,SumW s
 rows:∀s∈l,RowsOk s.rows
 len:∀s∈l,s.rows.length≤1000
theorem fd_ {s:Summ} (h:SumW s) (k:ByteArray):W64 (bndE s.es s.untr k).1∧W64 (bndE s.es s.untr k).2:=by
 unfold bndE
 split
 ·rename_i e he
  obtain⟨h1,h2⟩:=h.es e (List.mem_of_find?_eq_some he);exact⟨h1,B9_ h1 h2⟩
 ·exact⟨Dr_,h.untr⟩
theorem bP_w {c:Cfg} {t:List Int} {l:List Summ} (h:F0_ l) (k:ByteArray) (i:Int):W64 (bP c t l k i).1∧W64 (bP c t l k i).2:=by
 unfold bP
 split
 ·rename_i s hs
  have hm:=mo_ hs;obtain⟨h1,h2⟩:=fd_ (h.wf s hm) k;have h3:=Op_ (c:=c) (t:=t) (h.wf s hm).total (h.rows s hm) k;exact⟨N5_ h1 h3,N5_ h2 h3⟩
 ·exact⟨Dr_,Dr_⟩
theorem Rx_ {c:Cfg} {t:List Int} {l:List Summ} (h:F0_ l) (k:ByteArray) (is:List Int):W64 (foldB c t l k is).1∧W64 (foldB c t l k is).2:=by
 unfold foldB
 have:∀(is:List Int) (a:Int×Int),W64 a.1∧W64 a.2→W64 (is.foldl (fun a i=>addP a (bP c t l k i)) a).1∧W64 (is.foldl (fun a i=>addP a (bP c t l k i)) a).2:=by
  intro is
  induction is with
  | nil=>exact fun _ h=>h
  | cons i is ih=>
   intro a ha;simp only[List.foldl_cons];obtain⟨h1,h2⟩:=bP_w (c:=c) (t:=t) h k i;exact ih _ ⟨B9_ ha.1 h1,B9_ ha.2 h2⟩
 exact this is _ ⟨Dr_,Dr_⟩
theorem Ra_ (c:Cfg) (t:List Int) (l:List Summ) (k:ByteArray) (is:List Int) (i:Int):foldB c t l k (is++[i])=addP (foldB c t l k is) (bP c t l k i):=by simp[foldB]
theorem Nz_ {h m:Int} {n:Nat} (h1:1≤m):∀x∈setN h m n,0≤x∧x<m:=by
 intro x hx;obtain⟨i,_,rfl⟩:=List.mem_map.1 hx;exact⟨Int.emod_nonneg _ (by omega),Int.emod_lt_of_pos _ (by omega)⟩
end
section
open Go.RowKit Go.Sort
attribute [local go_sem ↓] Ag_
attribute [local go_sem] Ah_
theorem Ni_ (c:Cfg) (l:List (Int×Int)) (t:List Int) (w:World) (hn:CfgNums c) (hm:CfgMem c l t w) (hc:ClsFit c l):Calls Tryz.prog 41 #[c.val] w (RetInt 0 w):=by
 obtain⟨ac,cp,hcl⟩:=hm.classes.shape;have hmx:=hm.classes.2.1;have HL:=hh_ hcl;have hdl:=Jl_ c l;have C1:=hh_ (show ∀w',w.grownBy w' none→Calls Tryz.prog 40 #[c.val] w' fun e w2=>∃g,e=.returned (.tuple #[.slice (some ⟨g,0,none⟩) l.length l.length,.int .i64 0])∧OutAt w2 g (demF c l)∧w'.heap.size≤g∧w'.grownBy w2 none from fun w' g=>(Li_ c l t w' hn (hm.same g) hc.cls).mono fun e w2 ⟨B,h1,h2,h3,h4⟩=>⟨B,by rw[hdl] at h1;exact h1,h3,h2,h4⟩)
 have HD:=hh_ fun i=>Tf_ hn hc.cls i
 have Hf:=hh_ hc.cnt;have Hs:=hh_ hc.cls.ok.size;have Hm:=hh_ hm.classes;clear hn hm hc hcl
 go_enter func41,ntmps41
 go_upto_region 5 with(first
  |(refine Au_ rfl _ rfl c rfl ?_;intro w1 B1 G1 z1)
  |(refine Al_ rfl _ rfl _ rfl c B1 ?_)
  |(go_at_call 40;refine(C1.out _ G1).mono ?_;rintro e w2 ⟨g,rfl,O2,z2,G2⟩;have B2:=B1.same G2;have K2:=Aa_ G1 G2))
 clear C1 B1 G1;generalize demF c l=o at *;have HO:=hh_ O2;clear O2
 go_loopw [17] (fun s17 wr=>∃k:Nat,k≤l.length∧s17=.int .i64 k∧wr=w2) (fun s17 _=>l.length-(RowKit.intOf s17).toNat)
 case atStart=>exact⟨0,by omega,rfl,rfl⟩
 case round=>
  obtain⟨k,hk,rfl,rfl⟩:=hrel;have b2:=B2.cell;simp only[Cfg.arr,HL.out] at b2
  by_cases hlt:k<l.length
  ·obtain⟨gx,ox,cx,hv,hgx,hcx⟩:=(RdL.same Hm.out K2).at_ C9_ hlt
   have hv':=HL.out.symm.trans hv;cases hv';have c1:=hcx 1 _ rfl;have hf:=Hf.out k hlt;obtain⟨s1,s2,s3,s4⟩:=Hs.out k _ (gq_ hlt);obtain⟨d1,d2⟩:=HD.out k;have oc:=HO.out.cell (k:=k) (by omega);rw[List.getD_eq_getElem?_getD] at oc;clear hcx hv;generalize l[k]=p at *;obtain⟨ps,pc⟩:=p;dsimp only at *;rw[←hf] at oc;have d:decide (pc<pc)=false:=df_ (by omega);clear hf d1 d2
   go_wp2_with fail
   exact⟨⟨k+1,by omega,by go_num,trivial⟩,by simp[RowKit.intOf];omega⟩
  ·go_wp2_with fail
   go_ret
   exact Ai_ rfl K2
theorem Gq_ {c:Cfg} {t:List Int} {k:ByteArray} (hs:1≤c.Shards) (hp:1≤c.Spread) (n:Int) (_:0≤n) :(n%c.Spread).toNat<(setF c t k).length∧0≤routeF c t k n∧routeF c t k n<c.Shards:=by
 have h1:=Int.emod_nonneg n (show c.Spread≠0 by omega);have h2:=Int.emod_lt_of_pos n (show 0<c.Spread by omega);have hl :(setF c t k).length=c.Spread.toNat:=Gf_ _ _ _
 have h3 :(n%c.Spread).toNat<(setF c t k).length:=by omega
 refine⟨h3,?_⟩
 have hr:routeF c t k n =(setF c t k)[(n%c.Spread).toNat]:=by
  unfold routeF;rw[List.getD_eq_getElem?_getD,gq_ h3];rfl
 rw[hr];exact Nz_ hs _ (mg_ h3)
theorem Wt_ (c:Cfg) (t:List Int) (k:ByteArray) (n:Int) (w:World) (h:RCfg w c t) (hk:k.size≤9223372036854775807) (hn:0≤n∧n≤9223372036854775807):Calls Tryz.prog 87 #[c.val,.string k,.int .i64 n] w (RetInt (routeF c t k n) w):=by
 have H:=hh_ h;have hs:=h.spread
 have CR:=hh_ fun y (q:w.grownBy y none)=>E8_ c t y (h.same q)
 have CS:=hh_ fun y (q:w.grownBy y none)=>a1_ c t k y (h.same q) hk
 obtain⟨hg1,hg2,hg3⟩:=Gq_ (t:=t) (k:=k) h.shards.1 hs.1 n hn.1;have hm1:=Int.emod_nonneg n (show c.Spread≠0 by omega);have hm2:=Int.emod_lt_of_pos n (show 0<c.Spread by omega)
 have HRt:=hh_ (show routeF c t k n =(setF c t k)[(n%c.Spread).toNat] by
  unfold routeF
  rw[List.getD_eq_getElem?_getD,gq_ hg1];rfl)
 have hn0:decide (n<0)=false:=df_ (by omega);have hz :(c.Spread==0)=false:=bf_ (by omega);clear h
 go_enter func87,ntmps87
 go_upto_region 3 with(first |(refine Au_ rfl _ rfl c rfl ?_;intro w1 B1 G1 z1) |(refine A0_ rfl _ rfl _ rfl c (by assumption) ?_) |(go_at_call 110;refine(CR.out _ G1).mono ?_;rintro e w2 ⟨rfl,G2⟩;have B2:=B1.same G2;have K2:=Aa_ G1 G2))
 have K6:=Aa_ K2 (show World.grownBy w2 w2.drew none from gw_);have B6:=B2.same (w':=w2.drew) gw_;clear G1 G2 B1 B2 K2 z1 CR
 (refine rn_ 10 (fun j _ w v w'=>match j with | 2=>RdL intF 1 w' v (setF c t k)∧World.grownBy w w' none | _=>False) ?_;simp only[ts_])
 generalize w2.drew=w6 at *
 (refine to_ ?_;intro x0 mx0 dx0)
 clear dx0;have BX:=B6.same mx0
 go_wp2_with (refine Al_ rfl _ rfl _ rfl c (by assumption) ?_)
 refine⟨Ab_ _ _,?_⟩;clear BX
 (refine tq_ 1 ?_;(repeat(go_big_quiet_step (fail)));refine wn_ ?_)
 (refine tc_ ?_;intro x2 mx2 dx2;refine⟨?_,?_⟩;· (unfold Rg.callSpec;go_simp;(refine(CS.out x2 (Aa_ K6 mx2)).mono ?_;rintro e w' ⟨v,rfl,o,g⟩;exact⟨v,rfl,o.rd,g⟩)))
 clear dx2;rintro v2 y2 ⟨R2,g2⟩;refine⟨g2,?_⟩;simp only[pt_];obtain⟨ga,oa,ca,hv,hga,hca⟩:=R2.at_ A8_ hg1;subst hv;have hs8:=H.out.shards
 have hr1:IntKind.i64.wrap (n.tmod c.Spread)=n%c.Spread:=by
  rw[Int.tmod_eq_emod_of_nonneg hn.1];exact IntWalk.i64_in _ (by omega)
 have hr2:n.tmod c.Spread=n%c.Spread:=Int.tmod_eq_emod_of_nonneg hn.1
 have hlt:n%c.Spread<((setF c t k).length:Int):=by omega
 have hca0:=hca 0 _ rfl;rw[Nat.mul_one,Nat.add_zero] at hca0;clear hca
 (refine tq_ 2 ?_;(repeat(go_big_quiet_step (fail)));refine wn_ ?_)
 (refine to_ ?_;intro x5 mx5 dx5)
 clear dx5;have bx:=(B6.same mx5).cell
 go_wp2_with fail
 refine⟨Ab_ _ _,?_⟩;clear bx
 (refine tq_ 2 ?_;(repeat(go_big_quiet_step (fail)));refine wn_ ?_)
 (refine to_ ?_;intro x8 mx8 dx8)
 have R8:=((An_ (dx8.out 2 (by omega) (by kernel_rfl))).1 ga _ hga (by simp)).trans hca0;clear dx8
 go_wp2_with fail
 refine⟨Ab_ _ _,?_⟩;clear R8
 (refine tq_ 1 ?_;(repeat(go_big_quiet_step (fail)));refine wn_ ?_)
 (refine Rg.tree_nil ?_;intro z mz dz cz)
 have Kz:=Aa_ K6 mz
 go_wp2_with fail
 go_ret
 exact Ai_ HRt.out Kz
end
section
open Go.RowKit Go.Sort
theorem RClu.cfgIn {w:World} {G:RcG} {c:Cfg} {t:List Int} {K:CluM} (h:RClu w G c t K):Xe_ w G.g c:=h.blk.cfgIn (ds:=[.int .i64 K.mark,G.vb,.int .u64 K.str.skip,.bool K.str.broken,.pointer (some ⟨G.bl,0,none⟩),G.vs,G.vi]) rfl
structure CfgW (w:World) (c:Cfg) (t:List Int) (F:Fp):Prop where
 nums:CfgNums c
 table:RdL wordF 1 w c.Table t
 tlen:t.length=16
 low:Low w (ownF c.Table)
 off:Off (ownF c.Table) F
theorem CfgW.rcfg {w:World} {c:Cfg} {t:List Int} {F:Fp} (h:CfgW w c t F):RCfg w c t:=⟨⟨h.nums.shards.1,by have:=h.nums.shards.2;omega⟩,h.nums.spread,h.table,h.tlen,⟨h.nums.seed.1,by have:=h.nums.seed.2;omega⟩⟩
theorem CfgW.mov {w w':World} {c:Cfg} {t:List Int} {F F':Fp} (h:CfgW w c t F) (m:Mov F F' w w'):CfgW w' c t F':=⟨h.nums,Bk_ h.table m.grown h.off,h.tlen,h.low.up m.size,m.off h.low h.off⟩
theorem CfgW.same {w w':World} {c:Cfg} {t:List Int} {F:Fp} (h:CfgW w c t F) (g:w.grownBy w' none):CfgW w' c t F:=h.mov (Mov.same g)
def Sb_ (c:Cfg) (t:List Int) (K:CluM) (x:InpR) (w:World) (e:Ending) (w':World):Prop:=e=.returned (.tuple #[.int .i64 (judgeV c t K x).1,.int .i64 (judgeV c t K x).2])∧w.grownBy w' none
theorem Lz_ {c:Cfg} {t:List Int} {K:CluM} {x:InpR} {w w':World} {a b:Int} (h:judgeV c t K x =(a,b)) (g:w.grownBy w' none):Sb_ c t K x w (.returned (.tuple #[.int .i64 a,.int .i64 b])) w':=⟨by rw[h],g⟩
theorem Xp_ (G:RcG) (c:Cfg) (t:List Int) (K:CluM) (x:InpR) (w:World) (h:RClu w G c t K) (hC:CfgW w c t G.F) (hsh :(K.sh.length:Int)=c.Shards) (hacc:0≤K.acc∧K.acc≤9223372036854775807) (hx :(0≤x.it.time∧x.it.time≤1099511627776)∧W64 x.it.weight∧x.it.key.size≤9223372036854775807) :
  Calls Tryz.prog 48 #[.pointer (some ⟨G.g,0,none⟩),.agg #[.string x.it.key,.int .i64 x.it.time,.int .u64 x.it.weight,.int .i64 x.ver]] w (Sb_ c t K x w):=by
 have H:=hh_ h;have HV:=hh_ (show ∀y,Calls Tryz.prog 85 #[c.val,.int .i64 K.mark,.int .i64 x.it.time] y (fun e w'=>e=.returned (.int .i64 (verV c K.mark x.it.time))∧y.grownBy w' none) from fun y=>et_ c K.mark x.it.time y);have HWn:=hh_ (show ∀y,Calls Tryz.prog 50 #[c.val,.int .i64 x.it.time] y (fun e w'=>e=.returned (.int .i64 (winV c x.it.time))∧y.grownBy w' none) from fun y=>P7_ c x.it.time y);have HFt:=hh_ (show ∀y,w.grownBy y none→Calls Tryz.prog 86 #[.pointer (some ⟨G.bl,0,none⟩),.int .i64 (winV c x.it.time),.int .u64 x.it.weight] y (fun e w'=>e=.returned (.bool (fitsB (ldAt K.led (winV c x.it.time)) x.it.weight))∧y.grownBy w' none) from fun y q=>In_ G.LF G.bl K.led K.acc K.rej _ _ y (h.core.same q).led hx.2.1);have HAc:=hh_ (show ∀y,w.grownBy y none→Calls Tryz.prog 88 #[.pointer (some ⟨G.bl,0,none⟩)] y (fun e w'=>e=.returned (.int .i64 K.acc)∧y.grownBy w' none) from fun y q=>Ie_ G.LF G.bl K.led K.acc K.rej y (h.core.same q).led);have HRo:=hh_ (show ∀y,w.grownBy y none→Calls Tryz.prog 87 #[c.val,.string x.it.key,.int .i64 K.acc] y (fun e w'=>e=.returned (.int .i64 (routeF c t x.it.key K.acc))∧y.grownBy w' none) from fun y q=>Wt_ c t x.it.key K.acc y (hC.same q).rcfg hx.2.2 hacc);obtain⟨hsp,hr0,hr1⟩:=Gq_ (t:=t) (k:=x.it.key) hC.nums.shards.1 hC.nums.spread.1 K.acc hacc.1
 have HJ:=hh_ (show judgeV c t K x=if x.ver≠0 then (x.ver,0) else if verV c K.mark x.it.time≠0 then (verV c K.mark x.it.time,0) else if fitsB (ldAt K.led (winV c x.it.time)) x.it.weight=false then (5,0) else if qLen K (routeF c t x.it.key K.acc)=c.Queue then (6,0) else (0,routeF c t x.it.key K.acc) from rfl);obtain⟨Vv,hVv⟩:∃v,verV c K.mark x.it.time=v:=⟨_,rfl⟩;obtain⟨Wn,hWn⟩:∃v,winV c x.it.time=v:=⟨_,rfl⟩;rw[hVv] at HV HJ;rw[hWn] at HWn HFt HJ;obtain⟨Ft,hFt⟩:∃v,fitsB (ldAt K.led Wn) x.it.weight=v:=⟨_,rfl⟩;obtain⟨Rt,hRt⟩:∃v,routeF c t x.it.key K.acc=v:=⟨_,rfl⟩;rw[hFt] at HFt HJ;rw[hRt] at HRo HJ hr0 hr1;clear hVv hWn hFt hRt hsp h hx
 go_enter func48,ntmps48
 go_upto_region 1 with fail
 have A1:=Blk.new w #[.string x.it.key,.int .i64 x.it.time,.int .u64 x.it.weight,.int .i64 x.ver] 114;have G1:=ga_ w (.cells #[.string x.it.key,.int .i64 x.it.time,.int .u64 x.it.weight,.int .i64 x.ver] 114) none;generalize w.alloc _=w1 at *;generalize hbx:w.heap.size=bx at *;clear hbx;have a1:=A1.cell
 by_cases hv:x.ver=0
 ·rw[hv] at a1
  have HJ1:=hh_ (HJ.out.trans (if_neg (by omega)));clear HJ
  go_upto_region 3 with fail
  clear a1;have KN:World.grownBy w1 w1.drew none:=gw_;have HX:=hh_ (A1.same KN);have HR:=hh_ (H.out.same (Aa_ G1 KN));have K6:=Aa_ G1 KN;clear A1 G1 KN
  (refine rn_ 13 (fun j _ w v w'=>match j with | 11=>v=.int .i64 Vv∧World.grownBy w w' none | _=>False) ?_;simp only[ts_])
  generalize w1.drew=w6 at *
  (refine tq_ 3 ?_;(repeat(go_big_quiet_step (fail)));refine wn_ ?_)
  (refine to_ ?_;intro x3 mx3 dx3)
  clear dx3;have BX:=(HR.out.same mx3).cfgIn
  go_wp2_with (refine Bn_ rfl _ rfl _ rfl c BX ?_)
  refine⟨Ab_ _ _,?_⟩;clear BX
  (refine tq_ 3 ?_;(repeat(go_big_quiet_step (fail)));refine wn_ ?_)
  (refine to_ ?_;intro x7 mx7 dx7)
  clear dx7;have bx:=(HR.out.same mx7).blk.cell
  go_wp2_with fail
  refine⟨Ab_ _ _,?_⟩;clear bx
  (refine tq_ 2 ?_;(repeat(go_big_quiet_step (fail)));refine wn_ ?_)
  (refine to_ ?_;intro x10 mx10 dx10)
  clear dx10;have bx:=(HX.out.same mx10).cell
  go_wp2_with fail
  refine⟨Ab_ _ _,?_⟩;clear bx
  (refine tc_ ?_;intro x11 mx11 dx11;refine⟨?_,?_⟩;· (unfold Rg.callSpec;go_simp;(refine(HV.out x11).mono ?_;rintro e w' ⟨rfl,g⟩;exact⟨_,rfl,rfl,g⟩)))
  clear dx11;rintro vx11 yx11 ⟨rfl,gx11⟩;refine⟨gx11,?_⟩;clear gx11;simp only[pt_]
  (refine tq_ 1 ?_;(repeat(go_big_quiet_step (fail)));refine wn_ ?_)
  (refine Rg.tree_nil ?_;intro z mz dz cz)
  have HX2:=hh_ (HX.out.same mz);have HR2:=hh_ (HR.out.same mz);have K7:=hh_ (Aa_ K6 mz);clear mx3 mx7 mx10 mx11 mz dz cz HX HR K6
  by_cases hVv:Vv=0
  ·subst hVv
   have HJ2:=hh_ (HJ1.out.trans (if_neg (by omega)));clear HJ1
   go_upto_region 6 with fail
   have KN:World.grownBy z z.drew none:=gw_;have HX:=hh_ (HX2.out.same KN);have HR:=hh_ (HR2.out.same KN);have K6:=Aa_ K7.out KN;clear HX2 HR2 KN
   (refine rn_ 17 (fun j _ w v w'=>match j with | 11=>v=.int .i64 Wn∧World.grownBy w w' none | 15=>v=.bool Ft∧World.grownBy w w' none | _=>False) ?_;simp only[ts_])
   generalize z.drew=w7 at *
   (refine tq_ 3 ?_;(repeat(go_big_quiet_step (fail)));refine wn_ ?_)
   (refine to_ ?_;intro x3 mx3 dx3)
   clear dx3;have bx:=(HR.out.same mx3).blk.cell
   go_wp2_with fail
   refine⟨Ab_ _ _,?_⟩;clear bx
   (refine tq_ 3 ?_;(repeat(go_big_quiet_step (fail)));refine wn_ ?_)
   (refine to_ ?_;intro x7 mx7 dx7)
   clear dx7;have BX:=(HR.out.same mx7).cfgIn
   go_wp2_with (refine Bn_ rfl _ rfl _ rfl c BX ?_)
   refine⟨Ab_ _ _,?_⟩;clear BX
   (refine tq_ 2 ?_;(repeat(go_big_quiet_step (fail)));refine wn_ ?_)
   (refine to_ ?_;intro x10 mx10 dx10)
   clear dx10;have bx:=(HX.out.same mx10).cell
   go_wp2_with fail
   refine⟨Ab_ _ _,?_⟩;clear bx
   (refine tc_ ?_;intro x11 mx11 dx11;refine⟨?_,?_⟩;· (unfold Rg.callSpec;go_simp;(refine(HWn.out x11).mono ?_;rintro e w' ⟨rfl,g⟩;exact⟨_,rfl,rfl,g⟩)))
   clear dx11;rintro vx11 yx11 ⟨rfl,gx11⟩;refine⟨gx11,?_⟩;clear gx11;simp only[pt_]
   (refine tq_ 2 ?_;(repeat(go_big_quiet_step (fail)));refine wn_ ?_)
   (refine to_ ?_;intro x14 mx14 dx14)
   clear dx14;have bx:=(HX.out.same mx14).cell
   go_wp2_with fail
   refine⟨Ab_ _ _,?_⟩;clear bx
   (refine tc_ ?_;intro x15 mx15 dx15;refine⟨?_,?_⟩;· (unfold Rg.callSpec;go_simp;(refine(HFt.out x15 (Aa_ K6 mx15)).mono ?_;rintro e w' ⟨rfl,g⟩;exact⟨_,rfl,rfl,g⟩)))
   clear dx15;rintro vx15 yx15 ⟨rfl,gx15⟩;refine⟨gx15,?_⟩;clear gx15;simp only[pt_]
   (refine tq_ 1 ?_;(repeat(go_big_quiet_step (fail)));refine wn_ ?_)
   (refine Rg.tree_nil ?_;intro z2 mz2 dz2 cz2)
   have HX2:=hh_ (HX.out.same mz2);have HR2:=hh_ (HR.out.same mz2);have K8:=hh_ (Aa_ K6 mz2);clear mx3 mx7 mx10 mx11 mx14 mx15 mz2 dz2 cz2 HX HR K6 K7;cases Ft
   ·have HJ3:=hh_ (HJ2.out.trans (if_pos rfl))
    clear HJ2
    go_wp2_with fail
    go_ret2
    exact Lz_ HJ3.out K8.out
   ·have HJ3:=hh_ (HJ2.out.trans (if_neg (by simp)))
    clear HJ2
    go_upto_region 8 with fail
    have KN:World.grownBy z2 z2.drew none:=gw_;have HX:=hh_ (HX2.out.same KN);have HR:=hh_ (HR2.out.same KN);have K6:=Aa_ K8.out KN;clear HX2 HR2 KN
    (refine rn_ 14 (fun j _ w v w'=>match j with | 11=>v=.int .i64 K.acc∧World.grownBy w w' none | 12=>v=.int .i64 Rt∧World.grownBy w w' none | _=>False) ?_;simp only[ts_])
    generalize z2.drew=w8 at *
    (refine tq_ 3 ?_;(repeat(go_big_quiet_step (fail)));refine wn_ ?_)
    (refine to_ ?_;intro x3 mx3 dx3)
    clear dx3;have BX:=(HR.out.same mx3).cfgIn
    go_wp2_with (refine Bn_ rfl _ rfl _ rfl c BX ?_)
    refine⟨Ab_ _ _,?_⟩;clear BX
    (refine tq_ 2 ?_;(repeat(go_big_quiet_step (fail)));refine wn_ ?_)
    (refine to_ ?_;intro x6 mx6 dx6)
    clear dx6;have bx:=(HX.out.same mx6).cell
    go_wp2_with fail
    refine⟨Ab_ _ _,?_⟩;clear bx
    (refine tq_ 3 ?_;(repeat(go_big_quiet_step (fail)));refine wn_ ?_)
    (refine to_ ?_;intro x10 mx10 dx10)
    clear dx10;have bx:=(HR.out.same mx10).blk.cell
    go_wp2_with fail
    refine⟨Ab_ _ _,?_⟩;clear bx
    (refine tc_ ?_;intro x11 mx11 dx11;refine⟨?_,?_⟩;· (unfold Rg.callSpec;go_simp;(refine(HAc.out x11 (Aa_ K6 mx11)).mono ?_;rintro e w' ⟨rfl,g⟩;exact⟨_,rfl,rfl,g⟩)))
    clear dx11;rintro vx11 yx11 ⟨rfl,gx11⟩;refine⟨gx11,?_⟩;clear gx11;simp only[pt_]
    (refine tc_ ?_;intro x12 mx12 dx12;refine⟨?_,?_⟩;· (unfold Rg.callSpec;go_simp;(refine(HRo.out x12 (Aa_ K6 mx12)).mono ?_;rintro e w' ⟨rfl,g⟩;exact⟨_,rfl,rfl,g⟩)))
    clear dx12;rintro vx12 yx12 ⟨rfl,gx12⟩;refine⟨gx12,?_⟩;clear gx12;simp only[pt_]
    (refine tq_ 1 ?_;(repeat(go_big_quiet_step (fail)));refine wn_ ?_)
    (refine Rg.tree_nil ?_;intro z3 mz3 dz3 cz3)
    have HR2:=hh_ (HR.out.same mz3);have K9:=hh_ (Aa_ K6 mz3);clear mx3 mx6 mx10 mx11 mx12 mz3 dz3 cz3 HX HR K6 K8
    have hil:Rt.toNat<K.sh.length:=by omega
    have hgl:Rt.toNat<G.sh.length:=by have:=HR2.out.core.len;omega
    have hS:K.sh[Rt.toNat]?=some K.sh[Rt.toNat]:=gq_ hil;have hs:G.sh[Rt.toNat]?=some G.sh[Rt.toNat]:=gq_ hgl;have RS:=HR2.out.core.shd Rt.toNat _ _ hs hS
    have hq:qLen K Rt =((K.sh[Rt.toNat]).queue.length:Int):=by unfold qLen;rw[hS];rfl
    have HJ4:=hh_ (HJ3.out.trans (by rw[hq]));obtain⟨qa,qc,hqv⟩:=RS.q.shape;have sb:=RS.blk.cell;rw[hqv] at sb;have ck0:=sb 17;have cK:=HR2.out.blk.cell;obtain⟨ga,ca,hva,_,hga,_,hca,_⟩:=HR2.out.core.sp.at_ Cb_ (i:=Rt.toNat) (by simpa using hgl);have hc0:=hca 0 _ rfl;rw[Nat.mul_one,Nat.add_zero,List.getElem_map] at hc0;rw[List.length_map] at hva;rw[hva] at cK
    have hlt:Rt<(G.sh.length:Int):=by omega
    have ckS:=cK 22;have ckQ:=cK 5;clear hca hs hS RS hq HJ3 sb cK;generalize G.sh[Rt.toNat]=s at *;generalize (K.sh[Rt.toNat]).queue.length=n at *
    go_upto_region 9 with fail
    go_quiet (fail)
    by_cases hq :(n:Int)=c.Queue
    ·have HJ5:=hh_ (HJ4.out.trans (if_pos hq))
     have hq1 :((n:Int)==c.Queue)=true:=by simp[hq]
     clear HJ4 hq
     go_wp2_with fail
     go_ret2
     exact Lz_ HJ5.out (Ae_ K9.out _)
    ·have HJ5:=hh_ (HJ4.out.trans (if_neg hq))
     have hq1 :((n:Int)==c.Queue)=false:=bf_ hq;clear HJ4 hq
     go_wp2_with fail
     go_ret2
     exact Lz_ HJ5.out (Ae_ K9.out _)
  ·have hv1 :(Vv==0)=false:=by simp[hVv]
   have hv2 :(Vv != 0)=true:=by simp[hVv]
   have HJ2:=hh_ (HJ1.out.trans (if_pos hVv));clear HJ1 hVv
   go_wp2_with fail
   go_ret2
   exact Lz_ HJ2.out K7.out
 ·have hv1 :(x.ver==0)=false:=by simp[hv]
  have hv2 :(x.ver != 0)=true:=by simp[hv]
  have HJ1:=hh_ (HJ.out.trans (if_pos hv));clear HJ hv
  go_wp2_with fail
  go_ret2
  exact Lz_ HJ1.out G1
end
section
open Go.RowKit
structure CluOk (c:Cfg) (K:CluM) (N:Nat):Prop where
 str:StrOk K.str
 acc:0≤K.acc∧K.acc≤N
 led:K.led.length≤N
 items:K.items.length≤N
 len :(K.sh.length:Int)=c.Shards
 sh:∀S∈K.sh,ShOk c S∧S.ts.length+S.queue.length≤N
 its:∀x∈K.items,ItW x
theorem CluOk.up {c:Cfg} {K:CluM} {N M:Nat} (h:CluOk c K N) (hm:N≤M):CluOk c K M:=
 ⟨h.str,⟨h.acc.1,by have:=h.acc.2;omega⟩,lt_ h.led hm,lt_ h.items hm,h.len,fun S hS=>⟨(h.sh S hS).1,lt_ (h.sh S hS).2 hm⟩,h.its⟩
theorem Mg_ {w n:Int}:∀{L:List (Int×Int)},(ldPut L w n).length≤L.length+1
 | []=>by simp[ldPut]
 | p::L=>by
  unfold ldPut
  split
  ·have:=Mg_ (w:=w) (n:=n) (L:=L)
   simp only[lc_];omega
  ·split <;> simp
theorem Ly_ {w:Int}:∀{L:List (Int×Int)},(ldDel L w).length≤L.length
 | []=>by simp[ldDel]
 | p::L=>by
  unfold ldDel
  split
  ·simp
  ·have:=Ly_ (w:=w) (L:=L)
   simp only[lc_];omega
theorem Ph_ {L:List TagR} (h:keyE L=0):0<(keyY L).size:=by
 have h1:keyY L =⟨(kyB (sortT L)).toArray⟩:=if_pos h
 have h2:sortE L=0:=by
  unfold keyE at h
  split at h
  ·rename_i h3;exact absurd h h3
  ·rename_i h3;exact Decidable.byContradiction h3
 obtain⟨h3,_,_,_⟩:=Ol_ h2
 have h4:0<(sortT L).length:=by rw[E9_];exact h3
 rw[h1]
 show 0<(kyB (sortT L)).toArray.size
 generalize sortT L=S at *
 cases S with
 | nil=>simp at h4
 | cons a S=>simp[kyB,tkB]
theorem Hz_ {c:Cfg} {t:List Int} {K:CluM} {x:InpR} (h :(judgeV c t K x).1=0):x.ver=0∧verV c K.mark x.it.time=0∧fitsB (ldAt K.led (winV c x.it.time)) x.it.weight=true∧qLen K (routeF c t x.it.key K.acc)≠c.Queue∧(judgeV c t K x).2=routeF c t x.it.key K.acc:=by
 unfold judgeV at h ⊢
 by_cases h1:x.ver≠0
 ·rw[if_pos h1] at h;exact absurd h h1
 ·rw[if_neg h1] at h ⊢
  by_cases h2:verV c K.mark x.it.time≠0
  ·rw[if_pos h2] at h;exact absurd h h2
  ·rw[if_neg h2] at h ⊢
   by_cases h3:fitsB (ldAt K.led (winV c x.it.time)) x.it.weight=false
   ·rw[if_pos h3] at h;simp at h
   ·rw[if_neg h3] at h ⊢
    by_cases h4:qLen K (routeF c t x.it.key K.acc)=c.Queue
    ·rw[if_pos h4] at h;simp at h
    ·rw[if_neg h4]
     exact⟨by omega,by omega,by simpa using h3,h4,rfl⟩
theorem P5_ {c:Cfg} {t:List Int} {K:CluM} {x:InpR} (h :(judgeV c t K x).1≠0):inpK c t K x =({ K with rej:=rejR K.rej (judgeV c t K x).1 },(judgeV c t K x).1):=if_pos h
theorem Py_ {c:Cfg} {t:List Int} {K:CluM} {x:InpR} (h :(judgeV c t K x).1=0):inpK c t K x =({ K with led:=ldPut K.led (winV c x.it.time) x.it.weight,acc:=K.acc+1,sh:=K.sh.set (routeF c t x.it.key K.acc).toNat (pushS ((K.sh[(routeF c t x.it.key K.acc).toNat]?).getD ⟨[],[]⟩) (winV c x.it.time) x.it),items:=K.items++[x.it] },0):=by
 unfold inpK;rw[if_neg (by omega),(Hz_ h).2.2.2.2]
theorem Oy_ {c:Cfg} {S:ShM} {win:Int} {it:ItR} (h:ShOk c S) (hq :(S.queue.length:Int)<c.Queue) (hw:0≤win∧win≤1099511627776) (ht:0≤it.time∧it.time≤1099511627776) (hx:W64 it.weight) (hk:0<it.key.size∧it.key.size≤255):ShOk c (pushS S win it):=by
 refine⟨?_,fun y hy=>?_,h.tiers⟩
 ·show((S.queue++[(⟨win,it⟩:Cq_)]).length:Int)≤_
  simp;omega
 ·rcases ma_ hy with hy|hy
  ·exact h.waits y hy
  ·rw[ms_ hy]
   exact⟨hw,ht,hx,hk⟩
theorem Tv_ {c:Cfg} {t:List Int} {K:CluM} {x:InpR} {N:Nat} (hn:CfgNums c) (h:CluOk c K N) (hx:InpOk c.Key x):CluOk c (inpK c t K x).1 (N+1):=by
 by_cases hv :(judgeV c t K x).1=0
 ·rw[Py_ hv]
  obtain⟨h1,h2,h3,h4,_⟩:=Hz_ hv;obtain⟨g1,L,g2,g3,g4⟩:=hx.good h1;have hkey:=hn.key;have hsz:0<x.it.key.size∧x.it.key.size≤255:=⟨by rw[g3];exact Ph_ g2,hx.size⟩;have hw64:W64 x.it.weight:=⟨by omega,by have:=hx.weight;omega⟩;have hwb:=M0_ c x.it.time;refine⟨h.str,⟨by have:=h.acc;dsimp only;omega,by have:=h.acc;dsimp only;omega⟩,lt_ Mg_ (Nat.add_le_add_right h.led 1),by simp only[la_,ls_];have:=h.items;omega,by simpa using h.len,fun S hS=>?_,fun y hy=>?_⟩
  ·rcases List.mem_or_eq_of_mem_set hS with hS|rfl
   ·exact⟨(h.sh S hS).1,Nat.le_succ_of_le (h.sh S hS).2⟩
   ·cases hs:K.sh[(routeF c t x.it.key K.acc).toNat]? with
    | none=>
     refine⟨Oy_ (show ShOk c ⟨[],[]⟩ from⟨by have:=hn.queue;simp;omega,by simp,by simp⟩) (by have:=hn.queue;simp;omega) hwb hx.time hw64 hsz,by simp[pushS]⟩
    | some S0=>
     obtain⟨a,b⟩:=h.sh S0 (mo_ hs)
     have hq:qLen K (routeF c t x.it.key K.acc) =(S0.queue.length:Int):=by unfold qLen;rw[hs];rfl
     have hlt :(S0.queue.length:Int)<c.Queue:=by have:=a.queue;rw[hq] at h4;omega
     refine⟨Oy_ (S:=S0) a hlt hwb hx.time hw64 hsz,?_⟩
     show S0.ts.length+(S0.queue++[_]).length≤_
     simp;omega
  ·rcases ma_ hy with hy|hy
   ·exact h.its y hy
   ·rw[ms_ hy]
    exact⟨⟨by have:=hx.time;omega,by have:=hx.time;omega⟩,hw64,by have:=hx.size;omega⟩
 ·rw[P5_ hv]
  exact⟨h.str,⟨h.acc.1,by have:=h.acc.2;dsimp only;omega⟩,Nat.le_succ_of_le h.led,Nat.le_succ_of_le h.items,h.len,fun S hS=>⟨(h.sh S hS).1,Nat.le_succ_of_le (h.sh S hS).2⟩,h.its⟩
theorem Wq_ {c:Cfg} {t:List Int} {K:CluM} {N:Nat} (hn:CfgNums c) (h:CluOk c K N) (l:List InpR) (hl:∀x∈l,InpOk c.Key x):∀k,k≤l.length→CluOk c (inpsK c t K (l.take k)).1 (N+k)∧(inpsK c t K (l.take k)).2.length=k:=by
 intro k
 induction k with
 | zero=>exact fun _=>⟨by simpa [inpsK] using h,by simp[inpsK]⟩
 | succ k ih=>
  intro hk;obtain⟨h1,h2⟩:=ih (by omega);rw[tg_ (show k<l.length by omega),Fz_];exact⟨Tv_ hn h1 (hl _ (mg_ _)),by simp[h2]⟩
theorem G5_ {c:Cfg} {x:ChM} (hx:ChOk x) :(chInps c x).length≤65∧∀y∈chInps c x,InpOk c.Key y:=by
 unfold chInps
 split
 ·exact⟨Oh_ _ _,Qu_ _ _⟩
 ·rename_i h
  refine⟨by simp,fun y hy=>?_⟩;rw[ms_ hy];refine⟨hx.ver,fun _=>rfl,?_,?_,?_,fun h0=>absurd h0 h⟩ <;> (dsimp only;decide)
theorem Rb_ {S:ShM} {win:Int} {n:Nat} (h:S.ts.length+S.queue.length≤n) :(closeS S win).ts.length+(closeS S win).queue.length≤n:=by
 unfold closeS
 split
 ·simp only[la_,lk_,List.length_drop];omega
 ·exact h
end
section
open Go.RowKit Go.Sort
section
variable {w w':World} {G:RcG} {c:Cfg} {t:List Int} {K:CluM}
theorem Tu_ (h:RClu w G c t K) (r:Int):Calls Tryz.prog 49 #[.pointer (some ⟨G.bl,0,none⟩),.int .i64 r] w (fun e w'=>e=.returned (.int .i64 (rejE r))∧∃F',RClu w' { G with LF:=F' } c t { K with rej:=rejR K.rej r }∧Mov G.F (RcG.F { G with LF:=F' }) w w'):=
 (Lj_ (upF G.LF w.heap.size) G.bl K.led K.acc K.rej r w (h.core.led.mono fun _ hi=>.inl hi)).mono fun e w' ⟨h1,h2,h3⟩=>by
  obtain⟨F',a,b,m⟩:=h2.mov h3;exact⟨h1,F',h.setL a b m⟩
theorem Tq_ (h:RClu w G c t K) (win x:Int) (hw:I64 win) (hx:W64 x) (hl:K.led.length<1000000000) (ha:0≤K.acc∧K.acc<1000000000) (hf:fitsB (ldAt K.led win) x=true):Calls Tryz.prog 51 #[.pointer (some ⟨G.bl,0,none⟩),.int .i64 win,.int .u64 x] w (fun e w'=>e=.returned (.bool true)∧∃F',RClu w' { G with LF:=F' } c t { K with led:=ldPut K.led win x,acc:=K.acc+1 }∧Mov G.F (RcG.F { G with LF:=F' }) w w'):=
 (L3_ (upF G.LF w.heap.size) G.bl K.led K.acc K.rej win x w (h.core.led.mono fun _ hi=>.inl hi) (fun i hi=>.inr hi) hw hx hl ha).mono fun e w' ⟨h1,h2,h3⟩=>by
  obtain⟨F',a,b,m⟩:=h2.mov h3
  have e1:accL K.led win x=ldPut K.led win x:=by unfold accL;rw[hf];rfl
  have e2:accN K.led win x K.acc=K.acc+1:=by unfold accN;rw[hf];rfl
  rw[e1,e2] at a;exact⟨by rw[h1,hf],F',h.setL a b m⟩
theorem Xl_ (h:RClu w G c t K) (win:Int) (hl:K.led.length<1000000000):Calls Tryz.prog 60 #[.pointer (some ⟨G.bl,0,none⟩),.int .i64 win] w (fun e w'=>e=.returned (.tuple #[.int .u64 (ldAt K.led win),.bool (ldHas K.led win)])∧∃F',RClu w' { G with LF:=F' } c t { K with led:=ldDel K.led win }∧Mov G.F (RcG.F { G with LF:=F' }) w w'):=
 (Na_ (upF G.LF w.heap.size) G.bl K.led K.acc K.rej win w (h.core.led.mono fun _ hi=>.inl hi) (fun i hi=>.inr hi) hl).mono fun e w' ⟨h1,h2,h3⟩=>by
  obtain⟨F',a,b,m⟩:=h2.mov h3;exact⟨h1,F',h.setL a b m⟩
theorem cq_ (h:RClu w G c t K) {i:Nat} {s:RshG} {S:ShM} (hi:G.sh[i]?=some s) (hS:K.sh[i]?=some S) (win:Int) (it:ItR) (hq :(S.queue.length:Int)<c.Queue) (hQ:c.Queue≤1000) (hk:0<it.key.size∧it.key.size≤255) :
  Calls Tryz.prog 52 #[.pointer (some ⟨s.g,0,none⟩),.int .i64 win,.agg #[.string it.key,.int .i64 it.time,.int .u64 it.weight]] w (fun e w'=>e=.returned (.int .i64 0)∧∃s',RClu w' { G with sh:=G.sh.set i s' } c t { K with sh:=K.sh.set i (pushS S win it) }∧Mov G.F (RcG.F { G with sh:=G.sh.set i s' }) w w'∧s'.g=s.g):=
 (da_ s c t S win it w (h.core.shd i s S hi hS) hq hQ hk).mono fun e w' ⟨h1,s',R,M,hg⟩=>by
  obtain⟨a,b⟩:=h.setS hi R M hg;exact⟨h1,s',a,b,hg⟩
end
structure FdS (w0:World) (G0:RcG) (c:Cfg) (t:List Int) (w:World) (G:RcG) (K:CluM) (vo:Value) (outs:List Int):Prop where
 clu:RClu w G c t K
 cfg:CfgW w c t G.F
 mov:Mov G0.F G.F w0 w
 out:Own intF 1 3 w0.heap.size w vo outs
 ofo:Off (ownF vo) G.F
 tl:∀i,ownF c.Table i→i<w0.heap.size
 g:G.g=G0.g
 bl:G.bl=G0.bl
 vs:G.vs=G0.vs
 gs:G.sh.map (·.g)=G0.sh.map (·.g)
def fdU (G:RcG) (vo:Value):Fp:=fun i=>G.F i∨ownF vo i
section
variable {w0 w w':World} {G0 G G':RcG} {c:Cfg} {t:List Int} {K K':CluM} {vo vo':Value} {outs outs':List Int}
theorem FdS.same (h:FdS w0 G0 c t w G K vo outs) (g:w.grownBy w' none):FdS w0 G0 c t w' G K vo outs:=⟨h.clu.same g,h.cfg.same g,h.mov.trans (Mov.same g),h.out.same g,h.ofo,h.tl,h.g,h.bl,h.vs,h.gs⟩
theorem FdS.step (h:FdS w0 G0 c t w G K vo outs) (hc:RClu w' G' c t K') (m:Mov G.F G'.F w w') (hg:G'.g=G.g) (hb:G'.bl=G.bl) (hv:G'.vs=G.vs) (hs:G'.sh.map (·.g)=G.sh.map (·.g)):FdS w0 G0 c t w' G' K' vo outs∧Mov (fdU G vo) (fdU G' vo) w w':=
 ⟨⟨hc,h.cfg.mov m,h.mov.trans m,h.out.offS m.grown h.ofo,m.off h.out.low h.ofo,h.tl,hg.trans h.g,hb.trans h.bl,hv.trans h.vs,hs.trans h.gs⟩,m.wide (fun _ hi=>.inl hi) fun _ hi=>hi.elim .inr fun e=>.inl (.inr e)⟩
theorem FdS.app (h:FdS w0 G0 c t w G K vo outs) (ho:Own intF 1 3 w0.heap.size w' vo' outs') (hg:w.grownBy w' vo.ownBlock) (hL:Lies vo vo' w.heap.size):FdS w0 G0 c t w' G K vo' outs'∧Mov (fdU G vo) (fdU G vo') w w':=by
 have gS:GrownS (ownF vo) w w':=GrownS.of hg fun k hk=>hk
 have hnew:∀i,ownF vo' i→ownF vo i∨w.heap.size≤i:=fun i hi=>by
  rcases hL with e |⟨m,e1,e2⟩
  ·left;unfold ownF at hi ⊢;rw[←e];exact hi
  ·right;unfold ownF at hi;rw[e1] at hi;cases hi;exact e2
 have hlo:∀i,ownF vo i→w0.heap.size≤i:=fun i hi=>(h.out.lt i hi).1
 have hcl:=h.clu.low
 have hT:Off (ownF c.Table) (ownF vo):=fun i hi hf=>by have:=h.tl i hi;have:=hlo i hf;omega
 have hof:Off G.F (ownF vo):=h.ofo.symm
 have hnew2:∀i,ownF vo' i→w0.heap.size≤i:=fun i hi=>(ho.lt i hi).1
 refine⟨⟨h.clu.keptS gS hof,⟨h.cfg.nums,Bk_ h.cfg.table gS hT,h.cfg.tlen,h.cfg.low.up gS.size,h.cfg.off⟩,⟨h.mov.grown.trans gS fun i hi hlt=>by have:=hlo i hi;omega,h.mov.new⟩,ho,fun i hi hf=>?_,h.tl,h.g,h.bl,h.vs,h.gs⟩,⟨gS.mono fun i hi _=>.inr hi,fun i hi=>?_⟩⟩
 ·rcases hnew i hi with e|e
  ·exact h.ofo i e hf
  ·have:=hcl i hf;omega
 ·rcases hi with hi|hi
  ·exact .inl (.inl hi)
  ·exact(hnew i hi).imp .inr id
end
end
end Go.Proofs.YtckmgjmeanloaaaGreat
