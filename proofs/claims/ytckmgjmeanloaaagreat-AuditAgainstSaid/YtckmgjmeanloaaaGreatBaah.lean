/- Several texts in one file: contracts of functions of the given program, and plain laws, for the proof of a statement. -/
import Derived.Test.YtckmgjmeanloaaaGreatBaag
set_option maxHeartbeats 8000000
set_option maxRecDepth 100000
namespace Go.Proofs.YtckmgjmeanloaaaGreat
open Go.Proofs.Tryz
section
open Go.RowKit Go.Sort
def lessE (S:List Ent) (k:ByteArray):Nat:=(S.takeWhile fun x=>ltK x.key k).length
theorem Zo_ (S:List Ent) (k:ByteArray):lessE S k≤S.length:=List.Sublist.length_le (List.takeWhile_sublist _)
theorem Xs_ {S A B:List Ent} (e:A++B=S):S.take A.length=A∧S.drop A.length=B:=by subst e;simp
theorem bd_ (S:List Ent) (x:Ent):insE S x=S.take (lessE S x.key)++[x]++S.drop (lessE S x.key):=by
 unfold insE lessE;obtain⟨h1,h2⟩:=Xs_ (List.takeWhile_append_dropWhile (p:=fun y:Ent=>ltK y.key x.key) (l:=S));rw[h1,h2];simp
theorem Wn_ {S:List Ent} {k:ByteArray}:∀{i:Nat} (_:i<lessE S k) (h2:i<S.length),ltK S[i].key k=true:=by
 induction S with
 | nil=>intro i h h2;simp at h2
 | cons a S ih=>
  intro i h h2
  by_cases ha:ltK a.key k=true
  ·cases i with
   | zero=>exact ha
   | succ i=>
    have:i<lessE S k:=by simp[lessE,ha] at h;simpa [lessE] using h
    simpa using ih this (by simpa using h2)
  ·simp[lessE,ha] at h
theorem Zr_ {S:List Ent} {k:ByteArray} (h:lessE S k<S.length):ltK S[lessE S k].key k=false:=by
 induction S with
 | nil=>simp at h
 | cons a S ih=>
  by_cases ha:ltK a.key k=true
  ·have e:lessE (a::S) k=lessE S k+1:=by simp[lessE,ha]
   have:=ih (by rw[e] at h;simpa using h)
   simpa [e] using this
  ·have e:lessE (a::S) k=0:=by simp[lessE,ha]
   simpa [e] using ha
theorem Ft_ (L:List Ent) :(sortEn L).length=L.length:=by
 have:∀(L A:List Ent),(L.foldl insE A).length=A.length+L.length:=by
  intro L
  induction L with
  | nil=>intro A;simp
  | cons e L ih=>intro A;rw[List.foldl_cons,ih,Et_,lc_];omega
 simpa [sortEn] using this L []
theorem fo_ (a b:ByteArray):Op.bytesLess a.toList b.toList=ltK a b:=by
 rw[ByteArray.toList_eq,ByteArray.toList_eq,bytesLess_eq];rfl
theorem Gt_ (v:Value) (l:List Ent) (w:World) (h:RdL entF 3 w v l) (hl:l.length≤1000000):Calls Tryz.prog 125 #[v] w (RetOwn entF 3 224 (sortEn l) w):=by
 obtain⟨a,c,rfl⟩:=h.shape;have hm:=h.2.1;have H:=hh_ h
 have hll :(l.length:Int)≤1000000:=by omega
 clear h
 go_enter func125,ntmps125
 go_wp2_with fail
 go_loopw [3,9] (fun s3 s9 wk=>∃(j:Nat),j≤l.length∧s9=.int .i64 j∧Own entF 3 224 w.heap.size wk s3 (sortEn (l.take j))∧w.grownBy wk none) (fun _ s9 _=>l.length-(RowKit.intOf s9).toNat)
 case atStart=>exact⟨0,zl_ _,rfl,Own.nil _ _ _ _ _,Ab_ _ _⟩
 case round=>
  obtain⟨j,hj,rfl,hO,hg⟩:=hrel
  by_cases hjl:j<l.length
  ·obtain⟨gx,ox,cx,hv,hgx,c0,c1,c2⟩:=(RdL.same H.out hg).entr hjl
   cases hv;have HT:=hh_ (show sortEn (l.take (j+1))=insE (sortEn (l.take j)) l[j] by rw[tg_ hjl,Ha_])
   have hsl :(sortEn (l.take j)).length≤1000000:=by rw[Ft_,lk_];omega
   generalize sortEn (l.take j)=S at *;generalize l[j]=x at *;obtain⟨oa,oc,rfl⟩:=hO.shape
   go_upto_region 5 with fail
   have O2:=hO.same (ga_ wr (.cells #[.string x.key,.int .u64 x.own,.int .u64 x.slack] 224) none);have G2:=Ad_ hg (.cells #[.string x.key,.int .u64 x.own,.int .u64 x.slack] 224);have A2:=Blk.new wr #[.string x.key,.int .u64 x.own,.int .u64 x.slack] 224;generalize wr.alloc _=w2 at *;generalize wr.heap.size=gk at *;clear hO hg c0 c1 c2 hgx;have HK:=hh_ (bd_ S x);have hKl:=Zo_ S x.key
   have HN2:=hh_ fun i (h:i<lessE S x.key) h2=>Wn_ (k:=x.key) h h2
   have HN3:=hh_ fun h=>Zr_ (S:=S) (k:=x.key) h
   generalize lessE S x.key=P at *;have hsm:=O2.len
   go_cut [6] (fun s6 wx=>s6=.int .i64 0∧w2=wx)
   case first=>
    go_wp2_with fail
    go_meet
    exact⟨rfl,rfl⟩
   obtain⟨rfl,rfl⟩:=hcut
   rename_i hK
   refine hK _ _ ?_
   apply wp_seq_k
   intro K1 hK1
   go_cut [6,13,14,15,16,17,18,19,20,21,22,23,24,25,26,27,28] (fun s6 _ _ _ _ _ _ _ _ _ _ _ _ _ _ _ _ wx=>s6=.int .i64 P∧w2.grownBy wx none)
   case first=>
    go_wp2_with fail
    go_loopw [6] (fun s6 wk=>∃k:Nat,k≤P∧s6=.int .i64 k∧w2.grownBy wk none) (fun s6 _=>P-(RowKit.intOf s6).toNat)
    case atStart=>exact⟨0,zl_ _,rfl,Ab_ _ _⟩
    case round=>
     obtain⟨k,hk,rfl,hgk⟩:=hrel;have a3:=(A2.same hgk).cell
     by_cases hkl:k<S.length
     ·obtain⟨gs,os,cs,hvs,hgs,d0,d1,d2⟩:=(O2.same hgk).rd.entr hkl
      cases hvs
      have hkl2 :(k:Int)<(S.length:Int):=by omega
      have hbl:=fo_ S[k].key x.key
      by_cases hkP:k<P
      ·rw[HN2.out k hkP hkl] at hbl
       generalize S[k]=y at *
       go_wp2_with fail
       go_quiet (fail)
       go_wp2_with fail
       exact⟨⟨k+1,by omega,by go_num,Ae_ hgk _⟩,by simp[RowKit.intOf];omega⟩
      ·obtain rfl:k=P:=by omega
       rw[HN3.out hkl] at hbl;generalize S[k]=y at *
       go_wp2_with fail
       go_quiet (fail)
       go_wp2_with fail
       go_meet
       exact⟨rfl,Ae_ hgk _⟩
     ·obtain rfl:k=P:=by omega
      have hkl2:decide ((k:Int)<(S.length:Int))=false:=df_ (by omega)
      go_wp2_with fail
      go_quiet (fail)
      go_wp2_with fail
      go_meet
      exact⟨rfl,Ae_ hgk _⟩
   obtain⟨rfl,h3⟩:=hcut;have O3:=O2.same h3;have A3:=A2.same h3;have G3:=Aa_ G2 h3;clear O2 A2 hK;refine hK1 _ _ ?_;clear hK1;have hcap:=O3.cap
   have hP0 :(0:Int)≤(P:Int):=by omega
   have hP1 :(P:Int)≤(S.length:Int):=by omega
   have hP2 :(P:Int)≤(oc:Int):=by omega
   have hP3 :(S.length:Int)≤(oc:Int):=by omega
   have hsz:=G3.size;refine wp_region_any (by kernel_rfl) ?_
   (refine Tail.take_put 8 37 (.slice oa S.length oc) rfl rfl (by kernel_rfl) (by kernel_rfl) (by kernel_rfl) (fun _ _ _ h=>h) (Or.inl ⟨by rfl,fun w=>?_⟩) ?_;· go_simp);simp only[List.setIfInBounds_toArray,List.set_cons_zero,List.set_cons_succ]
   (refine Tail.take_put 9 38 (.int .i64 P) rfl rfl (by kernel_rfl) (by kernel_rfl) (by kernel_rfl) (fun _ _ _ h=>h) (Or.inl ⟨by rfl,fun w=>?_⟩) ?_;· go_simp);simp only[List.setIfInBounds_toArray,List.set_cons_zero,List.set_cons_succ]
   (refine Tail.take_put 10 39 (.slice (if oc=P then oa else oa.map (·.add (P*3))) (S.length-P) (oc-P)) rfl rfl (by kernel_rfl) (by kernel_rfl) (by kernel_rfl) (fun _ _ _ h=>h) (Or.inl ⟨by rfl,fun w=>?_⟩) ?_;· go_simp);simp only[List.setIfInBounds_toArray,List.set_cons_zero,List.set_cons_succ]
   have RD:=hh_ fun w' (h:Own entF 3 224 w.heap.size w' (.slice oa S.length oc) S)=>h.rd.drop Az_ hKl hcap (oc-P)
   generalize (if oc=P then oa else oa.map (·.add (P*3)))=od at *
   (refine ra_ 7 #[false,false,false,false,false,false,false,false,true,true,true,false,false] ?_;simp only[List.take,List.drop,Rg.tailL];simp (decide:=true) only[if_true,if_false])
   have Gd:wc.grownBy wc.drew none:=gw_;have Kd:=Aa_ G3 Gd
   have hb1 :(S.take P).length=P:=by simp;omega
   have hb2 :(S.take P).length*32≤140737488355328:=by rw[hb1];omega
   have hb3 :(S.take P).length≤9223372036854775807:=by rw[hb1];omega
   have hb4 :((S.take P).length+1)*32≤140737488355328:=by rw[hb1];omega
   have hb5 :(S.take P).length+1≤9223372036854775807:=by rw[hb1];omega
   have hb6 :(S.take P++[x]).length=P+1:=by rw[la_,hb1];rfl
   have hb7 :(S.drop P).length=S.length-P:=by simp
   have hb8 :((S.take P++[x]).length+(S.drop P).length)*32≤140737488355328:=by rw[hb6,hb7];omega
   have hb9 :(S.take P++[x]).length+(S.drop P).length≤9223372036854775807:=by rw[hb6,hb7];omega
   have Hb1:=hh_ hb1.symm;have Hb7:=hh_ hb7.symm;clear hb1 hb6 hb7
   (refine to_ ?_;intro y0 my0 dy0)
   clear dy0;have zy0:w.heap.size≤y0.heap.size:=(Aa_ Kd my0).size
   go_wp2_with fail
   refine⟨ga_ _ _ _,?_⟩;have N0:=Aw_ (e:=224) entF 3 zy0;have hg0:wc.heap.size≤y0.heap.size:=(Aa_ Gd my0).size;generalize y0.alloc _=e0 at *;generalize y0.heap.size=g0 at *
   (refine tq_ 3 ?_;(repeat(go_big_quiet_step (fail)));refine wn_ ?_)
   (refine to_ ?_;intro y4 my4 dy4)
   have N4:=N0.same (dy4.out 0 (by omega) (by kernel_rfl));have K4:=Aa_ Gd my4;have R4:=(O3.rd.take Az_ hKl oc).same K4;have z4:=(Aa_ Kd my4).size
   go_wp2_with (at_builtin;refine A2_ Bh_ Bg_ N4 R4 Hb1.out hb2 hb3 z4 (by rfl) _ _ (by rfl) (by rfl) (by rfl) ?_;intro v4 e4 o4 g4 l4;have Hg4:=hh_ g4;clear g4)
   refine⟨Hg4.out,?_⟩;have hv4:=Lies.ge l4 (fun k hk=>lt_ hg0 (K7_ _ _ _ k hk)) K4.size;clear R4 N0 N4 K4 z4 dy4 l4
   (refine to_ ?_;intro y5 my5 dy5)
   clear dy5;have a5:=(A3.same (Aa_ Gd my5)).cell
   go_wp2_with fail
   refine⟨Ab_ _ _,?_⟩;clear a5
   (refine to_ ?_;intro y6 my6 dy6)
   clear dy6
   go_wp2_with fail
   refine⟨ga_ _ _ _,?_⟩;have N6:=Blk.new y6 #[.string x.key,.int .u64 x.own,.int .u64 x.slack] 224;generalize y6.alloc _=e6 at *;generalize y6.heap.size=g6 at *
   (refine Rg.tree_nil ?_;intro z mz dz cz)
   have o5:=o4.same (dz.out 4 (by omega));have N7:=(N6.same (dz.out 6 (by omega))).one Az_ x rfl;have Kz:=Aa_ Gd mz;have KK:=Aa_ Kd mz;have z7:=KK.size;have O7:=O3.same Kz
   have hlo:∀k,Value.ownBlock (.slice oa S.length oc)=some k→k<wc.heap.size:=fun k hk=>(O3.lt k hk).2
   have tok:=hh_ hP0;clear dz cz my0 my4 my5 my6 mz Hg4 Kz N6 o4 O3 A3 hg0 zy0 Gd Kd
   go_wp2_with (first
    |(at_builtin;have _t:=tok;refine app Bh_ Bg_ o5 N7 rfl hb4 hb5 z7 (by rfl) _ _ (by rfl) (by rfl) (by rfl) ?_;intro v7 w7 o7 g7 l7;clear tok;have K7:=Ao_ KK o5 (le_ _) g7;have R8:=RD.out _ (O7.kept g7 (fun k hk e=>by have:=hlo k hk;have:=hv4 k e;omega));have z8:=K7.size)
    |(at_builtin;refine app Bh_ Bg_ o7 R8 Hb7.out hb8 hb9 z8 (by rfl) _ _ (by rfl) (by rfl) (by rfl) ?_;intro v8 w8 o8 g8 l8;have K8:=Ao_ K7 o7 (le_ _) g8))
   exact⟨⟨j+1,by omega,by go_num,by rw[HT.out,HK.out];exact o8,K8⟩,by simp[RowKit.intOf];omega⟩
  ·have hke:l.take j=l:=tk_ (by omega)
   rw[hke] at hO
   go_wp2_with fail
   go_ret
   exact⟨_,rfl,hO,hg⟩
theorem Ri_ (g:Nat) (v:Value) (T:TabM) (w:World) (h:RTab w g v T) (hT:Bt_ T):Calls Tryz.prog 126 #[.pointer (some ⟨g,0,none⟩)] w (RetOwn entF 3 224 T.entries w):=by
 have H:=hh_ h
 have hlen:T.L.length≤64:=by have:=hT.len;have:=hT.m;omega
 have HG:=hh_ fun j (hj:j<T.L.length) y (q:w.grownBy y none)=>Ev_ g v T T.L[j].key _ y (h.same q) (Sk_ (F7_ hT.ents.nodup (mg_ hj)))
 obtain⟨a,c,hv⟩:=h.own.shape;subst hv;have b0:=h.blk.cell;have HS:=hh_ (show T.entries=sortEn (T.L.map T.fix) from rfl);clear h hT
 go_enter func126,ntmps126
 go_upto_region 3 with fail
 clear b0
 go_loopw [3,13] (fun s3 s13 wk=>∃j:Nat,j≤T.L.length∧s13=.int .i64 j∧Own entF 3 224 w.heap.size wk s3 ((T.L.take j).map T.fix)∧w.grownBy wk none) (fun _ s13 _=>T.L.length-(RowKit.intOf s13).toNat)
 case atStart=>exact⟨0,zl_ _,rfl,Own.nil _ _ _ _ _,Ab_ _ _⟩
 case round=>
  obtain⟨j,hj,rfl,hO,hg⟩:=hrel
  by_cases hjl:j<T.L.length
  ·obtain⟨g',off,cap,hv,hgl,d0,d1,d2⟩:=(H.out.same hg).own.rd.entr hjl
   cases hv;have HT:=hh_ (show(T.L.take (j+1)).map T.fix =(T.L.take j).map T.fix++[T.fix T.L[j]] by rw[tg_ hjl,List.map_append];rfl);have HGj:=hh_ (HG.out j hjl)
   have hcl :((T.L.take j).map T.fix).length≤64:=by rw[List.length_map,lk_];omega
   have hfk:=Em_ T T.L[j];generalize (T.L.take j).map T.fix=C at *;generalize T.fix T.L[j]=fe at *;generalize T.L[j]=e at *
   go_upto_region 5 with fail
   obtain⟨A1,G1⟩:=nb_ wr #[.string e.key,.int .u64 e.own,.int .u64 e.slack] 224;generalize wr.alloc _=w1 at *;generalize hgb:wr.heap.size=gb at *;have K1:=Aa_ hg G1;have O1:=hO.same G1;have a1:=A1.cell;clear d0 d1 d2 hgl hO hfk
   go_upto_region 6 with(go_at_call 160;refine(HGj.out _ K1).mono ?_;rintro e' w2 ⟨rfl,g2⟩)
   have O2:=O1.same g2;have K2:=Aa_ K1 g2;obtain⟨A3,G3⟩:=nb_ w2 #[.string fe.key,.int .u64 fe.own,.int .u64 fe.slack] 224;generalize w2.alloc _=w3 at *;generalize hgc:w2.heap.size=gc at *;have O3:=O2.same G3;have K3:=Aa_ K2 G3;have a3:=A3.cell;obtain⟨oa,oc,rfl⟩:=O3.shape
   have hb1 :(C.length+1)*32≤140737488355328:=by omega
   have hb2:C.length+1≤9223372036854775807:=by omega
   have hz3:=K3.size;clear a1 O1 O2
   go_wp2_with (at_builtin;refine A6_ (l:=C) Bh_ Bg_ Az_ O3 fe hb1 hb2 hz3 (by rfl) rfl _ _ rfl rfl rfl ?_;intro v5 w5 o5 g5 l5)
   refine⟨⟨j+1,by omega,by go_num,by rw[HT.out];exact o5,Ao_ K3 O3 (le_ _) g5⟩,by simp[RowKit.intOf];omega⟩
  ·have hje:T.L.take j=T.L:=tk_ (by omega)
   rw[hje] at hO
   have hcl :(T.L.map T.fix).length≤64:=by rw[List.length_map];omega
   generalize T.L.map T.fix=C at *;obtain⟨oa,oc,rfl⟩:=hO.shape;have HC:=hh_ (Gt_ _ _ wr hO.rd (by omega));rw[←HS.out] at HC
   go_wp2_with (go_at_call 125;refine HC.out.mono ?_;rintro e' w2 ⟨v2,rfl,o2,g2⟩)
   go_ret
   exact⟨_,rfl,o2.base fun q hq=>lt_ hg.size (o2.lt q hq).1,Aa_ hg g2⟩
structure RSto (w:World) (g:Nat) (v:Value) (n:Int) (S:List Ent):Prop where
 blk:Blk w g #[.int .i64 n,v]
 own:Own entF 3 224 0 w v S
 ne:¬ownF v g
theorem RSto.low {w:World} {g:Nat} {v:Value} {n:Int} {S:List Ent} (h:RSto w g v n S):Low w (rtF g v):=fun i hi=>hi.elim (fun e=>e▸h.blk.lt) (h.own.low i)
theorem RSto.keptS {w w':World} {g:Nat} {v:Value} {n:Int} {S:List Ent} {F:Fp} (h:RSto w g v n S) (k:GrownS F w w') (ho:Off (rtF g v) F):RSto w' g v n S:=
 ⟨h.blk.keptS k (ho g (.inl rfl)),h.own.offS k (ho.left fun _ hi=>.inr hi),h.ne⟩
theorem RSto.same {w w':World} {g:Nat} {v:Value} {n:Int} {S:List Ent} (h:RSto w g v n S) (k:w.grownBy w' none):RSto w' g v n S:=h.keptS (GrownS.none_ (S:=fun _=>False) k) fun _ _=>id
theorem RSto.setL {w:World} {g:Nat} {v v':Value} {n:Int} (h:Blk w g #[.int .i64 n,v]) {B:Nat} {S:List Ent} (ho:Own entF 3 224 B w v' S) (hn:¬ownF v' g):RSto (w.setCell ⟨g,1,none⟩ v') g v' n S∧w.grownBy (w.setCell ⟨g,1,none⟩ v') (some g):=
 ⟨⟨h.set_ 1 _ rfl,(ho.kept (Ac_ (Ab_ w (some g)) _ _) fun q hq e=>hn (by cases e;exact hq)).zero,hn⟩,Ac_ (Ab_ w (some g)) _ _⟩
theorem dc_ (n:Int) (w:World) (h1:0≤n∧n≤32):Calls Tryz.prog 154 #[.int .i64 n] w (fun e w'=>∃g,e=.returned (.tuple #[.pointer (some ⟨g,0,none⟩),.int .i64 0])∧RSto w' g (.slice none 0 0) n []∧w.heap.size≤g∧w.grownBy w' none):=by
 obtain⟨m1,m2⟩:=h1
 go_enter func154,ntmps154
 go_wp2_with fail
 go_ret2
 exact⟨_,rfl,⟨Blk.new w _ _,Own.nil _ _ _ _ _,Ay_ _⟩,le_ _,ga_ _ _ _⟩
theorem F6_ (g:Nat) (v:Value) (n:Int) (S:List Ent) (w:World) (h:RSto w g v n S):Calls Tryz.prog 161 #[.pointer (some ⟨g,0,none⟩)] w (B6_ (decide ((S.length:Int)=n)) w):=by
 obtain⟨a,c,hv⟩:=h.own.shape;subst hv;have b0:=h.blk.cell;have hb:=hh_ (show((S.length:Int)==n)=decide ((S.length:Int)=n) by rw[Bool.eq_iff_iff];simp);clear h
 go_enter func161,ntmps161
 go_wp2_with fail
 go_quiet (fail)
 go_wp2_with fail
 go_ret
 exact A7_ hb.out.symm (Ae_ (Ab_ w none) _)
theorem T2_ (g:Nat) (v:Value) (n:Int) (S:List Ent) (k:ByteArray) (w:World) (h:RSto w g v n S):Calls Tryz.prog 157 #[.pointer (some ⟨g,0,none⟩),.string k] w (B8_ (optV (getE S k)) w):=by
 have H:=hh_ h
 have HP:=hh_ fun y (q:w.grownBy y none)=>B7_ v S k y (h.same q).own.rd
 have hglt:=h.blk.lt
 cases hg:getE S k with
 | none=>
  rw[Hy_ hg] at HP;clear h hg
  go_enter func157,ntmps157
  go_upto_region 1 with fail
  obtain⟨A1,G1⟩:=nb_ w #[.string ⟨#[]⟩,.int .u64 0,.int .u64 0] 224;generalize w.alloc _=w1 at *;generalize hgb:w.heap.size=gb at *;have b1:=(H.out.same G1).blk.cell
  go_upto_region 2 with(go_at_call 182;refine(HP.out _ G1).mono ?_;rintro e w2 ⟨rfl,g2⟩)
  have A2:=A1.same g2;have K2:=Aa_ G1 g2;have f2:=A2.free;have a2:=A2.cell
  go_wp2_with fail
  (have g3:World.grownBy w2 (((w2.setCell ⟨gb,0,none⟩ (.string ⟨#[]⟩)).setCell ⟨gb,1,none⟩ (.int .u64 0)).setCell ⟨gb,2,none⟩ (.int .u64 0)) (some gb):=Ac_ (Ac_ (Ac_ (Ab_ _ _) _ _) _ _) _ _);(have A3:Blk (((w2.setCell ⟨gb,0,none⟩ (.string ⟨#[]⟩)).setCell ⟨gb,1,none⟩ (.int .u64 0)).setCell ⟨gb,2,none⟩ (.int .u64 0)) gb #[.string ⟨#[]⟩,.int .u64 0,.int .u64 0]:=((Blk.set_ (by assumption) 0 _ rfl).set_ 1 _ rfl).set_ 2 _ rfl);generalize ((w2.setCell ⟨gb,0,none⟩ (.string ⟨#[]⟩)).setCell ⟨gb,1,none⟩ (.int .u64 0)).setCell ⟨gb,2,none⟩ (.int .u64 0)=w3 at *
  have rc:=A3.cell;refine bodyPost_ret (v:=.tuple #[eV ent0,.bool false]) (by simp[results,results157,go_sem,rc]) rfl ?_;exact Bf_ rfl (Af_ K2 g3 (by omega))
 | some e=>
  obtain⟨i1,hil,_,_⟩:=Cp_ hg;rw[i1] at HP
  have HC:=hh_ fun y (q:w.grownBy y none)=>Nw_ hg (h.same q).own.rd
  generalize plN S k=N at *;obtain⟨a,c,hv⟩:=h.own.shape;subst hv;clear h hg
  go_enter func157,ntmps157
  go_upto_region 1 with fail
  obtain⟨A1,G1⟩:=nb_ w #[.string ⟨#[]⟩,.int .u64 0,.int .u64 0] 224;generalize w.alloc _=w1 at *;generalize hgb:w.heap.size=gb at *;have b1:=(H.out.same G1).blk.cell
  go_upto_region 2 with(go_at_call 182;refine(HP.out _ G1).mono ?_;rintro e w2 ⟨rfl,g2⟩)
  have A2:=A1.same g2;have K2:=Aa_ G1 g2;have b2:=(H.out.same K2).blk.cell;obtain⟨g',off,cap,hv,hgl,d0,d1,d2⟩:=HC.out _ K2;cases hv;have a2:=A2.cell;have f2:=A2.free
  go_wp2_with fail
  (have g7:World.grownBy w2 (((w2.setCell ⟨gb,0,none⟩ (.string e.key)).setCell ⟨gb,1,none⟩ (.int .u64 e.own)).setCell ⟨gb,2,none⟩ (.int .u64 e.slack)) (some gb):=Ac_ (Ac_ (Ac_ (Ab_ _ _) _ _) _ _) _ _);(have A7:Blk (((w2.setCell ⟨gb,0,none⟩ (.string e.key)).setCell ⟨gb,1,none⟩ (.int .u64 e.own)).setCell ⟨gb,2,none⟩ (.int .u64 e.slack)) gb #[.string e.key,.int .u64 e.own,.int .u64 e.slack]:=((Blk.set_ (by assumption) 0 _ rfl).set_ 1 _ rfl).set_ 2 _ rfl);generalize ((w2.setCell ⟨gb,0,none⟩ (.string e.key)).setCell ⟨gb,1,none⟩ (.int .u64 e.own)).setCell ⟨gb,2,none⟩ (.int .u64 e.slack)=w7 at *
  have rc:=A7.cell;refine bodyPost_ret (v:=.tuple #[.agg #[.string e.key,.int .u64 e.own,.int .u64 e.slack],.bool true]) (by simp[results,results157,go_sem,rc]) rfl ?_;exact Bf_ rfl (Af_ K2 g7 (by omega))
theorem Il_ (g:Nat) (v:Value) (n:Int) (S:List Ent) (k:ByteArray) (en:Ent) (w:World) (h:RSto w g v n S) (hg:getE S k=some en):Calls Tryz.prog 157 #[.pointer (some ⟨g,0,none⟩),.string k] w (B8_ (.tuple #[.agg #[.string en.key,.int .u64 en.own,.int .u64 en.slack],.bool true]) w):=by
 have:=T2_ g v n S k w h
 rw[hg] at this;exact this
theorem Iy_ (g:Nat) (v:Value) (n:Int) (S:List Ent) (k:ByteArray) (w:World) (h:RSto w g v n S) (hg:getE S k=none):Calls Tryz.prog 157 #[.pointer (some ⟨g,0,none⟩),.string k] w (B8_ (.tuple #[.agg #[.string ⟨#[]⟩,.int .u64 0,.int .u64 0],.bool false]) w):=by
 have:=T2_ g v n S k w h
 rw[hg] at this;exact this
theorem X7_ {S:List Ent} (hn :(keysE S).Nodup) {k:ByteArray} {en:Ent} (hg:getE S k=some en) (x:Int):Ht_ S k x=S.set (plN S k) ⟨en.key,en.own+x,en.slack⟩:=by
 obtain⟨_,hl,he,_⟩:=Cp_ hg;obtain⟨_,hek⟩:=A4_ hg
 refine List.ext_getElem? fun i=>?_
 unfold Ht_;rw[List.getElem?_map]
 by_cases hi:plN S k=i
 ·subst hi
  rw[he,List.getElem?_set_self hl]
  simp[hek]
 ·rw[List.getElem?_set_ne hi]
  cases hx:S[i]? with
  | none=>rfl
  | some y=>
   simp only[Option.map_some,Option.some.injEq];rw[if_neg];intro hk;refine hi ?_
   have h1 :(keysE S)[i]?=some k:=by unfold keysE;rw[List.getElem?_map,hx];simp[hk]
   have h2 :(keysE S)[plN S k]?=some k:=by unfold keysE;rw[List.getElem?_map,he];simp[hek]
   exact(List.getElem?_inj (by rw[keysE,List.length_map];exact hl) hn).1 (h2.trans h1.symm)
theorem bm_ (g:Nat) (v:Value) (n:Int) (S:List Ent) (k:ByteArray) (x:Int) (en:Ent) (w:World) (h:RSto w g v n S) (hE:Ents S) (hg:getE S k=some en) (hx:1≤x) (hs:en.own+en.slack+x≤mostW) :
  Calls Tryz.prog 158 #[.pointer (some ⟨g,0,none⟩),.string k,.int .u64 x] w (fun e w'=>e=.returned (.int .i64 0)∧RSto w' g v n (Ht_ S k x)∧Mov (rtF g v) (rtF g v) w w'):=by
 have H:=hh_ h;have hmw:mostW=9223372036854775808:=rfl;obtain⟨hem,_⟩:=A4_ hg;have e1:=hE.own en hem;have e2:=hE.slack en hem
 have HP:=hh_ fun y (q:w.grownBy y none)=>B7_ v S k y (h.same q).own.rd
 obtain⟨i1,hil,hie,_⟩:=Cp_ hg;rw[i1] at HP;have HB:=hh_ (X7_ hE.nodup hg x);rw[gq_ hil] at hie;have hie:=Option.some.inj hie
 have HF:=hh_ fun y=>Dd_ (en.own+en.slack) x y ⟨by omega,by omega⟩ ⟨by omega,by omega⟩
 rw[show fitsB (en.own+en.slack) x=true from dt_ (by omega)] at HF;have b0:=h.blk.cell;obtain⟨g',cap,hv,_,hgl,_,hc,hfz⟩:=h.own.at_ Az_ hil;have hne:=h.ne;generalize plN S k=N at *;subst hv;rw[hie] at hc;have HI:=hh_ hie
 have hgN :(N:Int)<(S.length:Int):=by omega
 have hgN0 :(0:Int)≤(N:Int):=by omega
 clear h hg i1 hie hem hE
 go_enter func158,ntmps158
 go_upto_region 2 with(go_at_call 182;refine(HP.out _ (Ab_ _ _)).mono ?_;rintro e w2 ⟨rfl,g2⟩)
 have R2:=H.out.same g2;have b2:=R2.blk.cell;obtain⟨g'',cap',hv',_,hgl',_,hc',hfz'⟩:=R2.own.at_ Az_ hil;cases hv';rw[HI.out] at hc';have d0:=hc' 0 _ rfl;have d1:=hc' 1 _ rfl;have d2:=hc' 2 _ rfl;have hw1:IntKind.u64.wrap (en.own+en.slack)=en.own+en.slack:=IntWalk.u64_in _ (by omega);rw[Nat.add_zero] at d0;have HO:=hh_ hfz';clear hc hfz hc' hfz' b0 HP
 go_upto_region 4 with fail
 go_quiet ((go_at_call 118;exact Calls.quiet_of_same ((HF.out _).mono fun _ _ ⟨he,hw⟩=>⟨he,hw.symm⟩)))
 have k3:w2.grownBy (w2.drewN nq) none:=Ae_ (Ab_ w2 none) _;have R3:=R2.same k3;have c1 :(w2.drewN nq).cell? ⟨g',N*3+1,none⟩=some (.int .u64 en.own):=d1;have f1 :(w2.drewN nq).frozen? ⟨g',N*3+1,none⟩=false:=HO.out _;have K3:=Aa_ g2 k3;clear b2 d0 d1 d2 R2 k3;generalize w2.drewN nq=w3 at *;have b3:=R3.blk.cell;have hw2:IntKind.u64.wrap (en.own+x)=en.own+x:=IntWalk.u64_in _ (by omega)
 go_wp2_with fail
 go_ret
 obtain⟨O4,g4⟩:=Own.stored (f:=entF) R3.own Az_ hil (j:=1) (by omega) (.int .u64 (en.own+x)) ⟨en.key,en.own+x,en.slack⟩ (by rw[HI.out];rfl);rw[←HB.out] at O4;refine⟨rfl,⟨R3.blk.kept g4 (fun e=>hne (by cases e;exact rfl)),?_,hne⟩,?_,fun i hi=>.inl hi⟩
 ·have:=Mq_ S k x
  exact O4
 ·exact(GrownS.none_ (S:=rtF g (.slice (some ⟨g',0,none⟩) S.length cap)) K3).trans (GrownS.of (S:=oneF g') g4 fun q e=>by cases e;exact rfl) fun i hi _=>.inr (by rw[show i=g' from hi];exact rfl)
theorem Lx_ (L:List Ent) (e:Ent):lastMin (L++[e])=match lastMin L with|none=>some e|some x=>if e.cnt≤x.cnt then some e else some x:=by
 induction L with
 | nil=>rfl
 | cons a L ih=>
  rw[List.cons_append];simp only[lastMin];rw[ih]
  cases hm:lastMin L with
  | none=>rfl
  | some x=>
   dsimp only
   by_cases h1:e.cnt≤x.cnt
   ·rw[if_pos h1]
    by_cases h2:x.cnt≤a.cnt
    ·rw[if_pos h2];dsimp only;rw[if_pos (by omega),if_pos h1]
    ·rw[if_neg h2]
   ·rw[if_neg h1]
    by_cases h2:x.cnt≤a.cnt
    ·rw[if_pos h2];dsimp only;rw[if_neg h1,if_pos h2]
    ·simp only[if_neg h2];rw[if_neg (by omega)]
theorem Lm_ (g:Nat) (v:Value) (n:Int) (S:List Ent) (x:Ent) (w:World) (h:RSto w g v n S) (hl:S.length≤64) (hx:lastMin S=some x) (hS:∀e∈S,W64 e.own∧W64 e.slack∧e.own+e.slack≤mostW) :
  Calls Tryz.prog 164 #[.pointer (some ⟨g,0,none⟩)] w (B8_ (.tuple #[.agg #[.string x.key,.int .u64 x.own,.int .u64 x.slack],.bool true]) w):=by
 have H:=hh_ h;have hmw:mostW=9223372036854775808:=rfl
 obtain⟨a0,L0,rfl⟩:∃a L,S=a::L:=by
  cases S with
  | nil=>simp[lastMin] at hx
  | cons a L=>exact⟨a,L,rfl⟩
 have HX:=hh_ hx;have HS:=hh_ hS
 have hSl:0<(a0::L0).length:=by simp
 have HA:=hh_ (show(a0::L0)[0]'hSl=a0 from rfl);have HM0:=hh_ (show lastMin ((a0::L0).take 1)=some a0 from rfl)
 have HM1:=hh_ fun(j:Nat) (hj:j<(a0::L0).length) (y:Ent) (hy:lastMin ((a0::L0).take j)=some y)=>(show lastMin ((a0::L0).take (j+1))=some (if ((a0::L0)[j]).cnt≤y.cnt then (a0::L0)[j] else y) by
  rw[tg_ hj,Lx_,hy];dsimp only;split <;> rfl)
 have HM2:=hh_ (show ∀y,lastMin ((a0::L0).take 0)=some y→False by intro y hy;simp[lastMin] at hy);clear hx hS;generalize hSS:a0::L0=S at *;clear hSS;have hglt:=h.blk.lt;obtain⟨g',off,cap,hv,hgl,d0,d1,d2⟩:=h.own.rd.entr hSl
 have HD:=hh_ fun y (q:w.grownBy y none)=>(h.same q).own.rd.entr hSl
 subst hv;have b0:=h.blk.cell;have hz :((S.length:Int)==0)=false:=bf_ (by omega)
 have hz0 :(0:Int)<(S.length:Int):=by omega
 rw[HA.out] at HD;clear h d0 d1 d2 hgl
 go_enter func164,ntmps164
 go_upto_region 1 with fail
 obtain⟨A1,G1⟩:=nb_ w #[.string ⟨#[]⟩,.int .u64 0,.int .u64 0] 224;generalize w.alloc _=w1 at *;generalize hgb:w.heap.size=gb at *;have b1:=(H.out.same G1).blk.cell;obtain⟨g'',off'',cap'',hv,hgl,d0,d1,d2⟩:=HD.out _ G1;cases hv;simp only[Nat.zero_mul,Nat.add_zero] at d0 d1 d2
 go_upto_region 4 with fail
 obtain⟨A3,G3⟩:=nb_ w1 #[.string a0.key,.int .u64 a0.own,.int .u64 a0.slack] 224;generalize w1.alloc _=w3 at *;generalize hgc:w1.heap.size=gc at *;have K3:=Aa_ G1 G3;have b3:=(H.out.same K3).blk.cell;have A4:=A1.same G3
 have hcb:gb<gc:=by have:=A1.lt;omega
 have hwb:w.heap.size≤gb:=by omega
 clear d0 d1 d2 b0 b1 HD A1 G1 G3
 go_upto_region 5 with fail
 clear b3
 go_loopw [25] (fun s25 wk=>∃(j:Nat) (y:Ent),j≤S.length∧s25=.int .i64 j∧(if j=0 then y=a0 else lastMin (S.take j)=some y)∧W64 y.own∧W64 y.slack∧y.own+y.slack≤mostW∧Blk wk gc #[.string y.key,.int .u64 y.own,.int .u64 y.slack]∧Blk wk gb #[.string ⟨#[]⟩,.int .u64 0,.int .u64 0]∧w.grownBy wk none) (fun s25 _=>S.length-(RowKit.intOf s25).toNat)
 case atStart=>
  have h0:=HS.out a0 (HA.out▸mg_ hSl);exact⟨0,a0,zl_ _,rfl,rfl,h0.1,h0.2.1,h0.2.2,A3,A4,K3⟩
 case round=>
  obtain⟨j,y,hj,rfl,hy,⟨y1,y2⟩,⟨y3,y4⟩,y5,Ac,Ab,hg⟩:=hrel
  by_cases hjl:j<S.length
  ·obtain⟨gs,os,cs,hvs,hgs,d0,d1,d2⟩:=(H.out.same hg).own.rd.entr hjl
   cases hvs;obtain⟨⟨e1,e2⟩,⟨e3,e4⟩,e5⟩:=HS.out _ (mg_ hjl)
   have hst:=hh_ (show lastMin (S.take (j+1))=some (if S[j].cnt≤y.cnt then S[j] else y) by
    by_cases h0:j=0
    ·subst h0
     rw[if_pos rfl] at hy;rw[hy,HM0.out,HA.out];rw[if_pos (Int.le_refl _)]
    ·rw[if_neg h0] at hy
     exact HM1.out j hjl y hy)
   clear hy;unfold Ent.cnt at hst;generalize S[j]=e at *
   go_upto_region 7 with fail
   obtain⟨A5,G5⟩:=nb_ wr #[.string e.key,.int .u64 e.own,.int .u64 e.slack] 224;generalize wr.alloc _=w5 at *;generalize hgd:wr.heap.size=gd at *;have K5:=Aa_ hg G5;have Ac5:=Ac.same G5;have Ab5:=Ab.same G5
   have hcd:gc<gd:=by have:=Ac.lt;omega
   have a5:=A5.cell;have ac5:=Ac5.cell;have fc5:=Ac5.free;have hw1:IntKind.u64.wrap (e.own+e.slack)=e.own+e.slack:=IntWalk.u64_in _ (by omega);have hw2:IntKind.u64.wrap (y.own+y.slack)=y.own+y.slack:=IntWalk.u64_in _ (by omega);clear d0 d1 d2 Ac Ab
   by_cases hle:e.own+e.slack≤y.own+y.slack
   ·have hs:=hst.out
    rw[if_pos hle] at hs;have Hs:=hh_ hs;have hld:decide (e.own+e.slack≤y.own+y.slack)=true:=dt_ hle;clear hs hst hle
    go_wp2_with fail
    (have g7:World.grownBy w5 (((w5.setCell ⟨gc,0,none⟩ (.string e.key)).setCell ⟨gc,1,none⟩ (.int .u64 e.own)).setCell ⟨gc,2,none⟩ (.int .u64 e.slack)) (some gc):=Ac_ (Ac_ (Ac_ (Ab_ _ _) _ _) _ _) _ _);(have A7:Blk (((w5.setCell ⟨gc,0,none⟩ (.string e.key)).setCell ⟨gc,1,none⟩ (.int .u64 e.own)).setCell ⟨gc,2,none⟩ (.int .u64 e.slack)) gc #[.string e.key,.int .u64 e.own,.int .u64 e.slack]:=((Blk.set_ (by assumption) 0 _ rfl).set_ 1 _ rfl).set_ 2 _ rfl);generalize ((w5.setCell ⟨gc,0,none⟩ (.string e.key)).setCell ⟨gc,1,none⟩ (.int .u64 e.own)).setCell ⟨gc,2,none⟩ (.int .u64 e.slack)=w7 at *
    have Ab7:=Ab5.kept g7 (by simp;omega);exact⟨⟨j+1,e,by omega,by go_num,by rw[if_neg (by omega)];exact Hs.out,⟨e1,e2⟩,⟨e3,e4⟩,e5,A7,Ab7,Af_ K5 g7 (by omega)⟩,by simp[RowKit.intOf];omega⟩
   ·have hs:=hst.out
    rw[if_neg hle] at hs;have Hs:=hh_ hs;have hld:decide (e.own+e.slack≤y.own+y.slack)=false:=df_ hle;clear hs hst hle
    go_wp2_with fail
    exact⟨⟨j+1,y,by omega,by go_num,by rw[if_neg (by omega)];exact Hs.out,⟨y1,y2⟩,⟨y3,y4⟩,y5,Ac5,Ab5,K5⟩,by simp[RowKit.intOf];omega⟩
  ·have hje:S.take j=S:=tk_ (by omega)
   rw[if_neg (by omega),hje,HX.out] at hy;have hy:=Option.some.inj hy;subst hy;have ac:=Ac.cell;have ab:=Ab.cell;have fb:=Ab.free
   go_wp2_with fail
   (have g7:World.grownBy wr (((wr.setCell ⟨gb,0,none⟩ (.string x.key)).setCell ⟨gb,1,none⟩ (.int .u64 x.own)).setCell ⟨gb,2,none⟩ (.int .u64 x.slack)) (some gb):=Ac_ (Ac_ (Ac_ (Ab_ _ _) _ _) _ _) _ _);(have A7:Blk (((wr.setCell ⟨gb,0,none⟩ (.string x.key)).setCell ⟨gb,1,none⟩ (.int .u64 x.own)).setCell ⟨gb,2,none⟩ (.int .u64 x.slack)) gb #[.string x.key,.int .u64 x.own,.int .u64 x.slack]:=((Blk.set_ (by assumption) 0 _ rfl).set_ 1 _ rfl).set_ 2 _ rfl);generalize ((wr.setCell ⟨gb,0,none⟩ (.string x.key)).setCell ⟨gb,1,none⟩ (.int .u64 x.own)).setCell ⟨gb,2,none⟩ (.int .u64 x.slack)=w7 at *
   have rc:=A7.cell;refine bodyPost_ret (v:=.tuple #[.agg #[.string x.key,.int .u64 x.own,.int .u64 x.slack],.bool true]) (by simp[results,results164,go_sem,rc]) rfl ?_;exact Bf_ rfl (Af_ hg g7 hwb)
theorem Wv_ (g:Nat) (v:Value) (n:Int) (S:List Ent) (k:ByteArray) (fe:Ent) (w:World) (h:RSto w g v n S) (hlen:S.length≤64) (hg:getE S k=some fe):Calls Tryz.prog 165 #[.pointer (some ⟨g,0,none⟩),.string k] w (fun e w'=>e=.returned (.tuple #[.agg #[.string fe.key,.int .u64 fe.own,.int .u64 fe.slack],.bool true])∧∃v',RSto w' g v' n (delE S k)∧Mov (rtF g v) (rtF g v') w w'):=by
 have H:=hh_ h;obtain⟨i1,hil,hie,hdel⟩:=Cp_ hg
 have HG:=hh_ fun y (q:w.grownBy y none)=>Il_ g v n S k fe y (h.same q) hg
 have HP0:=hh_ fun y (R:Own entF 3 224 0 y v S)=>B7_ v S k y R.rd
 rw[i1] at HP0
 have HW0:=hh_ fun y (R:Own entF 3 224 0 y v S)=>D0_ 0 v S (plN S k) y R hil (by omega)
 rw[←hdel] at HW0;generalize plN S k=I0 at *;generalize hI :(I0:Int)=I at *;generalize delE S k=L1 at *;obtain⟨a,c,hv⟩:=h.own.shape;subst hv;have hgl:=h.blk.lt;clear h hg i1 hie hdel
 go_enter func165,ntmps165
 go_upto_region 1 with fail
 obtain⟨A1,G1⟩:=nb_ w #[.string ⟨#[]⟩,.int .u64 0,.int .u64 0] 224;generalize w.alloc _=w1 at *;generalize hgb:w.heap.size=gb at *
 go_upto_region 2 with(go_at_call 157;refine(HG.out _ G1).mono ?_;rintro e w2 ⟨rfl,g2⟩)
 have K2:=Aa_ G1 g2;have A2:=A1.same g2;obtain⟨A3,G3⟩:=nb_ w2 #[.string fe.key,.int .u64 fe.own,.int .u64 fe.slack] 224;generalize w2.alloc _=w3 at *;generalize hgc:w2.heap.size=gc at *;have K3:=Aa_ K2 G3;have A4:=A2.same G3
 go_upto_region 3 with fail
 have k5:w.grownBy w3.drew none:=Am_ K3;have R5:=H.out.same k5;have HB:=hh_ R5.blk;have HO:=hh_ R5.own;have A5:=A3.drew1;have A6:=A4.drew1;have hcN:gc<w3.drew.heap.size:=A5.lt;have hgN:g<w3.drew.heap.size:=HB.out.lt;have hbN:gb<w3.drew.heap.size:=A6.lt;obtain⟨N,hN⟩:∃N,N=w3.drew.heap.size:=⟨_,rfl⟩;have HN2:=hh_ (Nat.le_of_eq hN);rw[←hN] at hcN hgN hbN
 have hvN:∀i,ownF (.slice a S.length c) i→i<N:=by rw[hN];exact HO.out.low
 have HX:=hh_ A5;have HY:=hh_ A6;obtain⟨P,hP⟩:∃P:List Ent→Prop,P=fun Q=>Q=L1:=⟨_,rfl⟩;have HPF:=hh_ (show P L1 by rw[hP])
 have HP:=hh_ fun y (m:Keep entF 3 224 N P w3.drew y)=>HP0.out y (HO.out.keptS m.grown fun q hq hge=>by have:=hvN q hq;omega)
 have HW:=hh_ fun y (m:Keep entF 3 224 N P w3.drew y)=>HW0.out y (HO.out.keptS m.grown fun q hq hge=>by have:=hvN q hq;omega)
 have Hk:=hh_ k5;have hz5:=k5.size
 have hN0:w.heap.size≤N:=by omega
 have HI:=hh_ hI;have Hgc:=hh_ hgc
 have hbc:gb<gc:=by have:=A2.lt;omega
 have hb0:w.heap.size≤gb:=by omega
 clear HP0 HW0 hN k5 A5 A6 A1 A2 A3 A4 R5 G1 G3 K2 K3 HG g2 hP hI hz5 hgc
 (refine Rg.wp_region_rgZ 14 #[] (Keep entF 3 224 N P) (fun k _ w v w'=>match k with | 10=>v=.int .i64 I∧World.grownBy w w' none | 11=>Own entF 3 224 N w' v L1∧World.grownBy w w' none | _=>False) (by kernel_rfl) (by kernel_rfl) (Keep.refl _ _ _ _ _) (fun _ _ _ h k=>h.trans k) (fun _ _ _ _ _ h=>h) ?_;simp only[List.take,List.drop])
 generalize w3.drew=wd at *
 (refine tq_ 4 ?_;(repeat(go_big_quiet_step (fail)));refine wn_ ?_)
 (refine to_ ?_;intro y4 my4 dy4)
 clear dy4;have ax:=(my4.blk HB.out hgN).cell
 go_wp2_with fail
 refine⟨Keep.refl _ _ _ _ _ _,?_⟩;clear ax my4
 (refine tq_ 3 ?_;(repeat(go_big_quiet_step (fail)));refine wn_ ?_)
 (refine to_ ?_;intro y8 my8 dy8)
 clear dy8;have ax:=(my8.blk HB.out hgN).cell
 go_wp2_with fail
 refine⟨Keep.refl _ _ _ _ _ _,?_⟩;clear ax my8
 (refine tq_ 1 ?_;(repeat(go_big_quiet_step (fail)));refine wn_ ?_)
 (refine tc_ ?_;intro y10 my10 dy10;refine⟨?_,?_⟩;· (unfold Rg.callSpec;go_simp;(refine(HP.out y10 my10).mono ?_;rintro e w' ⟨rfl,g'⟩;exact⟨_,rfl,rfl,g'⟩)))
 clear dy10;rintro v10 e10 ⟨rfl,g10⟩;refine⟨Keep.of g10,?_⟩;simp only[pt_];clear g10 my10
 (refine tc_ ?_;intro y11 my11 dy11;refine⟨?_,?_⟩;· (unfold Rg.callSpec;go_simp;(refine(HW.out y11 my11).mono ?_;rintro e w' ⟨v',rfl,o',g'⟩;exact⟨_,rfl,o'.base (fun q hq=>lt_ (lt_ HN2.out my11.grown.size) (o'.lt q hq).1),g'⟩)))
 clear dy11;rintro v11 e11 ⟨o11,g11⟩;refine⟨Keep.of g11,?_⟩;simp only[pt_];clear g11 my11
 (refine tq_ 2 ?_;(repeat(go_big_quiet_step (fail)));refine wn_ ?_)
 (refine Rg.tree_nil ?_;intro z mz dz cz)
 have OZ:=(dz.out 11 (by omega)).own _ _ HPF.out o11;have BZ:=mz.blk HB.out hgN;have XZ:=mz.blk HX.out hcN;have YZ:=mz.blk HY.out hbN;have GZ:=mz.grown;clear dz cz o11 mz;have bz:=BZ.cell;have fz:=BZ.free;obtain⟨az,cz2,hvz⟩:=OZ.shape;subst hvz
 go_upto_region 4 with fail
 have hnz:¬ownF (.slice az L1.length cz2) g:=fun e=>by have:=(OZ.lt _ e).1;omega
 obtain⟨R6,g6⟩:=RSto.setL BZ OZ hnz;have X6:=XZ.kept g6 (by simp;omega);have Y6:=YZ.kept g6 (by simp;omega)
 have HOZ:=hh_ fun i hi=>(OZ.lt i hi).1
 clear bz fz BZ OZ XZ YZ;generalize z.setCell ⟨g,1,none⟩ (.slice az L1.length cz2)=w6 at *;have x6:=X6.cell;have y6:=Y6.cell;have f6:=Y6.free
 go_wp2_with fail
 (have g7:World.grownBy w6 (((w6.setCell ⟨gb,0,none⟩ (.string fe.key)).setCell ⟨gb,1,none⟩ (.int .u64 fe.own)).setCell ⟨gb,2,none⟩ (.int .u64 fe.slack)) (some gb):=Ac_ (Ac_ (Ac_ (Ab_ _ _) _ _) _ _) _ _);(have A7:Blk (((w6.setCell ⟨gb,0,none⟩ (.string fe.key)).setCell ⟨gb,1,none⟩ (.int .u64 fe.own)).setCell ⟨gb,2,none⟩ (.int .u64 fe.slack)) gb #[.string fe.key,.int .u64 fe.own,.int .u64 fe.slack]:=((Blk.set_ (by assumption) 0 _ rfl).set_ 1 _ rfl).set_ 2 _ rfl);generalize ((w6.setCell ⟨gb,0,none⟩ (.string fe.key)).setCell ⟨gb,1,none⟩ (.int .u64 fe.own)).setCell ⟨gb,2,none⟩ (.int .u64 fe.slack)=w7 at *
 have rc:=A7.cell;have hz6:=g6.size;refine bodyPost_ret (v:=.tuple #[.agg #[.string fe.key,.int .u64 fe.own,.int .u64 fe.slack],.bool true]) (by simp[results,results165,go_sem,rc]) rfl ?_
 have R7:=R6.keptS (GrownS.of (S:=oneF gb) g7 fun q e=>by cases e;exact rfl) fun i hi hib=>by
  rw[show i=gb from hib] at hi
  rcases hi with hi|hi
  ·omega
  ·have:=HOZ.out gb hi;omega
 refine⟨rfl,_,R7,?_,fun i hi=>?_⟩
 ·have M2:GrownS (rtF g (.slice a S.length c)) w wd:=GrownS.none_ Hk.out
  refine((M2.trans GZ fun i hi hlt=>absurd hi (by omega)).trans (GrownS.of (S:=oneF g) g6 fun q e=>by cases e;exact rfl) fun i hi _=>.inl hi).trans (GrownS.of (S:=oneF gb) g7 fun q e=>by cases e;exact rfl) fun i hi hlt=>?_
  have:i=gb:=hi
  omega
 ·rcases hi with hi|hi
  ·exact .inl (.inl hi)
  ·exact .inr (lt_ hN0 (HOZ.out i hi))
end
section
open Go.RowKit
section
variable {α:Type} {f:α→List Value} {st e:TypeId} {z:Value} {size bytes:Nat} {N:Nat} {P:List α→Prop} {w w':World}
theorem Q5_ {u v:Value} {l T:List α} (hf:∀x,(f x).length=size) (ho:Own f size e N w v l) (hu:Own f size e N w u T) (hle:l.length≤T.length) {g:Nat} (h1:v.ownBlock=some g) (h2:u.ownBlock=some g):cellsOf f (T.take l.length)=cellsOf f l:=by
 rcases ho.2 with⟨rfl,_⟩ |⟨g1,cap1,cur1,rfl,_,hg1,_,_,_,ht1⟩
 ·simp[Value.ownBlock] at h1
 ·rcases hu.2 with⟨rfl,_⟩ |⟨g2,cap2,cur2,rfl,_,hg2,_,_,_,ht2⟩
  ·simp[Value.ownBlock] at h2
  ·have e1:g1=g:=by simpa [Value.ownBlock] using h1
   have e2:g2=g:=by simpa [Value.ownBlock] using h2
   subst e1 e2;rw[hg1] at hg2;cases hg2
   have h3 :(cellsOf f T).take (l.length*size)=cellsOf f l:=by
    rw[←ht2,←ht1,List.take_take,Nat.min_eq_left (Nat.mul_le_mul_right _ hle)]
   rw[←h3]
   have h4:cellsOf f T=cellsOf f (T.take l.length)++cellsOf f (T.drop l.length):=by rw[←Aq_,List.take_append_drop]
   rw[h4,List.take_left' (by rw[At_ f size hf,lk_,Nat.min_eq_left hle])]
variable {v:Value} {l l2:List α} {A:Option Addr} {m c:Nat}
variable {o:Oper} {a:Act} {ops:Array Oper} {rest:List Oper} {Q:Exit→Act→World→Prop}
theorem Ma_ (E:Elt st e z size bytes) (h1:OneF f) (hf:∀x,(f x).length=size) (hown:Own f size e N w v l) (hr:RdL f size w (.slice A m c) l2) (hm:m=l2.length) (hb :(l.length+l2.length)*bytes≤140737488355328) (h63:l.length+l2.length≤9223372036854775807) (hbase:N≤w.heap.size)
  (hP:∀T,P T→(T.length≤l.length∨T <+: l++l2∨l++l2 <+: T)∨(l.length≤T.length∧cellsOf f (T.take l.length)≠cellsOf f l))
  (hgd:o.guard=none) (s x:Operand) (ho:o.op=.call { callee:=.builtin .append,args:=#[s,x],argTypes:=#[st,st] }) (hs:a.eval s=v) (hx:a.eval x=.slice A m c)
  (h:∀v' w',Own f size e N w' v' (l++l2)→Keep f size e N P w w'→wpList Tryz.prog ops Q rest (a.put o.dst v') w'):wpList Tryz.prog ops Q (o::rest) a w:=by
 refine wpList_plain hgd fun _ hK=>?_
 subst hm;obtain⟨v',w',hrun,h2,h3,h4⟩:=Gl_ (ty:=o.type) E hown hr (h1.cells l2) (by unfold maxLen;exact h63) hb hbase
 have h2':Own f size e N w' v' (l++l2):=by unfold Own;rw[Aq_,la_];exact h2
 unfold Oper.wp execOp;simp only[ho,resolve,invoke,builtin,Sem.run_bind,Sem.run_pure,Result.andThen_ok,List.map_toArray,List.map_cons,List.map_nil,hs,hx,hrun];refine hK _ _ (h v' w' h2' ⟨GrownS.of h3 (fun k hk=>(hown.lt k hk).1),fun T u hp hu=>?_⟩)
 rcases hP T hp with hT |⟨hle,hne⟩
 ·exact Fg_ hf E.pos hown h2' h3 h4 hT hu
 ·refine hu.kept h3 fun k hk e=>hne ?_
  exact Q5_ hf hown hu hle e hk
end
end
section
open Go.RowKit Go.Sort
theorem Kd_:∀{L M:List Ent},L.length=M.length→cellsOf entF L=cellsOf entF M→L=M
 | [],[],_,_=>rfl
 | [],_::_,h,_=>by simp at h
 | _::_,[],h,_=>by simp at h
 | a::L,b::M,h,hc=>by
  simp only[cellsOf,List.flatMap_cons,entF,List.cons_append,List.nil_append] at hc
  injection hc with h1 hc
  injection hc with h2 hc
  injection hc with h3 hc
  have:=Kd_ (L:=L) (M:=M) (by simpa using h) hc
  obtain⟨k1,o1,s1⟩:=a;obtain⟨k2,o2,s2⟩:=b
  injection h1 with h1;injection h2 with _ h2;injection h3 with _ h3
  simp at h1 h2 h3
  subst h1 h2 h3 this
  rfl
theorem Rc_ {y e:Ent} {S:List Ent} (h :(y::S).Perm (e::S)):y=e:=by
 classical
 have h1:=h.count_eq y;rw[List.count_cons_self] at h1
 refine Decidable.byContradiction fun hne=>?_
 rw[List.count_cons_of_ne (Ne.symm hne)] at h1
 omega
theorem T5_ (g:Nat) (v:Value) (n:Int) (S:List Ent) (e:Ent) (w:World) (h:RSto w g v n S) (hA:AscE S) (hlen:S.length≤64) (hl :(S.length:Int)≠n) (hn:e.key∉keysE S) (he:0<e.key.size) (ho:0≤e.own) (hs:0≤e.slack) (hc:e.own+e.slack≤mostW) :
  Calls Tryz.prog 163 #[.pointer (some ⟨g,0,none⟩),.agg #[.string e.key,.int .u64 e.own,.int .u64 e.slack]] w (fun en w'=>en=.returned (.int .i64 0)∧∃v',RSto w' g v' n (insE S e)∧Mov (rtF g v) (rtF g v') w w'):=by
 have H:=hh_ h;have hmw:mostW=9223372036854775808:=rfl
 have HPe:=hh_ fun z (q:w.grownBy z none)=>B7_ v S e.key z (h.same q).own.rd
 rw[Hy_ (Cz_.2 hn)] at HPe
 have HF:=hh_ fun z (q:w.grownBy z none)=>F6_ g v n S z (h.same q)
 rw[df_ hl] at HF
 have HE:=hh_ fun z=>K0_ e.own e.slack 9223372036854775808 z ⟨by omega,by omega⟩ ⟨by omega,by omega⟩ ⟨by omega,by omega⟩ (by omega)
 have HR:=hh_ (show sortEn (S++[e])=insE S e by rw[Ha_,Qg_ hA]);have he2:=Bc_ e.key;rw[df_ (show ¬e.key.size=0 by omega)] at he2;obtain⟨a,c,hv⟩:=h.own.shape;subst hv;have hgl:=h.blk.lt;clear h hA hn hl
 go_enter func163,ntmps163
 go_upto_region 1 with fail
 obtain⟨E3,K3⟩:=nb_ w #[.string e.key,.int .u64 e.own,.int .u64 e.slack] 224;generalize w.alloc _=w3 at *;generalize hge:w.heap.size=ge at *;have e3:=E3.cell
 go_upto_region 3 with fail
 clear e3;have k4:=Am_ K3;have HE3:=hh_ E3.drew1
 (refine rn_ 9 (fun k _ w v w'=>match k with | 6=>v=.int .i64 (-1)∧World.grownBy w w' none | _=>False) ?_;simp only[ts_])
 clear E3 K3;generalize w3.drew=wq at *
 (refine tq_ 3 ?_;(repeat(go_big_quiet_step (fail)));refine wn_ ?_)
 (refine to_ ?_;intro y3 my3 dy3)
 clear dy3;have ax:=(H.out.same (Aa_ k4 my3)).blk.cell
 go_wp2_with fail
 refine⟨Ab_ _ _,?_⟩;clear ax my3
 (refine tq_ 1 ?_;(repeat(go_big_quiet_step (fail)));refine wn_ ?_)
 (refine to_ ?_;intro y5 my5 dy5)
 clear dy5;have ax:=(HE3.out.same my5).cell
 go_wp2_with fail
 refine⟨Ab_ _ _,?_⟩;clear ax my5
 (refine tc_ ?_;intro y6 my6 dy6;refine⟨?_,?_⟩;· (unfold Rg.callSpec;go_simp;(refine(HPe.out y6 (Aa_ k4 my6)).mono ?_;rintro e w' ⟨rfl,g'⟩;exact⟨_,rfl,rfl,g'⟩)))
 clear dy6;rintro v6 e6 ⟨rfl,g6⟩;refine⟨g6,?_⟩;simp only[pt_];clear g6 my6
 (refine tq_ 2 ?_;(repeat(go_big_quiet_step (fail)));refine wn_ ?_)
 (refine Rg.tree_nil ?_;intro z mz dz cz)
 have KZ:=Aa_ k4 mz;have EZ:=HE3.out.same mz;clear dz cz mz k4 HE3
 go_upto_region 7 with(go_at_call 161;refine(HF.out _ KZ).mono ?_;rintro e' w5 ⟨rfl,g5⟩)
 have K5:=Aa_ KZ g5;have E5:=EZ.same g5;have e5:=E5.cell;clear KZ EZ g5
 go_upto_region 9 with(go_at_call 185;refine(HE.out _).mono ?_;rintro e' w6 ⟨rfl,g6⟩)
 have K6:=Aa_ K5 g6;have E6:=E5.same g6;clear e5 E5 g6 K5;have k7:w.grownBy w6.drew none:=Am_ K6;have R7:=H.out.same k7;have HB:=hh_ R7.blk;have HO:=hh_ R7.own;have A7:=E6.drew1;have hcN:ge<w6.drew.heap.size:=A7.lt;have hgN:g<w6.drew.heap.size:=HB.out.lt;obtain⟨N,hN⟩:∃N,N=w6.drew.heap.size:=⟨_,rfl⟩;have HN2:=hh_ (Nat.le_of_eq hN);rw[←hN] at hcN hgN
 have hvN:∀i,ownF (.slice a S.length c) i→i<N:=by rw[hN];exact HO.out.low
 have HX:=hh_ A7;obtain⟨P,hP⟩:∃P:List Ent→Prop,P=fun Q=>Q=[]∨Q=S∨Q=[⟨e.key,e.own,e.slack⟩]∨Q=S++[⟨e.key,e.own,e.slack⟩]∨Q=insE S e:=⟨_,rfl⟩;have HP0:=hh_ (show P [] by rw[hP];exact .inl rfl);have HP1:=hh_ (show P S by rw[hP];exact .inr (.inl rfl));have HPx:=hh_ (show P [⟨e.key,e.own,e.slack⟩] by rw[hP];exact .inr (.inr (.inl rfl)));have HPF:=hh_ (show P (S++[⟨e.key,e.own,e.slack⟩]) by rw[hP];exact .inr (.inr (.inr (.inl rfl))));have HPZ:=hh_ (show P (insE S e) by rw[hP];exact .inr (.inr (.inr (.inr rfl))))
 have HP2:=hh_ (show ∀Q,P Q→(Q.length≤S.length∨Q <+: S++[⟨e.key,e.own,e.slack⟩]∨S++[⟨e.key,e.own,e.slack⟩] <+: Q)∨(S.length≤Q.length∧cellsOf entF (Q.take S.length)≠cellsOf entF S) by
  intro Q hQ;rw[hP] at hQ
  rcases hQ with rfl|rfl|rfl|rfl|rfl
  ·exact .inl (.inl (zl_ _))
  ·exact .inl (.inl (le_ _))
  ·cases S with
   | nil=>exact .inl (.inr (.inl (List.prefix_refl _)))
   | cons _ _=>exact .inl (.inl (by simp))
  ·exact .inl (.inr (.inl (List.prefix_refl _)))
  ·have hil:=Et_ S e
   by_cases hc:cellsOf entF ((insE S e).take S.length)=cellsOf entF S
   ·left;right;left
    have h1:=Kd_ (by rw[lk_,hil];omega) hc
    have h2:insE S e=S++(insE S e).drop S.length:=by conv=>lhs;rw[←List.take_append_drop S.length (insE S e),h1]
    obtain⟨y,hy⟩:∃y,(insE S e).drop S.length=[y]:=by
     have :((insE S e).drop S.length).length=1:=by rw[List.length_drop,hil];omega
     exact List.length_eq_one_iff.1 this
    rw[hy] at h2;have hp:=Bj_ S e;rw[h2] at hp;have hp2 :(y::S).Perm (e::S):=(List.perm_append_singleton y S).symm.trans hp
    have:y=e:=by
     exact Rc_ hp2
    rw[h2,this];exact List.prefix_refl _
   ·exact .inr ⟨by omega,hc⟩)
 have hb2:S.length*32≤140737488355328:=by omega
 have hb3:S.length≤9223372036854775807:=by omega
 have hb4 :(S.length+[(⟨e.key,e.own,e.slack⟩:Ent)].length)*32≤140737488355328:=by simp;omega
 have hb5:S.length+[(⟨e.key,e.own,e.slack⟩:Ent)].length≤9223372036854775807:=by simp;omega
 have Hk:=hh_ k7;have hz7:=k7.size
 have hN0:w.heap.size≤N:=by omega
 clear hN k7 A7 R7 hP hz7 K6 E6
 (refine Rg.wp_region_rgZ 13 #[] (Keep entF 3 224 N P) (fun k _ w v w'=>match k with | 10=>Own entF 3 224 N w' v (insE S e)∧World.grownBy w w' none | _=>False) (by kernel_rfl) (by kernel_rfl) (Keep.refl _ _ _ _ _) (fun _ _ _ h k=>h.trans k) (fun _ _ _ _ _ h=>h) ?_;simp only[List.take,List.drop])
 generalize w6.drew=wd at *
 (refine tq_ 1 ?_;(repeat(go_big_quiet_step (fail)));refine wn_ ?_)
 (refine to_ ?_;intro y1 my1 dy1)
 clear dy1;have z1:=lt_ HN2.out my1.grown.size
 go_wp2_with fail
 refine⟨Keep.of (ga_ _ _ _),?_⟩;have N1:=Aw_ (e:=224) entF 3 z1;generalize y1.alloc _=e1 at *;generalize y1.heap.size=g1 at *
 (refine tq_ 3 ?_;(repeat(go_big_quiet_step (fail)));refine wn_ ?_)
 (refine to_ ?_;intro y5 my5 dy5)
 clear dy5;have ax:=(my5.blk HB.out hgN).cell
 go_wp2_with fail
 refine⟨Keep.refl _ _ _ _ _ _,?_⟩;clear ax my5
 (refine to_ ?_;intro y6 my6 dy6)
 have N6:=(dy6.out 1 (by omega) (by kernel_rfl)).own [] _ HP0.out N1;have R6:=my6.rd HO.out.rd (fun _ a n c e=>by cases e;exact hvN _ rfl);have z6:=lt_ HN2.out my6.grown.size;clear dy6
 go_wp2_with (at_builtin;refine A2_ Bh_ Bg_ N6 R6 rfl hb2 hb3 z6 (by rfl) _ _ (by rfl) (by rfl) (by rfl) ?_;intro v8 e8 o8 g8 l8;have Hg8:=hh_ g8;clear g8 l8)
 refine⟨Keep.of Hg8.out,?_⟩;clear N6 R6 z6 N1 my6 my1 z1
 (refine to_ ?_;intro y7 my7 dy7)
 clear dy7;have ax:=(my7.blk HX.out hcN).cell
 go_wp2_with fail
 refine⟨Keep.refl _ _ _ _ _ _,?_⟩;clear ax my7
 (refine to_ ?_;intro y8 my8 dy8)
 clear dy8;have z8:=lt_ HN2.out my8.grown.size
 go_wp2_with fail
 refine⟨Keep.of (ga_ _ _ _),?_⟩;have N8:Own entF 3 224 N (y8.alloc (.cells #[.string e.key,.int .u64 e.own,.int .u64 e.slack] 224)) (.slice (some ⟨y8.heap.size,0,none⟩) 1 1) [⟨e.key,e.own,e.slack⟩]:=By_ Az_ y8 z8 ⟨e.key,e.own,e.slack⟩ _ rfl;generalize y8.alloc _=e9 at *;generalize y8.heap.size=g9 at *
 (refine to_ ?_;intro y9 my9 dy9)
 have N9:=(dy9.out 6 (by omega) (by kernel_rfl)).own _ _ HP1.out o8;have R9:=((dy9.out 8 (by omega) (by kernel_rfl)).own _ _ HPx.out N8).rd;have z9:=lt_ HN2.out my9.grown.size;clear dy9
 go_wp2_with (at_builtin;refine Ma_ Bh_ Bg_ Az_ N9 R9 rfl hb4 hb5 z9 HP2.out (by rfl) _ _ (by rfl) (by rfl) (by rfl) ?_;intro v10 e10 o10 k10;have Hk10:=hh_ k10;clear k10)
 refine⟨Hk10.out,?_⟩;clear N9 R9 z9 N8 z8 my8 my9 o8;obtain⟨a9,c9,hv9⟩:=o10.shape;rw[la_,ls_] at hv9;subst hv9
 have HSo:=hh_ fun y (R:Own entF 3 224 N y (.slice a9 (S.length+1) c9) (S++[⟨e.key,e.own,e.slack⟩]))=>Gt_ _ _ y R.rd (by rw[la_,ls_];omega)
 rw[HR.out] at HSo
 (refine tc_ ?_;intro y10 my10 dy10;refine⟨?_,?_⟩;· (unfold Rg.callSpec;go_simp;(refine(HSo.out y10 ((dy10.out 9 (by omega) (by kernel_rfl)).own _ _ HPF.out o10)).mono ?_;rintro e w' ⟨v',rfl,o',g'⟩;exact⟨_,rfl,o'.base (fun q hq=>lt_ (lt_ HN2.out my10.grown.size) (o'.lt q hq).1),g'⟩)))
 clear dy10;rintro v11 e11 ⟨o11,g11⟩;refine⟨Keep.of g11,?_⟩;simp only[pt_];clear g11 my10
 (refine tq_ 2 ?_;(repeat(go_big_quiet_step (fail)));refine wn_ ?_)
 (refine Rg.tree_nil ?_;intro z mz dz cz)
 have oz:=(dz.out 10 (by omega)).own _ _ HPZ.out o11;have BZ:=mz.blk HB.out hgN;have GZ:=mz.grown;clear dz cz o10 o11 mz Hg8 Hk10 HSo;obtain⟨az,cz2,hvz⟩:=oz.shape;rw[Et_] at hvz;subst hvz;have b9:=BZ.cell;have f9:=BZ.free
 go_wp2_with fail
 go_ret
 have hnz:¬ownF (.slice az (S.length+1) cz2) g:=fun e=>by have:=(oz.lt _ e).1;omega
 obtain⟨R6,g6⟩:=RSto.setL BZ oz hnz;refine⟨rfl,_,R6,?_,fun i hi=>?_⟩
 ·have M2:GrownS (rtF g (.slice a S.length c)) w wd:=GrownS.none_ Hk.out
  exact(M2.trans GZ fun i hi hlt=>absurd hi (by omega)).trans (GrownS.of (S:=oneF g) g6 fun q e=>by cases e;exact rfl) fun i hi _=>.inl hi
 ·rcases hi with hi|hi
  ·exact .inl (.inl hi)
  ·exact .inr (by have:=(oz.lt i hi).1;omega)
end
section
open Go.RowKit
def B3_ (l:List Int):Array Value:=(l.map (fun x=>Value.int .u64 x)).toArray
theorem Vl_ :(Tryz.prog.info? 22).map (fun i=>(i.zero,i.size,i.bytes))=some (some (.int .u64 0),1,8):=by kernel_rfl
theorem Qy_ (n:Nat):madeCells #[Value.int .u64 0] n=B3_ (List.replicate n 0):=by
 unfold madeCells B3_
 apply Array.ext
 ·simp
 ·intro i h1 h2
  simp[Nat.mod_one]
theorem Qe_ (n:Nat) (hn:n≤1000000) (w:World) :
  (Instr.makeSlice 24 (.int .i64 n) (.int .i64 n)).run Tryz.prog w=.ok (.slice (some ⟨w.heap.size,0,none⟩) n n) (w.alloc (.cells (B3_ (List.replicate n 0)) 22)):=by
 obtain⟨i0,hi,hz0,hz1,hz2⟩:=info_parts Vl_
 have:=run_make (P:=Tryz.prog) w 24 22 i0 (.int .u64 0) underlying24 hi hz0 .i64 .i64 n n (by omega) (by omega) (by rw[hz2];omega) (by omega)
 rw[this,hz1];simp only[Int.toNat_natCast,Nat.mul_one,Value.cells,Qy_]
end
section
open Go.RowKit Go.Sort
structure SlR where
 (a:Option Addr) (n c:Nat)
def slF (x:SlR):List Value:=[.slice x.a x.n x.c]
def SlR.v (x:SlR):Value:=.slice x.a x.n x.c
theorem N1_ (x:SlR) :(slF x).length=1:=rfl
theorem fv_ (x:SlR):slF x=[x.v]:=rfl
theorem Z4_:OneF slF:=by intro x u hu;simp[slF] at hu;subst hu;rfl
theorem Pq_:Elt 127 24 (.slice none 0 0) 1 24:=⟨underlying127,by kernel_rfl,rfl,by decide⟩
theorem Ym_ (l:List SlR):cellsOf slF l=cellsOf valF (l.map SlR.v):=by
 induction l with
 | nil=>rfl
 | cons x l ih=>
  have h1:cellsOf slF (x::l)=x.v::cellsOf slF l:=rfl;have h2:cellsOf valF ((x::l).map SlR.v)=x.v::cellsOf valF (l.map SlR.v):=rfl;rw[h1,h2,ih]
structure ORows (w:World) (v:Value) (vs:List SlR) (rows:List (List Int)):Prop where
 own:Own slF 1 24 0 w v vs
 len:vs.length=rows.length
 all:∀(i:Nat) u row,vs[i]?=some u→rows[i]?=some row→Own wordF 1 22 0 w u.v row
 ne:∀u∈vs,Off (ownF u.v) (ownF v)
 apart:∀(i j:Nat) u u',vs[i]?=some u→vs[j]?=some u'→i≠j→Off (ownF u.v) (ownF u'.v)
def rowsF (v:Value) (vs:List SlR):Fp:=fun i=>ownF v i∨∃u∈vs,ownF u.v i
theorem ORows.row {w:World} {v:Value} {vs:List SlR} {rows:List (List Int)} (h:ORows w v vs rows) {u:SlR} (hu:u∈vs):∃row,Own wordF 1 22 0 w u.v row:=by
 obtain⟨i,hi,rfl⟩:=List.mem_iff_getElem.1 hu;have hi2:i<rows.length:=h.len▸hi;exact⟨_,h.all i _ rows[i] (gq_ hi) (gq_ hi2)⟩
theorem ORows.low {w:World} {v:Value} {vs:List SlR} {rows:List (List Int)} (h:ORows w v vs rows):Low w (rowsF v vs):=fun i hi=>by
 rcases hi with hi |⟨u,hu,hi⟩
 ·exact h.own.low i hi
 ·obtain⟨row,hr⟩:=h.row hu
  exact hr.low i hi
theorem ORows.keptS {w w':World} {v:Value} {vs:List SlR} {rows:List (List Int)} {S:Fp} (h:ORows w v vs rows) (k:GrownS S w w') (ho:Off (rowsF v vs) S):ORows w' v vs rows:=
 ⟨h.own.offS k (ho.left fun _ hi=>.inl hi),h.len,fun i u row hu hr=>(h.all i u row hu hr).offS k (ho.left fun _ hq=>.inr ⟨u,mo_ hu,hq⟩),h.ne,h.apart⟩
theorem ORows.rd {w:World} {v:Value} {vs:List SlR} {rows:List (List Int)} (h:ORows w v vs rows):Iv_ w v (vs.map SlR.v) rows:=by
 refine⟨?_,by rw[List.length_map];exact h.len,fun i u row hu hr=>?_⟩
 ·have:=h.own.rd
  unfold RdL at this ⊢;rw[←Ym_,List.length_map];exact this
 ·rw[List.getElem?_map] at hu
  cases hx:vs[i]? with
  | none=>rw[hx] at hu;simp at hu
  | some x=>
   rw[hx] at hu;simp only[Option.map_some,Option.some.injEq] at hu;subst hu;exact(h.all i x row hx hr).rd
theorem ORows.nil (w:World):ORows w (.slice none 0 0) [] []:=⟨Own.nil _ _ _ _ _,rfl,by simp,by simp,by simp⟩
theorem ORows.snoc {w w':World} {v v':Value} {vs:List SlR} {rows:List (List Int)} (h:ORows w v vs rows) (hg:w.grownBy w' v.ownBlock) {x:SlR} {row:List Int} (ho:Own slF 1 24 0 w' v' (vs++[x])) (hl:Lies v v' w.heap.size) (hx:Own wordF 1 22 w.heap.size w' x.v row) (hne:Off (ownF x.v) (ownF v')):ORows w' v' (vs++[x]) (rows++[row]):=by
 have hS:GrownS (ownF v) w w':=GrownS.of hg fun q e=>e
 have hlow:=h.low;refine⟨ho,by simp[h.len],fun i u r hu hr=>?_,fun u hu q hq hq'=>?_,fun i j u u' hu hu' hij q hq hq'=>?_⟩
 ·rw[List.getElem?_append] at hu hr
  by_cases hi:i<vs.length
  ·rw[if_pos hi] at hu
   rw[if_pos (h.len▸hi)] at hr;exact(h.all i u r hu hr).offS hS (h.ne u (mo_ hu))
  ·rw[if_neg hi] at hu
   rw[if_neg (h.len▸hi)] at hr;rw[List.getElem?_singleton] at hu hr
   split at hu
   ·rename_i h0
    rw[if_pos (by have:=h.len;omega)] at hr;cases hu;cases hr;exact hx.zero
   ·cases hu
 ·rcases ma_ hu with hu|hu
  ·have h1:=hlow q (.inr ⟨u,hu,hq⟩)
   rcases lies_new hl q hq' with h2|h2
   ·exact h.ne u hu q hq h2
   ·omega
  ·rw[ms_ hu] at hq
   exact hne q hq hq'
 ·have key:∀(i:Nat) u,(vs++[x])[i]?=some u→(i<vs.length∧vs[i]?=some u)∨(i=vs.length∧u=x):=fun i u hu=>by
   rw[List.getElem?_append] at hu
   by_cases hi:i<vs.length
   ·rw[if_pos hi] at hu;exact .inl ⟨hi,hu⟩
   ·rw[if_neg hi,List.getElem?_singleton] at hu
    split at hu
    ·cases hu;exact .inr ⟨by omega,rfl⟩
    ·cases hu
  rcases key i u hu with⟨h1,h2⟩ |⟨h1,rfl⟩ <;> rcases key j u' hu' with⟨h3,h4⟩ |⟨h3,rfl⟩
  ·exact h.apart i j u u' h2 h4 hij q hq hq'
  ·have:=hlow q (.inr ⟨u,mo_ h2,hq⟩)
   have:=(hx.lt q hq').1;omega
  ·have:=hlow q (.inr ⟨u',mo_ h4,hq'⟩)
   have:=(hx.lt q hq).1;omega
  ·omega
structure RSk (w:World) (g:Nat) (v:Value) (vs:List SlR) (vt:Value) (t:List Int) (seed:Int) (rows:List (List Int)) (sum:Int):Prop where
 blk:Blk w g #[v,vt,.int .u64 seed,.int .u64 sum]
 rows:ORows w v vs rows
 tab:Own wordF 1 22 0 w vt t
 ne:¬rowsF v vs g∧¬ownF vt g
 off:Off (ownF vt) (rowsF v vs)
def rskF (g:Nat) (v:Value) (vs:List SlR) (vt:Value):Fp:=fun i=>i=g∨rowsF v vs i∨ownF vt i
theorem RSk.low {w:World} {g:Nat} {v:Value} {vs:List SlR} {vt:Value} {t:List Int} {seed:Int} {rows:List (List Int)} {sum:Int} (h:RSk w g v vs vt t seed rows sum):Low w (rskF g v vs vt):=fun i hi=>by
 rcases hi with rfl|hi|hi
 ·exact h.blk.lt
 ·exact h.rows.low i hi
 ·exact h.tab.low i hi
theorem RSk.keptS {w w':World} {g:Nat} {v:Value} {vs:List SlR} {vt:Value} {t:List Int} {seed:Int} {rows:List (List Int)} {sum:Int} {S:Fp} (h:RSk w g v vs vt t seed rows sum) (k:GrownS S w w') (ho:Off (rskF g v vs vt) S):RSk w' g v vs vt t seed rows sum:=
 ⟨h.blk.keptS k (ho g (.inl rfl)),h.rows.keptS k (ho.left fun _ hi=>.inr (.inl hi)),h.tab.offS k (ho.left fun _ hi=>.inr (.inr hi)),h.ne,h.off⟩
theorem RSk.same {w w':World} {g:Nat} {v:Value} {vs:List SlR} {vt:Value} {t:List Int} {seed:Int} {rows:List (List Int)} {sum:Int} (h:RSk w g v vs vt t seed rows sum) (k:w.grownBy w' none):RSk w' g v vs vt t seed rows sum:=h.keptS (GrownS.none_ (S:=fun _=>False) k) fun _ _=>id
theorem Z7_:Elt 24 22 (.int .u64 0) 1 8:=⟨underlying24,by kernel_rfl,rfl,by decide⟩
theorem ap_:OneF wordF:=by intro x u hu;simp[wordF] at hu;subst hu;rfl
theorem Wb_ (w:World) (n:Nat) (hn:n≤1000000):Own wordF 1 22 w.heap.size (w.alloc (.cells (B3_ (List.replicate n 0)) 22)) (.slice (some ⟨w.heap.size,0,none⟩) n n) (List.replicate n 0):=by
 have hl :(B3_ (List.replicate n 0)).size=n:=by simp[B3_]
 refine⟨by rw[At_ _ 1 A9_],.inr ⟨w.heap.size,n,_,by rw[List.length_replicate],le_ _,heap_alloc_new w _,by simp,by unfold maxLen;omega,by rw[hl];omega,?_⟩⟩;rw[Ix_]
 simp[B3_]
theorem Qn_ (k n:Nat):List.replicate (k+1) (List.replicate n (0:Int))=List.replicate k (List.replicate n 0)++[List.replicate n 0]:=List.replicate_succ'
theorem cm_ (d n:Int) (tv:Value) (t:List Int) (seed:Int) (w:World) (hd:1≤d∧d≤4) (hn:1≤n∧n≤256) (ht:RdL wordF 1 w tv t) (htl:t.length=16) :
  Calls Tryz.prog 155 #[.int .i64 d,.int .i64 n,tv,.int .u64 seed] w (fun e w'=>∃g v vs vt,e=.returned (.tuple #[.pointer (some ⟨g,0,none⟩),.int .i64 0])∧RSk w' g v vs vt t seed (rows0 d.toNat n.toNat) 0∧(∀i,rskF g v vs vt i→w.heap.size≤i)∧w.grownBy w' none):=by
 obtain⟨d1,d2⟩:=hd;obtain⟨n1,n2⟩:=hn;obtain⟨ta,tc,htv⟩:=ht.shape;subst htv;rw[htl] at ht ⊢;have HT:=hh_ ht;have Htl:=hh_ htl
 have HC:=hh_ fun y=>Gn_ ta tc y
 obtain⟨N,hN⟩:∃N:Nat,n=N:=⟨n.toNat,by omega⟩;subst hN;obtain⟨D,hD⟩:∃D:Nat,d=D:=⟨d.toNat,by omega⟩;subst hD;have hmk:=Qe_ N (by omega)
 have HOW:=hh_ fun y=>Wb_ y N (by omega)
 have hb2:16*8≤140737488355328:=by omega
 have HR:=hh_ (show rows0 (D:Int).toNat (N:Int).toNat=List.replicate D (List.replicate N 0) by simp[rows0]);clear ht htl
 go_enter func155,ntmps155
 have hlit:Own wordF 1 22 w.heap.size (w.alloc (.cells #[] 22)) (.slice (some ⟨w.heap.size,0,none⟩) 0 0) []:=Aw_ wordF 1 (le_ _);have hlr:RdL wordF 1 (w.alloc (.cells #[] 22)) (.slice ta 16 tc) t:=HT.out.same (ga_ w _ none)
 have hl1:t.length*8≤140737488355328:=by rw[Htl.out];omega
 have hl2:t.length≤9223372036854775807:=by rw[Htl.out];omega
 have hl3:w.heap.size≤(w.alloc (.cells #[] 22)).heap.size:=by simp
 go_upto_region 7 with(first
  |(go_at_call 147;refine(HC.out _).mono ?_;rintro e w1 ⟨rfl,rfl⟩)
  |(at_builtin;refine A2_ Z7_ ap_ hlit hlr Htl.out.symm hl1 hl2 hl3 (by rfl) _ _ (by rfl) (by rfl) (by rfl) ?_;intro v2 w2 o2 g2 l2;(obtain⟨va,vc,hv2⟩:=o2.shape);rw[Htl.out] at hv2;subst hv2))
 have G2:=Aa_ (ga_ w _ none) g2
 have hvt:=hh_ fun i (hi:ownF (.slice va 16 vc) i)=>o2.lt i hi
 have B3:=Blk.new w2 #[.slice none 0 0,.slice va 16 vc,.int .u64 seed,.int .u64 0] 211;have o3:=(o2.same (ga_ w2 (.cells #[.slice none 0 0,.slice va 16 vc,.int .u64 seed,.int .u64 0] 211) none)).zero;have G3:=Ad_ G2 (.cells #[.slice none 0 0,.slice va 16 vc,.int .u64 seed,.int .u64 0] 211)
 have hz3:w2.heap.size+1≤(w2.alloc (.cells #[.slice none 0 0,.slice va 16 vc,.int .u64 seed,.int .u64 0] 211)).heap.size:=by simp
 have hwg:=G2.size;clear o2 g2 l2 hlit hlr G2 HC HT;generalize w2.alloc _=w3 at *;generalize w2.heap.size=g at *
 go_upto_region 8 with fail
 go_loopw [12] (fun s12 wk=>∃(k:Nat) (v:Value) (vs:List SlR),k≤D∧s12=.int .i64 k∧Blk wk g #[v,.slice va 16 vc,.int .u64 seed,.int .u64 0]∧ORows wk v vs (List.replicate k (List.replicate N 0))∧(∀i,rowsF v vs i→g<i)∧Own wordF 1 22 0 wk (.slice va 16 vc) t∧w.grownBy wk none∧g<wk.heap.size) (fun s12 _=>D-(RowKit.intOf s12).toNat)
 case atStart=>exact⟨0,_,[],zl_ _,rfl,B3,ORows.nil _,fun i hi=>by rcases hi with hi |⟨u,hu,_⟩;exact absurd hi (Ay_ i);simp at hu,o3,G3,hz3⟩
 case round=>
  obtain⟨k,v,vs,hk,rfl,B,R,hF,hT,hg,hgz⟩:=hrel;clear B3 o3 G3 hz3
  by_cases hkD:k<D
  ·have hkd :(k:Int)<(D:Int):=by omega
   obtain⟨oa,oc,rfl⟩:=R.own.shape
   have hvl:vs.length=k:=by have:=R.len;simpa using this
   have hb1 :(vs.length+[(⟨some ⟨wr.heap.size,0,none⟩,N,N⟩:SlR)].length)*24≤140737488355328:=by simp;omega
   have hb3:vs.length+[(⟨some ⟨wr.heap.size,0,none⟩,N,N⟩:SlR)].length≤9223372036854775807:=by simp;omega
   have HR1:=hh_ R;have O6:=HOW.out wr.drew;obtain⟨A6,hA6⟩:∃A6:Obj,A6=.cells (B3_ (List.replicate N 0)) 22:=⟨_,rfl⟩;rw[←hA6] at hmk O6;have k5:wr.grownBy wr.drew none:=Am_ (Ab_ wr none);have K6:=ga_ wr.drew A6 none;have K7:=ga_ (wr.drew.alloc A6) (.cells #[.slice (some ⟨wr.heap.size,0,none⟩) N N] 24) none;have K57:=Aa_ (Aa_ k5 K6) K7;have O7:=R.own.same K57
   have hr7:RdL slF 1 ((wr.drew.alloc A6).alloc (.cells #[.slice (some ⟨wr.heap.size,0,none⟩) N N] 24)) (.slice (some ⟨wr.heap.size+1,0,none⟩) 1 1) [⟨some ⟨wr.heap.size,0,none⟩,N,N⟩]:=by
    have:=Hn_ (size:=1) N1_ (wr.drew.alloc A6) ⟨some ⟨wr.heap.size,0,none⟩,N,N⟩ #[.slice (some ⟨wr.heap.size,0,none⟩) N N] 24 rfl
    simpa using this
   have B7:=B.same K57;have hZ6:=O6.same K7;have b6:=(B.same k5).cell;have b61:=((B.same (ga_ wr A6 none)).drew1).cell;have b62:=(((B.same (ga_ wr A6 none)).same (ga_ (wr.alloc A6) (.cells #[.slice (some ⟨wr.heap.size,0,none⟩) N N] 24) none)).drew1).cell;have HK57:=hh_ K57;clear hvl O6 K6 K7 hA6
   go_upto_region 9 with fail
   go_region_law ((first
    |(refine Ge_ (l:=vs) Pq_ Z4_ O7 hr7 rfl hb1 hb3 (zl_ _) (by rfl) _ _ (by rfl) (by rfl) (by rfl) ?_;intro v8 w8 o8 g8 l8;have B8:=B7.kept g8 (fun e=>by have:=hF g (.inl e);omega);have b8:=B8.cell;have f8:=B8.free;(obtain⟨va8,vc8,hv8⟩:=o8.shape);rw[la_,ls_] at hv8;subst hv8)))
   all_goals
    have Gw:wr.grownBy w8 (Value.slice oa vs.length oc).ownBlock:=Aa_ (Fi_ HK57.out) g8
    have hz7:wr.heap.size+2≤((wr.drew.alloc A6).alloc (.cells #[.slice (some ⟨wr.heap.size,0,none⟩) N N] 24)).heap.size:=by rw[World.size_alloc,World.size_alloc];exact le_ _
    have hq6:∀q,(Value.slice (some ⟨wr.heap.size,0,none⟩) N N).ownBlock=some q→q=wr.heap.size:=fun q hq=>by simpa [Value.ownBlock] using hq.symm
    have hvlo:=fun q hq=>(HR1.out.own.lt q hq).2
    have hx8:=(hZ6.base (B':=wr.heap.size) (fun q hq=>Nat.le_of_eq (hq6 q hq).symm)).kept g8 (fun q hq e=>by have h1:=hvlo q e;have h2:=hq6 q hq;omega)
    have hl8:Lies (.slice oa vs.length oc) (.slice va8 (vs.length+1) vc8) wr.heap.size:=l8.imp id fun⟨q,h1,h2⟩=>⟨q,h1,lt_ (show wr.heap.size≤((wr.drew.alloc A6).alloc (.cells #[.slice (some ⟨wr.heap.size,0,none⟩) N N] 24)).heap.size by omega) h2⟩
    have hne8:Off (ownF (SlR.v ⟨some ⟨wr.heap.size,0,none⟩,N,N⟩)) (ownF (.slice va8 (vs.length+1) vc8)):=fun q hq hq'=>by
     have hq2:q=wr.heap.size:=by simpa [ownF,SlR.v,Value.ownBlock] using hq.symm
     rcases l8 with l8 |⟨y,h1,h2⟩
     ·have:=hvlo q (l8.symm.trans hq');omega
     ·rw[show Value.ownBlock _=some q from hq'] at h1
      cases h1;omega
    have R8:=HR1.out.snoc Gw o8 hl8 (x:=⟨some ⟨wr.heap.size,0,none⟩,N,N⟩) hx8 hne8;have T8:=(hT.same HK57.out).kept g8 (fun q hq e=>by have h1:=(hvt.out q hq).2;have h2:=hF q (.inl e);omega)
    have hF8:∀i,rowsF (.slice va8 (vs.length+1) vc8) (vs++[⟨some ⟨wr.heap.size,0,none⟩,N,N⟩]) i→g<i:=fun i hi=>by
     rcases hi with hi |⟨u,hu,hi⟩
     ·rcases lies_new hl8 i hi with h1|h1
      ·exact hF i (.inl h1)
      ·omega
     ·rcases ma_ hu with hu|hu
      ·exact hF i (.inr ⟨u,hu,hi⟩)
      ·rw[ms_ hu] at hi
       have hq2:i=wr.heap.size:=by simpa [ownF,SlR.v,Value.ownBlock] using hi.symm
       omega
    have hg9:w8.grownBy (w8.setCell ⟨g,0,none⟩ (.slice va8 (vs.length+1) vc8)) (some g):=Ac_ (Ab_ _ _) _ _;have B9:=B8.set_ 0 (.slice va8 (vs.length+1) vc8) (cs':=#[.slice va8 (vs.length+1) vc8,.slice va 16 vc,.int .u64 seed,.int .u64 0]) rfl
    have R9:=R8.keptS (GrownS.of (S:=oneF g) hg9 fun q e=>by cases e;exact rfl) fun i hi hig=>by have:=hF8 i hi;have:i=g:=hig;omega
    have T9:=T8.kept hg9 (fun q hq e=>by cases e;have:=(hvt.out g hq).2;omega)
    have hgw:w.grownBy w8 none:=by
     cases hv :(Value.slice oa vs.length oc).ownBlock with
     | none=>rw[hv] at Gw;exact Aa_ hg Gw
     | some q=>rw[hv] at Gw;exact Af_ hg Gw (by have:=hF q (.inl hv);omega)
    have hsz8:=Gw.size;have hF9:=hh_ (And.intro B9 (And.intro R9 (And.intro T9 (And.intro hF8 (And.intro (Af_ hgw hg9 (by omega)) (show g<(w8.setCell ⟨g,0,none⟩ (.slice va8 (vs.length+1) vc8)).heap.size from ll_ (by omega) hg9.size))))));clear B9 R9 T9 hF8 hgw hg9 R8 T8 hne8 hx8 hl8 Gw hr7 O7 B7 B8 b8 f8 b6 b61 b62 hZ6;generalize w8.setCell ⟨g,0,none⟩ (.slice va8 (vs.length+1) vc8)=w9 at *;have HRK:=hh_ (Qn_ k N)
    go_wp2_with fail
    exact⟨⟨k+1,_,_,by omega,by go_num,hF9.out.1,by rw[HRK.out];exact hF9.out.2.1,hF9.out.2.2.2.1,hF9.out.2.2.1,hF9.out.2.2.2.2.1,hF9.out.2.2.2.2.2⟩,by simp[RowKit.intOf];omega⟩
  ·obtain rfl:k=D:=by omega
   go_wp2_with fail
   go_ret2
   refine⟨g,v,vs,_,rfl,⟨B,by rw[HR.out];exact R,hT,⟨fun h=>by have:=hF g h;omega,fun h=>by have:=(hvt.out g h).2;omega⟩,fun i hi hi'=>by have h1:=(hvt.out i hi).2;have h2:=hF i hi';omega⟩,fun i hi=>?_,hg⟩
   rcases hi with rfl|hi|hi
   ·exact hwg
   ·have:=hF i hi;omega
   ·exact(hvt.out i hi).1
theorem ORows.put {w:World} {v:Value} {vs:List SlR} {rows:List (List Int)} (h:ORows w v vs rows) {j:Nat} {u:SlR} {row:List Int} (hu:vs[j]?=some u) (hr:rows[j]?=some row) {i:Nat} (hi:i<row.length) (x:Int) :
  ∃gb cap,u.v=.slice (some ⟨gb,0,none⟩) row.length cap∧ORows (w.setCell ⟨gb,i,none⟩ (.int .u64 x)) v vs (rows.set j (row.set i x))∧w.grownBy (w.setCell ⟨gb,i,none⟩ (.int .u64 x)) (some gb)∧ownF u.v gb:=by
 have ho:=h.all j u row hu hr;obtain⟨gb,cap,hv,_,_,_,_,_⟩:=ho.at_ A9_ hi;rw[hv] at ho;obtain⟨o1,g1⟩:=ho.stored A9_ hi (j:=0) (by omega) (.int .u64 x) x rfl;rw[Nat.mul_one,Nat.add_zero] at o1 g1
 have hub:ownF u.v gb:=by rw[hv];rfl
 have hS:GrownS (oneF gb) w (w.setCell ⟨gb,i,none⟩ (.int .u64 x)):=GrownS.of g1 fun q e=>by cases e;exact rfl
 refine⟨gb,cap,hv,⟨h.own.offS hS fun q hq e=>?_,by simp[h.len],fun i' u' r hu' hr'=>?_,h.ne,h.apart⟩,g1,hub⟩
 ·have:q=gb:=e
  subst this;exact h.ne u (mo_ hu) q hub hq
 ·by_cases hij:j=i'
  ·subst hij
   rw[hu] at hu';cases hu';rw[List.getElem?_set_self (gs_ hr).1] at hr';cases hr';rw[hv];exact o1
  ·rw[List.getElem?_set_ne hij] at hr'
   refine(h.all i' u' r hu' hr').offS hS fun q hq e=>?_
   have:q=gb:=e
   subst this;exact h.apart j i' u u' hu hu' hij q hub hq
def addTo (t:List Int) (s:Int) (k:ByteArray) (n:Int) (rows:List (List Int)) (j:Nat):List (List Int):=rows.mapIdx fun i row=>if i<j then putRow row (slotR t s k i row) n else row
theorem Rd_ (t:List Int) (s:Int) (k:ByteArray) (n:Int) (rows:List (List Int)):addTo t s k n rows 0=rows:=by
 unfold addTo
 refine List.ext_getElem? fun i=>?_
 rw[List.getElem?_mapIdx];cases rows[i]? <;> simp
theorem Uc_ (t:List Int) (s:Int) (k:ByteArray) (n:Int) (rows:List (List Int)):addTo t s k n rows rows.length=Bp_ t s k n rows:=by
 unfold addTo Bp_
 refine List.ext_getElem? fun i=>?_
 rw[List.getElem?_mapIdx,List.getElem?_mapIdx]
 cases hi:rows[i]? with
 | none=>rfl
 | some r=>
  have:=(gs_ hi).1
  simp[this]
theorem W9_ {t:List Int} {s:Int} {k:ByteArray} {n:Int} {rows:List (List Int)} {j:Nat} {row:List Int} (h:rows[j]?=some row) :(addTo t s k n rows j)[j]?=some row:=by
 unfold addTo;rw[List.getElem?_mapIdx,h];simp
theorem Qz_ {t:List Int} {s:Int} {k:ByteArray} {n:Int} {rows:List (List Int)} {j:Nat} {row:List Int} (h:rows[j]?=some row):addTo t s k n rows (j+1) =(addTo t s k n rows j).set j (putRow row (slotR t s k j row) n):=by
 have hl:=(gs_ h).1
 refine List.ext_getElem? fun i=>?_
 by_cases hij:j=i
 ·subst hij
  rw[List.getElem?_set_self (by unfold addTo;simpa using hl)];unfold addTo;rw[List.getElem?_mapIdx,h];simp
 ·rw[List.getElem?_set_ne hij]
  unfold addTo;rw[List.getElem?_mapIdx,List.getElem?_mapIdx]
  cases rows[i]? with
  | none=>rfl
  | some r=>
   simp only[Option.map_some,Option.some.injEq]
   by_cases h1:i<j
   ·rw[if_pos h1,if_pos (by omega)]
   ·rw[if_neg h1,if_neg (by omega)]
theorem c3_ (g:Nat) (v:Value) (vs:List SlR) (vt:Value) (t:List Int) (seed:Int) (rows:List (List Int)) (sum:Int) (k:ByteArray) (w:World) (h:RSk w g v vs vt t seed rows sum) (ho:RowsOk rows) (hn:0<rows.length) (hn2:rows.length≤1000) (htl:t.length=16) (hs:W64 seed) (hk:k.size≤9223372036854775807) :
  Calls Tryz.prog 180 #[.pointer (some ⟨g,0,none⟩),.string k] w (RetWord (estF t seed k rows) w):=by
 have HE:=hh_ fun y (q:w.grownBy y none)=>ab_ v (vs.map SlR.v) rows vt t seed k y (h.same q).rows.rd ho hn hn2 (h.same q).tab.rd htl hs hk
 have HB:=hh_ fun y (q:w.grownBy y none)=>(h.same q).blk.cell
 have b0:=h.blk.cell;obtain⟨a,c,hv⟩:=h.rows.own.shape;obtain⟨ta,tc,hv2⟩:=h.tab.shape;rw[htl] at hv2;subst hv hv2;clear h ho hs
 go_enter func180,ntmps180
 go_upto_region 1 with fail
 have k4:w.grownBy w.drew none:=Am_ (Ab_ w none)
 (refine rn_ 15 (fun i _ w v w'=>match i with | 13=>v=.int .u64 (estF t seed k rows)∧World.grownBy w w' none | _=>False) ?_;simp only[ts_])
 generalize w.drew=wq at *
 (refine tq_ 3 ?_;(repeat(go_big_quiet_step (fail)));refine wn_ ?_)
 (refine to_ ?_;intro y3 my3 dy3)
 clear dy3;have ax:=HB.out y3 (Aa_ k4 my3)
 go_wp2_with fail
 refine⟨Ab_ _ _,?_⟩;clear ax my3
 (refine tq_ 3 ?_;(repeat(go_big_quiet_step (fail)));refine wn_ ?_)
 (refine to_ ?_;intro y7 my7 dy7)
 clear dy7;have ax:=HB.out y7 (Aa_ k4 my7)
 go_wp2_with fail
 refine⟨Ab_ _ _,?_⟩;clear ax my7
 (refine tq_ 3 ?_;(repeat(go_big_quiet_step (fail)));refine wn_ ?_)
 (refine to_ ?_;intro y11 my11 dy11)
 clear dy11;have ax:=HB.out y11 (Aa_ k4 my11)
 go_wp2_with fail
 refine⟨Ab_ _ _,?_⟩;clear ax my11
 (refine tq_ 1 ?_;(repeat(go_big_quiet_step (fail)));refine wn_ ?_)
 (refine tc_ ?_;intro y13 my13 dy13;refine⟨?_,?_⟩;· (unfold Rg.callSpec;go_simp;(refine(HE.out y13 (Aa_ k4 my13)).mono ?_;rintro e w' ⟨rfl,g'⟩;exact⟨_,rfl,rfl,g'⟩)))
 clear dy13;rintro v6 e6 ⟨rfl,g6⟩;refine⟨g6,?_⟩;simp only[pt_];clear g6 my13
 (refine tq_ 1 ?_;(repeat(go_big_quiet_step (fail)));refine wn_ ?_)
 (refine Rg.tree_nil ?_;intro z mz dz cz)
 go_wp2_with fail
 go_ret
 exact Bs_ rfl (Aa_ k4 mz)
theorem bp_ {a b:Int} (h1:0≤a∧a≤18446744073709551615) (h2:0≤b∧b≤18446744073709551615):0≤max a b∧max a b≤18446744073709551615:=by omega
theorem Nc_ (g:Nat) (v:Value) (vs:List SlR) (vt:Value) (t:List Int) (seed d n:Int) (rows:List (List Int)) (sum:Int) (k:ByteArray) (x:Int) (w:World) (h:RSk w g v vs vt t seed rows sum) (hG:Grid d n sum rows) (hd:1≤d∧d≤4) (hn:1≤n∧n≤256) (htl:t.length=16) (hs:W64 seed) (hk:0<k.size∧k.size≤255) (hx:1≤x) (h0:0≤sum) (hsx:sum+x≤mostW) :
  Calls Tryz.prog 156 #[.pointer (some ⟨g,0,none⟩),.string k,.int .u64 x] w (fun e w'=>e=.returned (.int .i64 0)∧RSk w' g v vs vt t seed (Bp_ t seed k (estF t seed k rows+x) rows) (sum+x)∧GrownS (rskF g v vs vt) w w'):=by
 have H:=hh_ h;have hmw:mostW=9223372036854775808:=rfl;have hok:=hG.rowsOk hn (show sum≤mostW by omega);have hdl:=hG.depth;have hest:=Vu_ (t:=t) (s:=seed) (k:=k) hG h0 hd.1
 have HE:=hh_ fun y (q:RSk y g v vs vt t seed rows (sum+x))=>c3_ g v vs vt t seed rows (sum+x) k y q hok (by omega) (by omega) htl hs (by omega)
 have HF:=hh_ fun y=>Dd_ sum x y ⟨by omega,by omega⟩ ⟨by omega,by omega⟩
 rw[show fitsB sum x=true from dt_ (by omega)] at HF;have hk2:=Bc_ k;rw[df_ (show ¬k.size=0 by omega)] at hk2;have h02 :(x==0)=false:=bf_ (by omega);have hwr:IntKind.u64.wrap (sum+x)=sum+x:=IntWalk.u64_in _ (by omega);have HG:=hh_ hG;have HA:=hh_ (Uc_ t seed k (estF t seed k rows+x) rows)
 have HS1:=hh_ fun j row (hr:rows[j]?=some row)=>Qz_ (t:=t) (s:=seed) (k:=k) (n:=estF t seed k rows+x) hr
 have HS2:=hh_ fun j row (hr:rows[j]?=some row)=>W9_ (t:=t) (s:=seed) (k:=k) (n:=estF t seed k rows+x) hr
 have HS0:=hh_ (Rd_ t seed k (estF t seed k rows+x) rows);have HSl:=hh_ (Sl_ hG hn.1 t seed k);have hvl:vs.length=rows.length:=h.rows.len;have b0:=h.blk.cell;have f0:=h.blk.free;obtain⟨a,c,hv⟩:=h.rows.own.shape;obtain⟨ta,tc,hv2⟩:=h.tab.shape;rw[htl] at hv2;subst hv hv2;have hwr2:IntKind.u64.wrap (estF t seed k rows+x)=estF t seed k rows+x:=IntWalk.u64_in _ (by omega)
 have hb2:0≤estF t seed k rows+x∧estF t seed k rows+x≤18446744073709551615:=by omega
 generalize estF t seed k rows=E at *;clear h hok
 go_enter func156,ntmps156
 go_upto_region 8 with(go_at_call 118;refine(HF.out _).mono ?_;rintro e w1 ⟨rfl,rfl⟩)
 have g1:w.grownBy (w.setCell ⟨g,3,none⟩ (.int .u64 (sum+x))) (some g):=Ac_ (Ab_ _ _) _ _
 have S1:GrownS (oneF g) w (w.setCell ⟨g,3,none⟩ (.int .u64 (sum+x))):=GrownS.of g1 fun q e=>by cases e;exact rfl
 have B1:=H.out.blk.set_ 3 (.int .u64 (sum+x)) (cs':=#[.slice a vs.length c,.slice ta 16 tc,.int .u64 seed,.int .u64 (sum+x)]) rfl
 have R1:=H.out.rows.keptS S1 fun i hi e=>by
  have:i=g:=e
  subst this;exact H.out.ne.1 hi
 have T1:=H.out.tab.offS S1 fun i hi e=>by
  have:i=g:=e
  subst this;exact H.out.ne.2 hi
 have K1:RSk (w.setCell ⟨g,3,none⟩ (.int .u64 (sum+x))) g (.slice a vs.length c) vs (.slice ta 16 tc) t seed rows (sum+x):=⟨B1,R1,T1,H.out.ne,H.out.off⟩;have HM1:=hh_ (S1.mono (T:=rskF g (.slice a vs.length c) vs (.slice ta 16 tc)) fun i hi _=>.inl hi);clear b0 f0 hwr HF g1 S1 B1 R1 T1;generalize w.setCell ⟨g,3,none⟩ (.int .u64 (sum+x))=w1 at *;have HK1:=hh_ K1;clear K1
 go_upto_region 9 with(go_at_call 180;refine(HE.out _ HK1.out).mono ?_;rintro e w2 ⟨rfl,g2⟩)
 have HK2:=hh_ (HK1.out.same g2);have HM2:=hh_ (HM1.out.trans (GrownS.none_ (S:=fun _=>False) g2) fun i hi _=>hi.elim);have b2:=HK2.out.blk.cell;clear HK1 HM1 g2 H HE
 go_upto_region 10 with fail
 clear b2
 go_loopw [40] (fun s40 wk=>∃j:Nat,j≤rows.length∧s40=.int .i64 j∧RSk wk g (.slice a vs.length c) vs (.slice ta 16 tc) t seed (addTo t seed k (E+x) rows j) (sum+x)∧GrownS (rskF g (.slice a vs.length c) vs (.slice ta 16 tc)) w2 wk) (fun s40 _=>rows.length-(RowKit.intOf s40).toNat)
 case atStart=>exact⟨0,zl_ _,rfl,by rw[HS0.out];exact HK2.out,GrownS.refl _ _⟩
 case round=>
  obtain⟨j,hj,rfl,hK,hM⟩:=hrel
  by_cases hjl:j<rows.length
  ·have hr:=gq_ hjl
   have h1:=HS1.out j _ hr;have h2:=HS2.out j _ hr;have h3:=HSl.out j _ hr;have hw:=HG.out.width _ (mg_ hjl);have hnum:=HG.out.num _ (mg_ hjl);have hslot:=hh_ (show slotR t seed k j rows[j] =(slotF (hashF t (seedF seed j) k) rows[j].length).toNat from rfl)
   have hjv:j<vs.length:=by omega
   have hu:=gq_ hjv;obtain⟨gb,cap,hv,_⟩:=hK.rows.put hu h2 h3 0
   have HPUT:=hh_ fun y (R:RSk y g (.slice a vs.length c) vs (.slice ta 16 tc) t seed (addTo t seed k (E+x) rows j) (sum+x))=>R.rows.put hu h2 h3 (max (rows[j].getD (slotR t seed k j rows[j]) 0) (E+x))
   have hca:=(hK.rows.all j _ _ hu h2).rd.one Ca_ h3;obtain⟨gv,offv,capv,hvv,hgv,cv⟩:=hK.rows.own.rd.one fv_ hjv;cases hvv;obtain⟨gw,offw,capw,hww,hgw,cw⟩:=hca
   have hwl:0<rows[j].length:=by omega
   have hwl2:rows[j].length≤256:=by omega
   have hgd:rows[j].getD (slotR t seed k j rows[j]) 0=rows[j][slotR t seed k j rows[j]]:=by rw[List.getD_eq_getElem?_getD,gq_ h3];rfl
   have hmem:=hnum _ (mg_ h3);rw[←hgd] at cw hmem;have hmb:=bp_ (a:=rows[j].getD (slotR t seed k j rows[j]) 0) (b:=E+x) ⟨by omega,by omega⟩ hb2;have Hput:=hh_ (show putRow rows[j] (slotR t seed k j rows[j]) (E+x)=rows[j].set (slotR t seed k j rows[j]) (max (rows[j].getD (slotR t seed k j rows[j]) 0) (E+x)) from rfl);have hhash:=Kg_ t (seedF seed j) k
   have HRow:=hh_ fun y (R:RSk y g (.slice (some ⟨gv,offv,none⟩) vs.length c) vs (.slice ta 16 tc) t seed (addTo t seed k (E+x) rows j) (sum+x))=>Zy_ (.slice ta 16 tc) t seed j k y R.tab.rd htl hs (by omega) (by omega) (by omega)
   have HSlo:=hh_ fun y=>Nn_ (hashF t (seedF seed j) k) rows[j].length y hhash (by omega) (by omega)
   have hslotb:=Gb_ (hashF t (seedF seed j) k) rows[j].length (by omega);have hsl:=hslot.out;generalize rows[j].getD (slotR t seed k j rows[j]) 0=cj at *;generalize slotR t seed k j rows[j]=sj at *;generalize rows[j]=rj at *;generalize hashF t (seedF seed j) k=hh at *
   have hsj:slotF hh rj.length =(sj:Int):=by omega
   rw[hsj] at HSlo hslotb;generalize vs[j]=u at *;rw[hww] at hv cv;obtain⟨e1,_,e2⟩:=Value.slice.inj hv;cases e1;subst e2;simp only[Nat.zero_add] at cw;have HK:=hh_ hK;have HU:=hh_ (show ownF u.v gb by rw[hww];rfl);have HV:=hh_ hww;have HUm:=hh_ (mo_ hu);have HM:=hh_ hM;have H1:=hh_ h1;have b3:=hK.blk.cell;have f3:=(hK.rows.all j _ _ hu h2);rw[hww] at f3;obtain⟨_,_,e3,_,_,_,_,hfz⟩:=f3.at_ A9_ h3;cases e3;have hfz1:=hh_ (hfz sj)
   have hjr :(j:Int)<(rows.length:Int):=by omega
   have hjr0 :(0:Int)≤(j:Int):=by omega
   clear hK hM h1 h2 hr hu hw hnum hgd hslot hsl hhash hmem hsj hfz
   go_upto_region 12 with fail
   have k4:wr.grownBy wr.drew none:=Am_ (Ab_ wr none)
   (refine rn_ 15 (fun i _ w v w'=>match i with | 10=>v=.int .u64 hh∧World.grownBy w w' none | 13=>v=.int .i64 sj∧World.grownBy w w' none | _=>False) ?_;simp only[ts_])
   have HK4:=hh_ (HK.out.same k4);generalize wr.drew=wq at *
   (refine tq_ 3 ?_;(repeat(go_big_quiet_step (fail)));refine wn_ ?_)
   (refine to_ ?_;intro y3 my3 dy3)
   clear dy3;have ax:=(HK4.out.same my3).blk.cell
   go_wp2_with fail
   refine⟨Ab_ _ _,?_⟩;clear ax my3
   (refine tq_ 3 ?_;(repeat(go_big_quiet_step (fail)));refine wn_ ?_)
   (refine to_ ?_;intro y7 my7 dy7)
   clear dy7;have ax:=(HK4.out.same my7).blk.cell
   go_wp2_with fail
   refine⟨Ab_ _ _,?_⟩;clear ax my7
   (refine tq_ 2 ?_;(repeat(go_big_quiet_step (fail)));refine wn_ ?_)
   (refine tc_ ?_;intro y10 my10 dy10;refine⟨?_,?_⟩;· (unfold Rg.callSpec;go_simp;(refine(HRow.out y10 (HK4.out.same my10)).mono ?_;rintro e w' ⟨rfl,g'⟩;exact⟨_,rfl,rfl,g'⟩)))
   clear dy10;rintro v6 e6 ⟨rfl,g6⟩;refine⟨g6,?_⟩;simp only[pt_];clear g6 my10
   (refine tq_ 2 ?_;(repeat(go_big_quiet_step (fail)));refine wn_ ?_)
   (refine tc_ ?_;intro y13 my13 dy13;refine⟨?_,?_⟩;· (unfold Rg.callSpec;go_simp;(refine(HSlo.out y13).mono ?_;rintro e w' ⟨rfl,rfl⟩;exact⟨_,rfl,rfl,Ab_ _ _⟩)))
   clear dy13;rintro v7 e7 ⟨rfl,g7⟩;refine⟨g7,?_⟩;simp only[pt_];clear g7 my13
   (refine tq_ 1 ?_;(repeat(go_big_quiet_step (fail)));refine wn_ ?_)
   (refine Rg.tree_nil ?_;intro z mz dz cz)
   have K5:=HK4.out.same mz;have hblk:=(Aa_ k4 mz).block gb hgw (by simp);have cz1:z.cell? ⟨gb,sj,none⟩=some (.int .u64 cj):=(World.cell?_of_block (a:=⟨gb,sj,none⟩) hblk).trans cw;have fz1:z.frozen? ⟨gb,sj,none⟩=false:=(World.frozen?_of_block (a:=⟨gb,sj,none⟩) hblk).trans hfz1.out;obtain⟨gb',cap',hv',R6,g6,hu6⟩:=HPUT.out z K5;rw[HV.out] at hv';cases hv'
   have hsj0 :(0:Int)≤(sj:Int):=by omega
   have hsj1 :(sj:Int)<(rj.length:Int):=by omega
   go_wp2_with fail
   have hS6:GrownS (oneF gb) z (z.setCell ⟨gb,sj,none⟩ (.int .u64 (max cj (E+x)))):=GrownS.of g6 fun q e=>by cases e;exact rfl
   have hgbF:rowsF (.slice (some ⟨gv,offv,none⟩) vs.length c) vs gb:=.inr ⟨u,HUm.out,HU.out⟩
   have hgne:g≠gb:=fun e=>by rw[e] at K5;exact K5.ne.1 hgbF
   refine⟨⟨j+1,by omega,by go_num,?_,?_⟩,by simp[RowKit.intOf];omega⟩
   ·rw[H1.out,Hput.out]
    exact⟨K5.blk.kept g6 (by simp;omega),R6,K5.tab.offS hS6 fun i hi e=>by rw[show i=gb from e] at hi;exact K5.off gb hi hgbF,K5.ne,K5.off⟩
   ·exact(HM.out.trans (GrownS.none_ (S:=fun _=>False) (Aa_ k4 mz)) fun i hi _=>hi.elim).trans hS6 fun i hi _=>.inr (.inl (by rw[show i=gb from hi];exact hgbF))
  ·obtain rfl:j=rows.length:=by omega
   rw[HA.out] at hK
   go_wp2_with fail
   go_ret
   exact⟨rfl,hK,HM2.out.trans hM fun i hi _=>hi⟩
end
section
open Go.RowKit Go.Sort
attribute [local go_sem ↓] Ag_
attribute [local go_sem] Ah_
structure RtG where
 (g gT:Nat) (vT:Value) (gS:Nat) (vS:Value) (gK:Nat) (vr:Value) (vs:List SlR) (vt:Value)
abbrev Ro_ (c:Cfg) (gT gS gK:Nat):Array Value:=#[.int .i64 c.Length,.int .i64 c.Lateness,.int .i64 c.Windows,.int .i64 c.Shards,.int .i64 c.Spread,.int .i64 c.Queue,.int .i64 c.Mode,.int .i64 c.Slots,.int .i64 c.Exact,.int .u64 c.Promote,.int .i64 c.Depth,.int .i64 c.Width,.int .i64 c.Top,.int .i64 c.Key,c.Classes,c.Table,.int .u64 c.Seed,.pointer (some ⟨gT,0,none⟩),.pointer (some ⟨gS,0,none⟩),.pointer (some ⟨gK,0,none⟩)]
def RtG.F (G:RtG):Fp:=fun i=>i=G.g∨rtF G.gT G.vT i∨rtF G.gS G.vS i∨rskF G.gK G.vr G.vs G.vt i
structure RTier (w:World) (G:RtG) (c:Cfg) (t:List Int) (X:As_):Prop where
 blk:Blk w G.g (Ro_ c G.gT G.gS G.gK)
 tab:RTab w G.gT G.vT X.T
 sto:RSto w G.gS G.vS c.Exact X.S
 sk:RSk w G.gK G.vr G.vs G.vt t c.Seed X.rows X.sum
 g1:¬rtF G.gT G.vT G.g
 g2:¬rtF G.gS G.vS G.g
 g3:¬rskF G.gK G.vr G.vs G.vt G.g
 o1:Off (rtF G.gT G.vT) (rtF G.gS G.vS)
 o2:Off (rtF G.gT G.vT) (rskF G.gK G.vr G.vs G.vt)
 o3:Off (rtF G.gS G.vS) (rskF G.gK G.vr G.vs G.vt)
theorem RTier.low {w:World} {G:RtG} {c:Cfg} {t:List Int} {X:As_} (h:RTier w G c t X):Low w G.F:=fun i hi=>by
 rcases hi with rfl|hi|hi|hi
 ·exact h.blk.lt
 ·exact h.tab.low i hi
 ·exact h.sto.low i hi
 ·exact h.sk.low i hi
theorem RTier.keptS {w w':World} {G:RtG} {c:Cfg} {t:List Int} {X:As_} {S:Fp} (h:RTier w G c t X) (k:GrownS S w w') (ho:Off G.F S):RTier w' G c t X:=
 ⟨h.blk.keptS k (ho G.g (.inl rfl)),h.tab.keptS k (ho.left fun _ hi=>.inr (.inl hi)),h.sto.keptS k (ho.left fun _ hi=>.inr (.inr (.inl hi))),h.sk.keptS k (ho.left fun _ hi=>.inr (.inr (.inr hi))),h.g1,h.g2,h.g3,h.o1,h.o2,h.o3⟩
theorem RTier.same {w w':World} {G:RtG} {c:Cfg} {t:List Int} {X:As_} (h:RTier w G c t X) (k:w.grownBy w' none):RTier w' G c t X:=h.keptS (GrownS.none_ (S:=fun _=>False) k) fun _ _=>id
theorem RTier.setTab {w w':World} {G:RtG} {c:Cfg} {t:List Int} {X:As_} (h:RTier w G c t X) {v':Value} {T':TabM} (hT:RTab w' G.gT v' T') (m:Mov (rtF G.gT G.vT) (rtF G.gT v') w w'):RTier w' { G with vT:=v' } c t { X with T:=T' }∧Mov G.F { G with vT:=v' }.F w w':=by
 have hg:GrownS (rtF G.gT G.vT) w w':=m.grown;refine⟨⟨h.blk.keptS hg h.g1,hT,h.sto.keptS hg h.o1.symm,h.sk.keptS hg h.o2.symm,?_,h.g2,h.g3,?_,?_,h.o3⟩,m.wide (fun i hi=>.inr (.inl hi)) fun i hi=>?_⟩
 ·exact fun hi=>(m.off (G:=fun i=>i=G.g) (fun i e=>by rw[e];exact h.blk.lt) (fun i e hi=>h.g1 (by rw[←show i=G.g from e];exact hi))) G.g rfl hi
 ·exact(m.off h.sto.low h.o1.symm).symm
 ·exact(m.off h.sk.low h.o2.symm).symm
 ·rcases hi with hi|hi|hi
  ·exact .inl (.inl hi)
  ·exact .inr hi
  ·exact .inl (.inr (.inr hi))
theorem RTier.setSto {w w':World} {G:RtG} {c:Cfg} {t:List Int} {X:As_} (h:RTier w G c t X) {v':Value} {S':List Ent} (hT:RSto w' G.gS v' c.Exact S') (m:Mov (rtF G.gS G.vS) (rtF G.gS v') w w'):RTier w' { G with vS:=v' } c t { X with S:=S' }∧Mov G.F { G with vS:=v' }.F w w':=by
 have hg:GrownS (rtF G.gS G.vS) w w':=m.grown;refine⟨⟨h.blk.keptS hg h.g2,h.tab.keptS hg h.o1,hT,h.sk.keptS hg h.o3.symm,h.g1,?_,h.g3,?_,h.o2,?_⟩,m.wide (fun i hi=>.inr (.inr (.inl hi))) fun i hi=>?_⟩
 ·exact fun hi=>(m.off (G:=fun i=>i=G.g) (fun i e=>by rw[e];exact h.blk.lt) (fun i e hi=>h.g2 (by rw[←show i=G.g from e];exact hi))) G.g rfl hi
 ·exact m.off h.tab.low h.o1
 ·exact(m.off h.sk.low h.o3.symm).symm
 ·rcases hi with hi|hi|hi|hi
  ·exact .inl (.inl hi)
  ·exact .inl (.inr (.inl hi))
  ·exact .inr hi
  ·exact .inl (.inr (.inr (.inr hi)))
theorem RTier.setSk {w w':World} {G:RtG} {c:Cfg} {t:List Int} {X:As_} (h:RTier w G c t X) {rows':List (List Int)} {sum':Int} (hT:RSk w' G.gK G.vr G.vs G.vt t c.Seed rows' sum') (m:GrownS (rskF G.gK G.vr G.vs G.vt) w w'):RTier w' G c t { X with rows:=rows',sum:=sum' }∧Mov G.F G.F w w':=
 ⟨⟨h.blk.keptS m h.g3,h.tab.keptS m h.o2,h.sto.keptS m h.o3,hT,h.g1,h.g2,h.g3,h.o1,h.o2,h.o3⟩,⟨m.mono fun _ hi _=>.inr (.inr (.inr hi)),fun _ hi=>.inl hi⟩⟩
structure Bd_ (c:Cfg):Prop where
 mode:c.Mode=1∨c.Mode=2
 slots:1≤c.Slots∧c.Slots≤64
 exact:0≤c.Exact∧c.Exact≤32
 promote:0≤c.Promote∧c.Promote<18446744073709551616
 depth:1≤c.Depth∧c.Depth≤4
 width:1≤c.Width∧c.Width≤256
 seed:0≤c.Seed∧c.Seed<18446744073709551616
theorem CfgNums.tier {c:Cfg} (h:CfgNums c):Bd_ c:=⟨h.mode,h.slots,h.exact,h.promote,h.depth,h.width,h.seed⟩
theorem Bd_.cfg {c:Cfg} (h:Bd_ c):Bu_ c:=⟨h.mode,h.slots,h.exact.1,h.depth.1,h.width⟩
theorem Q9_ (c:Cfg) (t:List Int) (w:World) (hn:Bd_ c) (ht:RdL wordF 1 w c.Table t) (htl:t.length=16) :
  Calls Tryz.prog 122 #[c.val] w (fun e w'=>∃G,e=.returned (.tuple #[.pointer (some ⟨G.g,0,none⟩),.int .i64 0])∧RTier w' G c t (tier0 c)∧(∀i,G.F i→w.heap.size≤i)∧w.grownBy w' none):=by
 have HT:=hh_ fun y (q:w.grownBy y none)=>cm_ c.Depth c.Width c.Table t c.Seed y hn.depth hn.width (RdL.same ht q) htl
 have HN:=hh_ fun y=>ct_ c.Mode c.Slots y hn.mode hn.slots
 have HS:=hh_ fun y=>dc_ c.Exact y hn.exact
 obtain⟨ta,tc,htv⟩:=ht.shape;rw[htl] at htv;clear hn ht
 go_enter func122,ntmps122
 go_upto_region 1 with(refine Au_ rfl _ rfl c rfl ?_;intro w1 B1 G1 z1)
 have b1:=B1.cell;simp only[Cfg.arr] at b1
 go_upto_region 4 with(go_at_call 153;refine(HN.out _).mono ?_;rintro e w2 ⟨gT,rfl,R2,hz2,g2⟩)
 have G2:=Aa_ G1 g2;have B2:=B1.same g2
 have hT0:∀i,rtF gT (.slice none 0 0) i→w.heap.size≤i:=fun i hi=>by
  rcases hi with rfl|hi
  ·exact lt_ G1.size hz2
  ·exact absurd hi (Ay_ i)
 have HR2:=hh_ R2;have b2:=B2.cell;simp only[Cfg.arr] at b2;clear b1 B1 g2 R2
 go_upto_region 7 with(go_at_call 154;refine(HS.out _).mono ?_;rintro e w3 ⟨gS,rfl,R3,hz3,g3⟩)
 have G3:=Aa_ G2 g3;have B3:=B2.same g3;have HR3:=hh_ R3;have HT3:=hh_ (HR2.out.same g3)
 have hS0:∀i,rtF gS (.slice none 0 0) i→w2.heap.size≤i:=fun i hi=>by
  rcases hi with rfl|hi
  ·exact hz3
  ·exact absurd hi (Ay_ i)
 have b3:=B3.cell;simp only[Cfg.arr] at b3;rw[htv] at b3;have HT4:=hh_ (HT.out _ G3);rw[htv] at HT4;have hz23:=g3.size;clear b2 B2 g3 R3
 go_upto_region 10 with(go_at_call 155;refine HT4.out.mono ?_;rintro e w4 ⟨gK,vr,vs,vt,rfl,R4,hK0,g4⟩)
 have G4:=Aa_ G3 g4;have B4:=B3.same g4;have HR4:=hh_ R4;have HS5:=hh_ (HR3.out.same g4);have HT5:=hh_ (HT3.out.same g4);have hlT:=HR2.out.low;have hlS:=HR3.out.low;have hz4:=G2.size;clear b3 B3 g4 R4 HT4 htv
 go_wp2_with (refine Al_ rfl _ rfl _ rfl c B4 ?_)
 go_ret2
 have HB:=hh_ (Blk.new w4 (Ro_ c gT gS gK) 216);have g5:=ga_ w4 (.cells (Ro_ c gT gS gK) 216) none;have k4:=G4.size;have k3:=G3.size;have l4:=HR4.out.low;have l3:=HS5.out.low;have l2:=HT5.out.low;refine⟨⟨w4.heap.size,gT,.slice none 0 0,gS,.slice none 0 0,gK,vr,vs,vt⟩,rfl,⟨HB.out,HT5.out.same g5,HS5.out.same g5,HR4.out.same g5,fun h=>Nat.lt_irrefl _ (l2 _ h),fun h=>Nat.lt_irrefl _ (l3 _ h),fun h=>Nat.lt_irrefl _ (l4 _ h),fun i h h'=>by have:=hlT i h;have:=hS0 i h';omega,fun i h h'=>?_,fun i h h'=>?_⟩,fun i hi=>?_,Aa_ G4 g5⟩
 ·have:=hlT i h;have:=hK0 i h';have:=G3.size;omega
 ·have:=hlS i h;have:=hK0 i h';omega
 ·rcases hi with hi|hi|hi|hi
  ·exact lt_ k4 (Nat.le_of_eq (Eq.symm hi))
  ·exact hT0 i hi
  ·have:=hS0 i hi;omega
  ·have:=hK0 i hi;omega
end
section
open Go.RowKit Go.Sort
theorem Rq_ (g:Nat) (v:Value) (vs:List SlR) (vt:Value) (t:List Int) (seed:Int) (rows:List (List Int)) (sum:Int) (k:ByteArray) (x:Int) (w:World) (h:RSk w g v vs vt t seed rows sum) (hT:W64 sum) (hx:W64 x) (he:addErr sum k x≠0) :
  Calls Tryz.prog 156 #[.pointer (some ⟨g,0,none⟩),.string k,.int .u64 x] w (RetInt (addErr sum k x) w):=by
 have HF:=hh_ fun y=>Dd_ sum x y hT hx
 have b0:=h.blk.cell
 have R:∀w' e,e=addErr sum k x→w.grownBy w' none→RetInt (addErr sum k x) w (.returned (.int .i64 e)) w':=fun w' e he' hg=>⟨by rw[he'],hg⟩
 clear h;unfold addErr at R he ⊢
 by_cases hk:k.size=0
 ·rw[if_pos hk] at R ⊢
  have hk2:=Bc_ k;rw[dt_ hk] at hk2
  go_enter func156,ntmps156
  go_wp2_with fail
  go_ret
  exact R _ _ rfl (Ab_ _ _)
 ·rw[if_neg hk] at R he ⊢
  have hk2:=Bc_ k;rw[df_ hk] at hk2
  by_cases h0:x=0
  ·rw[if_pos h0] at R ⊢
   subst h0
   go_enter func156,ntmps156
   go_wp2_with fail
   go_ret
   exact R _ _ rfl (Ab_ _ _)
  ·rw[if_neg h0] at R he ⊢
   have h02 :(x==0)=false:=bf_ h0
   have hm:mostW<sum+x:=Decidable.byContradiction fun h=>he (if_neg h)
   rw[if_pos hm] at R ⊢;have hF:fitsB sum x=false:=df_ (by unfold mostW at hm;omega);rw[hF] at HF
   go_enter func156,ntmps156
   go_wp2_with (go_at_call 118;refine(HF.out _).mono ?_;rintro e w1 ⟨rfl,rfl⟩)
   go_ret
   exact R _ _ rfl (Ab_ _ _)
def RTAdd (G:RtG) (c:Cfg) (t:List Int) (X:As_) (k:ByteArray) (x:Int) (w:World) (e:Ending) (w':World):Prop:=
 e=.returned (.int .i64 (X.err k x))∧∃G',RTier w' G' c t (if X.err k x=0 then X.add c t k x else X)∧Mov G.F G'.F w w'∧G'.g=G.g
theorem Rl_ (G:RtG) (c:Cfg) (t:List Int) (X:As_) (k:ByteArray) (x:Int) (w:World) (h:RTier w G c t X) (hok:TierOk c X) (hx:W64 x) (he:X.err k x≠0) :
  Calls Tryz.prog 123 #[.pointer (some ⟨G.g,0,none⟩),.string k,.int .u64 x] w (RTAdd G c t X k x w):=by
 have H:=hh_ h;have hs:=hok.sums;have hb:=hok.tab.base
 have R:∀w' e,e=X.err k x→w.grownBy w' none→RTAdd G c t X k x w (.returned (.int .i64 e)) w':=fun w' e he' hg=>⟨by rw[he'],G,by rw[if_neg he];exact H.out.same hg,Mov.same hg,rfl⟩
 have b0:=h.blk.cell;unfold As_.err at R he
 by_cases hk:k.size=0
 ·rw[if_pos hk] at R
  have hk2:=Bc_ k;rw[dt_ hk] at hk2;clear h hok
  go_enter func123,ntmps123
  go_wp2_with fail
  go_ret
  exact R _ _ rfl (Ab_ _ _)
 ·rw[if_neg hk] at R he
  have hk2:=Bc_ k;rw[df_ hk] at hk2
  by_cases hl:255<k.size
  ·rw[if_pos hl] at R
   have hl2 :(255:Int)<(k.size:Int):=by omega
   clear h hok
   go_enter func123,ntmps123
   go_wp2_with fail
   go_ret
   exact R _ _ rfl (Ab_ _ _)
  ·rw[if_neg hl] at R he
   have hl2:¬(255:Int)<(k.size:Int):=by omega
   have hE:addErr X.sum k x=if x=0 then 1 else if mostW<X.sum+x then 12 else 0:=by unfold addErr;rw[if_neg hk]
   rw[←hE] at R he
   have HA:=hh_ fun y (q:w.grownBy y none)=>Rq_ G.gK G.vr G.vs G.vt t c.Seed X.rows X.sum k x y (h.same q).sk (G1_ (by omega) hs.2) hx he
   have he2 :(addErr X.sum k x != 0)=true:=bne_iff_ne.2 he;clear h hok hE;generalize addErr X.sum k x=E at *;obtain⟨g,gT,vT,gS,vS,gK,vr,vs,vt⟩:=G;dsimp only at *
   go_enter func123,ntmps123
   go_wp2_with (go_at_call 156;refine(HA.out _ (Ab_ _ _)).mono ?_;rintro e w1 ⟨rfl,g1⟩)
   go_ret
   exact R _ _ rfl g1
theorem As_.err_ok {X:As_} {k:ByteArray} {x:Int} (hk:0<k.size∧k.size≤255) (hx:1≤x) (hs:X.sum+x≤mostW):X.err k x=0:=by
 unfold As_.err;rw[if_neg (by omega),if_neg (by omega),if_neg (by omega),if_neg (by omega)]
theorem As_.add_ex {c:Cfg} {t:List Int} {X:As_} {k:ByteArray} {x:Int} {en:Ent} (hg:getE X.S k=some en):X.add c t k x={ X with S:=Ht_ X.S k x,rows:=Bp_ t c.Seed k (estF t c.Seed k X.rows+x) X.rows,sum:=X.sum+x }:=by
 unfold As_.add;rw[hg]
theorem As_.add_tab {c:Cfg} {t:List Int} {X:As_} {k:ByteArray} {x:Int} (hg:getE X.S k=none):X.add c t k x={ X with T:=(promo c.Exact c.Promote (X.T.add k x) X.S k).1,S:=(promo c.Exact c.Promote (X.T.add k x) X.S k).2,rows:=Bp_ t c.Seed k (estF t c.Seed k X.rows+x) X.rows,sum:=X.sum+x }:=by
 unfold As_.add;rw[hg]
theorem Wm_ (G:RtG) (c:Cfg) (t:List Int) (X:As_) (k:ByteArray) (x:Int) (w:World) (h:RTier w G c t X) (hok:TierOk c X) (hn:Bd_ c) (htl:t.length=16) (hk:0<k.size∧k.size≤255) (hx:1≤x) (hs:X.sum+x≤mostW) (en:Ent) (hg:getE X.S k=some en) :
  Calls Tryz.prog 123 #[.pointer (some ⟨G.g,0,none⟩),.string k,.int .u64 x] w (RTAdd G c t X k x w):=by
 have hcn:=hok.cnt en (A4_ hg).1;have hE:=hok.ents;have H:=hh_ h;have hss:=hok.sums;have hbb:=hok.tab.base;have hmw:mostW=9223372036854775808:=rfl;have hgr:=hok.rows
 have HSK:=hh_ fun y (q:RTier y G c t X)=>Nc_ G.gK G.vr G.vs G.vt t c.Seed c.Depth c.Width X.rows X.sum k x y q.sk hgr hn.depth hn.width htl ⟨hn.seed.1,by have:=hn.seed.2;omega⟩ hk hx (by omega) hs
 obtain⟨X1,hX1⟩:∃X1:As_,X1={ X with rows:=Bp_ t c.Seed k (estF t c.Seed k X.rows+x) X.rows,sum:=X.sum+x }:=⟨_,rfl⟩;have HX1:=hh_ hX1
 have HK1:=hh_ fun y (q:RTier y G c t X1)=>Il_ G.gS G.vS c.Exact X1.S k en y q.sto (by rw[hX1];exact hg)
 have hk2:=Bc_ k;rw[df_ (show ¬k.size=0 by omega)] at hk2
 have hl2:¬(255:Int)<(k.size:Int):=by omega
 have b0:=h.blk.cell;obtain⟨g,gT,vT,gS,vS,gK,vr,vs,vt⟩:=G;dsimp only at *
 have HA:=hh_ fun y (q:RTier y ⟨g,gT,vT,gS,vS,gK,vr,vs,vt⟩ c t X1)=>bm_ gS vS c.Exact X1.S k x en y q.sto (by rw[hX1];exact hE) (by rw[hX1];exact hg) hx (by unfold Ent.cnt at hcn;omega)
 have HE:=hh_ (As_.err_ok (X:=X) hk hx hs);have HR:=hh_ (show(if X.err k x=0 then X.add c t k x else X)={ X1 with S:=Ht_ X1.S k x } by rw[if_pos (As_.err_ok hk hx hs),As_.add_ex hg,hX1]);clear h hok hgr hE hcn hg hX1
 go_enter func123,ntmps123
 go_upto_region 8 with(go_at_call 156;refine(HSK.out _ H.out).mono ?_;rintro e w1 ⟨rfl,K1,M1⟩)
 have P1:=H.out.setSk K1 M1;rw[←HX1.out] at P1;have HR1:=hh_ P1.1;have HM1:=hh_ P1.2;have b1:=HR1.out.blk.cell;clear b0 K1 M1 P1 HSK
 go_upto_region 9 with(go_at_call 157;refine(HK1.out _ HR1.out).mono ?_;rintro e w2 ⟨rfl,g2⟩)
 have b2:=(HR1.out.same g2).blk.cell;obtain⟨A3,G3⟩:=nb_ w2 #[.string en.key,.int .u64 en.own,.int .u64 en.slack] 224;generalize w2.alloc _=w3 at *;generalize hgc:w2.heap.size=gc at *;have R3:=(HR1.out.same g2).same G3;have M3:=HM1.out.trans (Mov.same (Aa_ g2 G3));have b3:=R3.blk.cell;have HR3:=hh_ R3;clear b1 b2 A3 R3 HR1 HM1 g2 G3
 go_wp2_with (go_at_call 158;refine(HA.out _ HR3.out).mono ?_;rintro e w4 ⟨rfl,S4,m4⟩)
 go_ret
 obtain⟨R5,M5⟩:=HR3.out.setSto S4 m4;exact⟨by rw[HE.out];rfl,_,by rw[HR.out];exact R5,M3.trans M5,rfl⟩
def As_.mid (c:Cfg) (t:List Int) (X:As_) (k:ByteArray) (x:Int):As_:={ X with T:=X.T.add k x,rows:=Bp_ t c.Seed k (estF t c.Seed k X.rows+x) X.rows,sum:=X.sum+x }
theorem As_.add_mid {c:Cfg} {t:List Int} {X:As_} {k:ByteArray} {x:Int} (hk:0<k.size∧k.size≤255) (hx:1≤x) (hs:X.sum+x≤mostW) (hg:getE X.S k=none) {p:TabM×List Ent} (hp:promo c.Exact c.Promote (X.T.add k x) X.S k=p) :(if X.err k x=0 then X.add c t k x else X)={ X.mid c t k x with T:=p.1,S:=p.2 }:=by
 rw[if_pos (As_.err_ok hk hx hs),As_.add_tab hg,hp];rfl
theorem bz_ {ex pr:Int} {T:TabM} {S:List Ent} {k:ByteArray} (h:T.get k=none):promo ex pr T S k =(T,S):=by unfold promo;rw[h]
theorem Vc_ {ex pr:Int} {T:TabM} {S:List Ent} {k:ByteArray} {e:Ent} (h:T.get k=some e) (h2:ex=0∨e.own<pr):promo ex pr T S k =(T,S):=by unfold promo;rw[h];dsimp only;rw[if_pos h2]
theorem bo_ {ex pr:Int} {T:TabM} {S:List Ent} {k:ByteArray} {e:Ent} (h:T.get k=some e) (h2:¬(ex=0∨e.own<pr)) (h3 :(S.length:Int)≠ex):promo ex pr T S k =(T.take k,insE S e):=by unfold promo;rw[h];dsimp only;rw[if_neg h2,if_pos h3]
theorem dj_ {ex pr:Int} {T:TabM} {S:List Ent} {k:ByteArray} {e x:Ent} (h:T.get k=some e) (h2:¬(ex=0∨e.own<pr)) (h3 :(S.length:Int)=ex) (h4:lastMin S=some x) (h5:e.own≤x.cnt):promo ex pr T S k =(T,S):=by unfold promo;rw[h];dsimp only;rw[if_neg h2,if_neg (by omega),h4];dsimp only;rw[if_pos h5]
theorem c5_ {ex pr:Int} {T:TabM} {S:List Ent} {k:ByteArray} {e x:Ent} (h:T.get k=some e) (h2:¬(ex=0∨e.own<pr)) (h3 :(S.length:Int)=ex) (h4:lastMin S=some x) (h5:¬e.own≤x.cnt):promo ex pr T S k =(T.swap k x,insE (delE S x.key) e):=by unfold promo;rw[h];dsimp only;rw[if_neg h2,if_neg (by omega),h4];dsimp only;rw[if_neg h5]
theorem Mk_ {w w':World} {G:RtG} {c:Cfg} {t:List Int} {X X1:As_} {k:ByteArray} {x:Int} {e:Ending} (h:RTier w G c t X1) (h1:X1={ X with rows:=Bp_ t c.Seed k (estF t c.Seed k X.rows+x) X.rows,sum:=X.sum+x }) (hA:addErr X.T.sum k x=0) (hr:RAdd G.gT G.vT X1.T k x w e w') :
  e=.returned (.int .i64 0)∧∃v',RTier w' { G with vT:=v' } c t (X.mid c t k x)∧Mov G.F { G with vT:=v' }.F w w':=by
 obtain⟨he,v',hT,hm⟩:=hr
 have hA':addErr X1.T.sum k x=0:=by rw[h1];exact hA
 rw[hA'] at he;rw[if_pos hA'] at hT;obtain⟨a,b⟩:=h.setTab hT hm;refine⟨he,v',?_,b⟩
 have :(X.mid c t k x)={ X1 with T:=X1.T.add k x }:=by rw[h1];rfl
 rw[this];exact a
theorem Y9_ (G:RtG) (c:Cfg) (t:List Int) (X:As_) (k:ByteArray) (x:Int) (w:World) (h:RTier w G c t X) (hok:TierOk c X) (hn:Bd_ c) (htl:t.length=16) (hk:0<k.size∧k.size≤255) (hx:1≤x) (hs:X.sum+x≤mostW) (hg:getE X.S k=none) (hget :(X.T.add k x).get k=none) :
  Calls Tryz.prog 123 #[.pointer (some ⟨G.g,0,none⟩),.string k,.int .u64 x] w (RTAdd G c t X k x w):=by
 have HR:=hh_ (As_.add_mid (t:=t) hk hx hs hg (bz_ (ex:=c.Exact) (pr:=c.Promote) (S:=X.S) hget));have HE:=hh_ (As_.err_ok (X:=X) hk hx hs);have H:=hh_ h;have hss:=hok.sums;have hbb:=hok.tab.base;have hmw:mostW=9223372036854775808:=rfl;have hgr:=hok.rows
 have HSK:=hh_ fun y (q:RTier y G c t X)=>Nc_ G.gK G.vr G.vs G.vt t c.Seed c.Depth c.Width X.rows X.sum k x y q.sk hgr hn.depth hn.width htl ⟨hn.seed.1,by have:=hn.seed.2;omega⟩ hk hx (by omega) hs
 obtain⟨X1,hX1⟩:∃X1:As_,X1={ X with rows:=Bp_ t c.Seed k (estF t c.Seed k X.rows+x) X.rows,sum:=X.sum+x }:=⟨_,rfl⟩;have HX1:=hh_ hX1
 have HK1:=hh_ fun y (q:RTier y G c t X1)=>Iy_ G.gS G.vS c.Exact X1.S k y q.sto (by rw[hX1];exact hg)
 have hk2:=Bc_ k;rw[df_ (show ¬k.size=0 by omega)] at hk2
 have hl2:¬(255:Int)<(k.size:Int):=by omega
 have b0:=h.blk.cell;obtain⟨g,gT,vT,gS,vS,gK,vr,vs,vt⟩:=G;dsimp only at *;have hA1:addErr X.T.sum k x=0:=(Jv_.mk hk hx (show X.T.sum+x≤mostW by omega)).err
 have HT:=hh_ fun y (q:RTier y ⟨g,gT,vT,gS,vS,gK,vr,vs,vt⟩ c t X1)=>(U1_ gT vT X1.T k x y q.tab (by rw[hX1];exact hok.tab) hk.2 ⟨by omega,by omega⟩).mono fun e w' hr=>Mk_ q hX1 hA1 hr
 have HG:=hh_ fun v4 y (q:RTier y ⟨g,gT,v4,gS,vS,gK,vr,vs,vt⟩ c t (X.mid c t k x))=>Tz_ gT v4 (X.T.add k x) k y q.tab hget
 clear h hok hgr hg hX1 hget hA1
 go_enter func123,ntmps123
 go_upto_region 8 with(go_at_call 156;refine(HSK.out _ H.out).mono ?_;rintro e w1 ⟨rfl,K1,M1⟩)
 have P1:=H.out.setSk K1 M1;rw[←HX1.out] at P1;have HR1:=hh_ P1.1;have HM1:=hh_ P1.2;have b1:=HR1.out.blk.cell;clear b0 K1 M1 P1 HSK
 go_upto_region 9 with(go_at_call 157;refine(HK1.out _ HR1.out).mono ?_;rintro e w2 ⟨rfl,g2⟩)
 obtain⟨A3,G3⟩:=nb_ w2 #[.string ⟨#[]⟩,.int .u64 0,.int .u64 0] 224;generalize w2.alloc _=w3 at *;generalize hgc:w2.heap.size=gc at *;have R3:=(HR1.out.same g2).same G3;have M3:=HM1.out.trans (Mov.same (Aa_ g2 G3));have b3:=R3.blk.cell;have HR3:=hh_ R3;clear b1 A3 R3 HR1 HM1 g2 G3
 go_upto_region 13 with(go_at_call 159;refine(HT.out _ HR3.out).mono ?_;rintro e w4 ⟨rfl,v4,R4,M4⟩)
 have HR4:=hh_ R4;have b4:=R4.blk.cell;have M5:=M3.trans M4;clear b3 R4 M3 M4 HR3
 go_upto_region 14 with(go_at_call 160;refine(HG.out _ _ HR4.out).mono ?_;rintro e w6 ⟨rfl,g6⟩)
 obtain⟨A7,G7⟩:=nb_ w6 #[.string ⟨#[]⟩,.int .u64 0,.int .u64 0] 224;generalize w6.alloc _=w7 at *;generalize hgd:w6.heap.size=gd at *;have R7:=(HR4.out.same g6).same G7;have M7:=M5.trans (Mov.same (Aa_ g6 G7));have b7:=R7.blk.cell;have a7:=A7.cell;clear b4 A7 M5 g6 G7 HR4
 go_quiet (fail)
 go_wp2_with fail
 go_ret
 exact⟨by rw[HE.out];rfl,_,by rw[HR.out];exact R7.same (Ae_ (Ab_ w7 none) _),M7.trans (Mov.same (Ae_ (Ab_ w7 none) _)),rfl⟩
end
end Go.Proofs.YtckmgjmeanloaaaGreat
