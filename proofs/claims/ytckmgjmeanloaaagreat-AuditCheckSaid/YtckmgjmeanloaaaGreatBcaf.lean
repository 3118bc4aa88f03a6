/- Contracts of functions, and laws. -/
import Derived.Test.YtckmgjmeanloaaaGreatBcae
set_option maxHeartbeats 8000000
set_option maxRecDepth 100000
namespace Go.Proofs.YtckmgjmeanloaaaGreat
open Go.Proofs.Tryz
variable {w w':World} {t:List Int} {k:ByteArray} {Q:Exit→Act→World→Prop} {ops:Array Oper} {o:Oper} {a:Act} {cs:Array Value}
section
open Go.RowKit Go.Sort
theorem hj_ {l:List UInt8} (hE:rawX l≠0) {v:Value} (h:Calls prog 82 #[v] w (EvdP l w)):Calls prog 82 #[v] w (fun e w'=>e=.returned (.tuple #[.agg #[.slice none 0 0,.int .i64 0,.int .u64 0],.int .i64 0,.int .i64 (rawX l)])∧w.grownBy w' none):=
 h.mono fun e w' h=>by unfold EvdP at h;rw[if_neg hE] at h;exact h
theorem do_ {l:List UInt8} (hE:rawX l=0) {v:Value} (h:Calls prog 82 #[v] w (EvdP l w)):Calls prog 82 #[v] w (fun e w'=>∃va cp,e=.returned (.tuple #[.agg #[.slice va (rawE l).1.tags.length cp,.int .i64 (rawE l).1.time,.int .u64 (rawE l).1.weight],.int .i64 (l.length-(rawE l).2.1.length:Nat),.int .i64 0])∧RdL tagF 2 w' (.slice va (rawE l).1.tags.length cp) (rawE l).1.tags∧w.grownBy w' none):=
 h.mono fun e w' h=>by
  unfold EvdP at h;rw[if_pos hE] at h;obtain⟨⟨vt,h1,h2⟩,h3⟩:=h;obtain⟨va,cp,rfl⟩:=h2.shape;exact⟨va,cp,h1,h2,h3⟩
theorem g7_ {α:Type} {f:α→List Value} {s:Nat} {a:Option Addr} {n c:Nat} {l:List α} (h:RdL f s w (.slice a n c) l):∀ad,a=some ad→0<l.length→ad.block<w.heap.size:=by
 intro ad e h0;subst e
 rcases h.2.2 with⟨h1,_⟩ |⟨g,off,cap,hv,hlt,_⟩
 ·omega
 ·cases hv;exact hlt
theorem Rm_ {a:Option Addr} {c k B m:Nat} {od:Option Addr} (hod :(if c=k then a else Option.map (fun x=>Addr.add x k) a)=od) (h:∀ad,a=some ad→0<m→ad.block<B):∀ad,od=some ad→0<m→ad.block<B:=by
 intro ad e h0;subst hod
 split at e
 ·exact h ad e h0
 ·cases a with
  | none=>simp at e
  | some x=>simp at e;rw[←e,Ns_];exact h x rfl h0
theorem Is_:Elt 115 114 (.agg #[.string ⟨#[]⟩,.int .i64 0,.int .u64 0,.int .i64 0]) 4 40:=⟨underlying115,by kernel_rfl,rfl,by decide⟩
theorem Pi_ (w:World) (x:InpR):Own inpF 4 114 w.heap.size (w.alloc (.cells #[.string x.it.key,.int .i64 x.it.time,.int .u64 x.it.weight,.int .i64 x.ver] 114)) (.slice (some ⟨w.heap.size,0,none⟩) 1 1) [x]:=
 ⟨by simp[cellsOf,inpF],.inr ⟨w.heap.size,1,_,rfl,le_ _,heap_alloc_new w _,by simp,by unfold maxLen;omega,by simp,by simp[cellsOf,inpF]⟩⟩
theorem Za_ (v:Value) (b:List UInt8) (most:Int) (w:World) (h:RdL byF 1 w v b) (hc:∀a n c,v=.slice a n c→n≤c) (hl:b.length≤1000000) (hm:0≤most∧most≤1000):Calls prog 47 #[v,.int .i64 most] w (RetOwn inpF 4 114 (inputsF most b) w):=by
 obtain⟨a,c,rfl⟩:=h.shape;have hlc:=hc _ _ _ rfl
 have CR:=hh_ fun w' (h:RdL byF 1 w' (.slice a b.length c) b)=>O1_ _ b w' h
 have hu:=Gk_ b;have hw:=Fc_ b;have HF:=hh_ (show inputsF most b=if (readF b).2.2≠0∨(readF b).1<1∨64<(readF b).1 then [inpBad] else inpsD most (readF b).1 (b.drop (readF b).2.1) from rfl);obtain⟨n,used,e0,hX⟩:∃n u e,readF b =(n,u,e):=⟨_,_,_,rfl⟩;rw[hX] at CR HF hu hw;clear hX;dsimp only at hu hw;have H:=hh_ h;clear h hc;have HP:=hh_ (p:=∀(l:List InpR),inputsF most b=l→∀v' w',Own inpF 4 114 w.heap.size w' v' l→w.grownBy w' none→RetOwn inpF 4 114 (inputsF most b) w (.returned v') w') (fun l e v' w' ho hg=>⟨v',rfl,e▸ho,hg⟩)
 go_enter func47,ntmps47
 by_cases p:e0≠0∨n<1∨64<n
 ·have HF1:=hh_ (HF.out.trans (if_pos p))
  have HE:=hh_ fun w1 (g:w.grownBy w1 none)=>HP.out _ HF1.out _ _ ((Pi_ w1 inpBad).base fun k hk=>by have h1:=((Pi_ w1 inpBad).lt k hk).1;have:=g.size;omega) (Aa_ g (ga_ w1 _ none))
  clear HF HF1 HP
  by_cases p1:e0=0
  ·subst p1
   by_cases p2:n<1
   ·have p2' :(n:Int)<1:=by omega
    clear p p2
    go_upto_region 3 with(go_at_call 81;refine(CR.out _ H.out).mono ?_;rintro e w1 ⟨rfl,g1⟩)
    go_wp2_with fail
    go_ret
    exact HE.out _ g1
   ·have p2':1≤(n:Int):=by omega
    have p3:64<(n:Int):=by omega
    clear p p2
    go_upto_region 3 with(go_at_call 81;refine(CR.out _ H.out).mono ?_;rintro e w1 ⟨rfl,g1⟩)
    go_wp2_with fail
    go_ret
    exact HE.out _ g1
  ·have p2 :(e0 != 0)=true:=by simp[p1]
   clear p p1
   go_upto_region 3 with(go_at_call 81;refine(CR.out _ H.out).mono ?_;rintro e w1 ⟨rfl,g1⟩)
   go_wp2_with fail
   go_ret
   exact HE.out _ g1
 ·have p0:e0=0:=by omega
  subst p0
  have p1:1≤(n:Int):=by omega
  have p2 :(n:Int)≤64:=by omega
  have HF2:=hh_ (HF.out.trans (if_neg p));clear HF p
  have hus :(used:Int)≤(b.length:Int):=by omega
  have hus2 :(used:Int)≤(c:Int):=by omega
  have hu0 :(0:Int)≤(used:Int):=by omega
  have R0:=RdL.drop Bv_ H.out hu hlc (c-used);rw[Nat.mul_one] at R0;obtain⟨od,hod⟩:∃od,(if c=used then a else Option.map (fun x=>Addr.add x used) a)=od:=⟨_,rfl⟩;rw[hod] at R0;have HR0:=hh_ R0;have hdl :(b.drop used).length=b.length-used:=List.length_drop
  have hdb :(b.drop used).length≤b.length:=by omega
  clear R0
  go_upto_region 7 with(go_at_call 81;refine(CR.out _ H.out).mono ?_;rintro e w1 ⟨rfl,g1⟩)
  go_loopw [8,9,10] (fun s8 s9 s10 wr=>∃(k:Nat) (r:List UInt8) (pre:List InpR) (ra:Option Addr) (rc:Nat),k≤n∧s10=.int .u64 k∧s9=.slice ra r.length rc∧RdL byF 1 wr (.slice ra r.length rc) r∧r.length≤rc∧r.length≤b.length∧(∀ad,ra=some ad→0<r.length→ad.block<w.heap.size)∧pre.length=k∧pre++inpsD most (n-k) r=inputsF most b∧Own inpF 4 114 w.heap.size wr s8 pre∧w.grownBy wr none) (fun _ _ s10 _=>n-(RowKit.intOf s10).toNat)
  case atStart=>exact⟨0,b.drop used,[],od,c-used,by omega,rfl,by rw[hdl],by rw[hdl];exact RdL.same HR0.out g1,by omega,hdb,fun ad e h0=>Rm_ hod (m:=b.length) (g7_ H.out) ad e (by omega),rfl,by rw[HF2.out];rfl,Own.nil _ _ _ _ _,g1⟩
  case round=>
   clear HR0 g1 hod hdl hdb CR H HF2 hus hus2 hu0 hu hlc;obtain⟨k,r,pre,ra,rc,hk,rfl,rfl,hR,hrc,hrb,hlow,hpl,hT,hO,hg⟩:=hrel;subst hpl;have HO:=hh_ hO;have HG:=hh_ hg;have hOs:=hO.shape;have hsz:=hg.size;clear hO
   by_cases hlt:pre.length<n
   ·have hkn :(pre.length:Int)<(n:Int):=by omega
    obtain⟨m,hm1⟩:∃m,n-pre.length=m+1:=⟨n-pre.length-1,by omega⟩;have CD:=hh_ (fa_ _ r wr hR (fun a n c e=>by cases e;exact hrc) (by omega));have HRr:=hh_ hR;clear hR
    have hb3 :(pre.length+1)*40≤140737488355328:=by omega
    have hb4:pre.length+1≤9223372036854775807:=by omega
    obtain⟨pa,pc,rfl⟩:=hOs
    by_cases hE:rawX r=0
    ·have CDy:=hh_ (do_ hE CD.out)
     have hW:=V3_ r;have hdr:=U3_ r;have hle:=Ni_ r;obtain⟨X,hX⟩:∃X,(rawE r).1=X:=⟨_,rfl⟩;obtain⟨rr,hrr⟩:∃rr,(rawE r).2.1=rr:=⟨_,rfl⟩
     have HT:=hh_ (show(pre++[inpOf most X])++inpsD most (n-(pre.length+1)) rr=inputsF most b by
      rw[←hT,hm1,show n-(pre.length+1)=m by omega,←hX,←hrr]
      conv=>rhs;unfold inpsD
      rw[if_neg (by simp[hE]),List.append_assoc];rfl)
     rw[hX] at hW CDy;rw[hrr] at hdr hle CDy;obtain⟨u2,hu2⟩:∃u2,r.length-rr.length=u2:=⟨_,rfl⟩;rw[hu2] at hdr CDy
     have hu2l:u2≤r.length:=by omega
     have R1:=RdL.drop Bv_ HRr.out hu2l hrc (rc-u2);rw[hdr,Nat.mul_one,show r.length-u2=rr.length by omega] at R1
     have hul :(u2:Int)≤(r.length:Int):=by omega
     have huc :(u2:Int)≤(rc:Int):=by omega
     have hu0 :(0:Int)≤(u2:Int):=by omega
     obtain⟨od2,hod2⟩:∃od2,(if rc=u2 then ra else Option.map (fun x=>Addr.add x u2) ra)=od2:=⟨_,rfl⟩;rw[hod2] at R1;have HR1:=hh_ R1;have HL2:=hh_ (show ∀ad,od2=some ad→0<rr.length→ad.block<w.heap.size from fun ad e h0=>Rm_ hod2 (m:=r.length) hlow ad e (by omega));clear hlow
     have hrl:r.length-u2=rr.length:=by omega
     have hrcu:rr.length≤rc-u2:=by omega
     have hrrb:rr.length≤b.length:=by omega
     have CI:=hh_ fun y va cp (q:RdL tagF 2 y (.slice va X.tags.length cp) X.tags)=>f0_ (.slice va X.tags.length cp) X y q (fun t ht=>⟨by have:=(hW t ht).1;omega,by have:=(hW t ht).2;omega⟩)
     have HI:=hh_ (show ItemP X=fun w e w'=>e=.returned (.tuple #[.agg #[.string (itemR X).key,.int .i64 (itemR X).time,.int .u64 (itemR X).weight],.int .i64 (itemE X)])∧w.grownBy w' none from rfl);clear CD hE hT hX hrr R1 HRr hdr hW hu2 hle hg
     go_upto_region 16 with(go_at_call 82;refine CDy.out.mono ?_;rintro e w2 ⟨va,cp,rfl,Rt,g2⟩)
     have A3:=(Blk.new w2 #[.slice va X.tags.length cp,.int .i64 X.time,.int .u64 X.weight] 164).cell;have g3:=ga_ w2 (.cells #[.slice va X.tags.length cp,.int .i64 X.time,.int .u64 X.weight] 164) none;have G3:=Aa_ g2 g3;have R3:=Rt.same g3;have CI3:=hh_ (CI.out _ va cp R3);rw[HI.out] at CI3
     have hkey :(itemR X).key.size≤255:=by unfold itemR;split;exact G7_ _;exact zl_ _
     have HIN:∀v,v=inpV most X→inpOf most X =⟨if v=0 then itemR X else itZ,v⟩:=fun v e=>by rw[e];rfl
     have HZ:itemE X≠0→itemR X=itZ:=fun h=>if_neg h
     have HV:inpV most X=if verE (itemE X)=0∧most<(itemR X).key.size then 2 else verE (itemE X):=rfl
     obtain⟨it,hit⟩:∃it,itemR X=it:=⟨_,rfl⟩;obtain⟨E,hE⟩:∃E,itemE X=E:=⟨_,rfl⟩;rw[hit,hE] at CI3 HV HZ;rw[hit] at HIN hkey;have HV:=hh_ HV;have HZ:=hh_ HZ;have HIN:=hh_ HIN;clear CI HI hit hE Rt R3 g2 g3 CDy;generalize w2.alloc _=w3 at *;generalize hq3:w2.heap.size=q3 at *;clear hq3
     go_upto_region 17 with(go_at_call 83;refine CI3.out.mono ?_;rintro e w4 ⟨rfl,g4⟩)
     have A5:=hh_ (Blk.new w4 #[.string it.key,.int .i64 it.time,.int .u64 it.weight] 41);have G5:=Aa_ G3 (Aa_ g4 (ga_ w4 (.cells #[.string it.key,.int .i64 it.time,.int .u64 it.weight] 41) none));have HR5:=hh_ (HR1.out.same G5);have HO5:=hh_ (HO.out.same G5);have HG5:=hh_ (Aa_ HG.out G5);have hq4:wr.heap.size≤w4.heap.size:=(Aa_ G3 g4).size
     have hOl:=hh_ fun q hq=>(HO.out.lt q hq).2
     clear HR1 HO HG G5 G3 g4 A3 CI3;generalize w4.alloc _=w5 at *;generalize w4.heap.size=q4 at *
     have CV:=hh_ fun y=>Ot_ E y
     have a5:=A5.out.cell;have f5:=A5.out.free
     by_cases hE:E=0
     ·subst hE
      have CV:=hh_ (show Calls prog 84 #[.int .i64 0] w5 (fun e w'=>e=.returned (.int .i64 0)∧w5=w') from Ot_ 0 w5)
      by_cases hbig:most<(it.key.size:Int)
      ·have HIo:=hh_ ((HIN.out 2 (by rw[HV.out,if_pos ⟨rfl,hbig⟩])).trans (show _ =(⟨itZ,2⟩:InpR) by rw[if_neg (by decide)]))
       go_upto_region 22 with(go_at_call 84;refine CV.out.mono ?_;rintro e w6 ⟨rfl,rfl⟩)
       have g6:w5.grownBy (((w5.setCell ⟨q4,0,none⟩ (.string ⟨#[]⟩)).setCell ⟨q4,1,none⟩ (.int .i64 0)).setCell ⟨q4,2,none⟩ (.int .u64 0)) (some q4):=Ac_ (Ac_ (Ac_ (Ab_ _ _) _ _) _ _) _ _;have A7:=((A5.out.set_ 0 (.string ⟨#[]⟩) rfl).set_ 1 (.int .i64 0) rfl).set_ 2 (.int .u64 0) rfl;have HG7:=hh_ (Af_ HG5.out g6 (by omega));have HO7:=hh_ (HO5.out.kept g6 (fun q hq e=>by cases e;have:=hOl.out _ hq;omega));have HR7:=hh_ (Eh_ HR5.out g6 HL2.out (fun k e=>by cases e;omega));clear HG5 HO5 HR5 A5 a5 f5 g6;generalize ((w5.setCell _ _).setCell _ _).setCell _ _=w7 at *;have A6:=A7.cell;have Hcs:=hh_ (show(#[Value.string ⟨#[]⟩,.int .i64 0,.int .u64 0,.int .i64 2]:Array Value).toList=inpF ⟨⟨⟨#[]⟩,0,0⟩,2⟩ from rfl);have hsz7:w.heap.size≤w7.heap.size:=HG7.out.size
       go_wp2_with (at_builtin;refine A9_ Is_ I7_ Ev_ HO7.out ⟨⟨⟨#[]⟩,0,0⟩,2⟩ hb3 hb4 hsz7 Hcs.out ?_;intro v8 w8 o8 g8 l8;obtain⟨a8,c8,rfl⟩:=o8.shape)
       simp only[la_,ls_] at o8;refine⟨⟨pre.length+1,rr,pre++[⟨⟨⟨#[]⟩,0,0⟩,2⟩],od2,rc-u2,by omega,by go_num,rfl,?_,hrcu,hrrb,HL2.out,by simp,by rw[←HT.out,HIo.out] <;> rfl,o8,Aq_ HG7.out HO7.out (le_ _) g8⟩,by simp[RowKit.intOf];omega⟩;exact Eh_ HR7.out g8 HL2.out (fun q hq=>(HO7.out.lt q hq).1)
      ·have hbig2 :(it.key.size:Int)≤most:=by omega
       have HIo:=hh_ ((HIN.out 0 (by rw[HV.out,if_neg (by omega)];rfl)).trans (show _ =(⟨it,0⟩:InpR) by rw[if_pos rfl]));clear hbig
       go_upto_region 22 with(go_at_call 84;refine CV.out.mono ?_;rintro e w6 ⟨rfl,rfl⟩)
       have A7:=A5.out;have HG7:=HG5;have HO7:=HO5;have HR7:=HR5;clear HG5 HO5 HR5 A5 a5 f5;have A6:=A7.cell;have Hcs:=hh_ (show(#[Value.string it.key,.int .i64 it.time,.int .u64 it.weight,.int .i64 0]:Array Value).toList=inpF ⟨⟨it.key,it.time,it.weight⟩,0⟩ from rfl);have hsz7:w.heap.size≤w5.heap.size:=HG7.out.size
       go_wp2_with (at_builtin;refine A9_ Is_ I7_ Ev_ HO7.out ⟨⟨it.key,it.time,it.weight⟩,0⟩ hb3 hb4 hsz7 Hcs.out ?_;intro v8 w8 o8 g8 l8;obtain⟨a8,c8,rfl⟩:=o8.shape)
       simp only[la_,ls_] at o8;refine⟨⟨pre.length+1,rr,pre++[⟨⟨it.key,it.time,it.weight⟩,0⟩],od2,rc-u2,by omega,by go_num,rfl,?_,hrcu,hrrb,HL2.out,by simp,by rw[←HT.out,HIo.out] <;> rfl,o8,Aq_ HG7.out HO7.out (le_ _) g8⟩,by simp[RowKit.intOf];omega⟩;exact Eh_ HR7.out g8 HL2.out (fun q hq=>(HO7.out.lt q hq).1)
     ·have hvv:verE E=1∨verE E=2:=by unfold verE;rw[if_neg hE];split;exact .inr rfl;exact .inl rfl
      have HIo:=hh_ ((HIN.out (verE E) (by rw[HV.out,if_neg (by omega)])).trans (show _ =(⟨itZ,verE E⟩:InpR) by rw[if_neg (by omega)]));have CV:=hh_ (show Calls prog 84 #[.int .i64 E] w5 (fun e w'=>e=.returned (.int .i64 (verE E))∧w5=w') from Ot_ E w5);generalize verE E=vv at *
      have hv1 :(vv==0)=false:=by simp;omega
      have hv2 :(vv != 0)=true:=by simp;omega
      have HH:=hh_ hvv;clear hvv
      go_upto_region 22 with(go_at_call 84;refine CV.out.mono ?_;rintro e w6 ⟨rfl,rfl⟩)
      have g6:w5.grownBy (((w5.setCell ⟨q4,0,none⟩ (.string ⟨#[]⟩)).setCell ⟨q4,1,none⟩ (.int .i64 0)).setCell ⟨q4,2,none⟩ (.int .u64 0)) (some q4):=Ac_ (Ac_ (Ac_ (Ab_ _ _) _ _) _ _) _ _;have A7:=((A5.out.set_ 0 (.string ⟨#[]⟩) rfl).set_ 1 (.int .i64 0) rfl).set_ 2 (.int .u64 0) rfl;have HG7:=hh_ (Af_ HG5.out g6 (by omega));have HO7:=hh_ (HO5.out.kept g6 (fun q hq e=>by cases e;have:=hOl.out _ hq;omega));have HR7:=hh_ (Eh_ HR5.out g6 HL2.out (fun k e=>by cases e;omega));clear HG5 HO5 HR5 A5 a5 f5 g6;generalize ((w5.setCell _ _).setCell _ _).setCell _ _=w7 at *;have A6:=A7.cell;have Hcs:=hh_ (show(#[Value.string ⟨#[]⟩,.int .i64 0,.int .u64 0,.int .i64 vv]:Array Value).toList=inpF ⟨⟨⟨#[]⟩,0,0⟩,vv⟩ from rfl);have hsz7:w.heap.size≤w7.heap.size:=HG7.out.size
      go_wp2_with (at_builtin;refine A9_ Is_ I7_ Ev_ HO7.out ⟨⟨⟨#[]⟩,0,0⟩,vv⟩ hb3 hb4 hsz7 Hcs.out ?_;intro v8 w8 o8 g8 l8;obtain⟨a8,c8,rfl⟩:=o8.shape)
      simp only[la_,ls_] at o8;refine⟨⟨pre.length+1,rr,pre++[⟨⟨⟨#[]⟩,0,0⟩,vv⟩],od2,rc-u2,by omega,by go_num,rfl,?_,hrcu,hrrb,HL2.out,by simp,by rw[←HT.out,HIo.out] <;> rfl,o8,Aq_ HG7.out HO7.out (le_ _) g8⟩,by simp[RowKit.intOf];omega⟩;exact Eh_ HR7.out g8 HL2.out (fun q hq=>(HO7.out.lt q hq).1)
    ·have CD2:=hj_ hE CD.out
     have hE1 :(rawX r != 0)=true:=by simp[hE]
     have HT:=hh_ (show pre++List.replicate (n-pre.length) inpBad=inputsF most b by rw[←hT,hm1];unfold inpsD;rw[if_pos hE]);generalize rawX r=E at *;have CD3:=hh_ CD2;clear CD CD2 hT hE HRr hg hlow
     go_upto_region 11 with(go_at_call 82;refine CD3.out.mono ?_;rintro e w2 ⟨rfl,g2⟩)
     have g3:=ga_ w2 (.cells #[.slice none 0 0,.int .i64 0,.int .u64 0] 164) none;have G3:=hh_ (Aa_ HG.out (Aa_ g2 g3));have O3:=hh_ (HO.out.same (Aa_ g2 g3));clear HO HG g2 g3 CD3 hE1;generalize w2.alloc _=w3 at *
     go_loopw [8,10] (fun s8 s10 wk=>∃j:Nat,pre.length≤j∧j≤n∧s10=.int .u64 j∧Own inpF 4 114 w.heap.size wk s8 (pre++List.replicate (j-pre.length) inpBad)∧w.grownBy wk none) (fun _ s10 _=>n-(RowKit.intOf s10).toNat)
     case atStart=>exact⟨pre.length,le_ _,by omega,rfl,by rw[Nat.sub_self];simpa using O3.out,G3.out⟩
     case round=>
      clear O3 G3;obtain⟨j,hj0,hj,rfl,hO,hg⟩:=hrel;have HO:=hh_ hO;have HG:=hh_ hg;have hsz:=hg.size
      by_cases hjn:j<n
      ·have hjn1 :(j:Int)<(n:Int):=by omega
       have hl0 :(pre++List.replicate (j-pre.length) inpBad).length=j:=by simp;omega
       have hb3 :((pre++List.replicate (j-pre.length) inpBad).length+1)*40≤140737488355328:=by omega
       have hb4 :(pre++List.replicate (j-pre.length) inpBad).length+1≤9223372036854775807:=by omega
       have Hcs:=hh_ (show(#[Value.string ⟨#[]⟩,.int .i64 0,.int .u64 0,.int .i64 1]:Array Value).toList=inpF inpBad from rfl);have HS:=hh_ (show(pre++List.replicate (j-pre.length) inpBad)++[inpBad]=pre++List.replicate (j+1-pre.length) inpBad by rw[show j+1-pre.length =(j-pre.length)+1 by omega,List.replicate_succ',List.append_assoc]);obtain⟨qa,qc,rfl⟩:=hO.shape;clear hO hg hl0;generalize pre++List.replicate (j-pre.length) inpBad=PR at *
       go_wp2_with (at_builtin;refine A9_ Is_ I7_ Ev_ HO.out inpBad hb3 hb4 hsz Hcs.out ?_;intro v3 w3 o3 g3 l3;obtain⟨a3,c3,rfl⟩:=o3.shape)
       simp only[la_,ls_] at o3;exact⟨⟨j+1,by omega,by omega,by go_num,by rw[←HS.out];exact o3,Aq_ HG.out HO.out (le_ _) g3⟩,by simp[RowKit.intOf];omega⟩
      ·obtain rfl:j=n:=by omega
       clear hO hg hjn
       go_wp2_with fail
       go_ret
       exact HP.out _ HT.out.symm _ _ HO.out HG.out
   ·obtain rfl:pre.length=n:=by omega
    have hnn:¬((pre.length:Int)<(pre.length:Int)):=by omega
    obtain⟨pa,pc,rfl⟩:=hOs
    by_cases h0:r.length=0
    ·have hr0:r=[]:=List.length_eq_zero_iff.1 h0
     have HT:=hh_ (show inputsF most b=pre by rw[←hT,hr0,Nat.sub_self];simp[inpsD])
     have h00:¬(0:Int)<(r.length:Int):=by omega
     clear hT hlow hlt
     go_wp2_with fail
     go_ret
     exact HP.out _ HT.out _ _ HO.out HG.out
    ·have hr0:r≠[]:=fun e=>h0 (by rw[e];rfl)
     have HT:=hh_ (show inputsF most b=pre++[inpBad] by rw[←hT,Nat.sub_self];unfold inpsD;rw[if_pos hr0])
     have h00 :(0:Int)<(r.length:Int):=by omega
     have Hcs:=hh_ (show(#[Value.string ⟨#[]⟩,.int .i64 0,.int .u64 0,.int .i64 1]:Array Value).toList=inpF inpBad from rfl)
     have hb3 :(pre.length+1)*40≤140737488355328:=by omega
     have hb4:pre.length+1≤9223372036854775807:=by omega
     clear hT hlow hlt h0
     go_wp2_with (at_builtin;refine A9_ Is_ I7_ Ev_ HO.out inpBad hb3 hb4 hsz Hcs.out ?_;intro v3 w3 o3 g3 l3;obtain⟨a3,c3,rfl⟩:=o3.shape)
     go_ret
     simp only[la_,ls_] at o3;exact HP.out _ HT.out _ _ o3 (Aq_ HG.out HO.out (le_ _) g3)
end
section
open Go.RowKit Go.Sort
attribute [local go_sem ↓] Ag_
attribute [local go_sem] Ah_
def ptrF (g:Nat):List Value:=[.pointer (some ⟨g,0,none⟩)]
theorem Ct_ (g:Nat) :(ptrF g).length=1:=rfl
theorem Gi_:OneF ptrF:=by intro x u hu;simp[ptrF] at hu;subst hu;rfl
theorem N0_:Elt 153 181 (.pointer none) 1 8:=⟨underlying153,by kernel_rfl,rfl,by decide⟩
theorem Qh_:Elt 152 177 (.agg #[.int .i64 0,.string ⟨#[]⟩,.int .i64 0,.int .u64 0]) 4 40:=⟨underlying152,by kernel_rfl,rfl,by decide⟩
abbrev rshA (c:Cfg) (vq vw vt:Value):Array Value:=#[.int .i64 c.Length,.int .i64 c.Lateness,.int .i64 c.Windows,.int .i64 c.Shards,.int .i64 c.Spread,.int .i64 c.Queue,.int .i64 c.Mode,.int .i64 c.Slots,.int .i64 c.Exact,.int .u64 c.Promote,.int .i64 c.Depth,.int .i64 c.Width,.int .i64 c.Top,.int .i64 c.Key,c.Classes,c.Table,.int .u64 c.Seed,vq,vw,vt]
structure RshG where
 (g:Nat) (vq vw vt:Value) (ts:List RtG)
def RshG.F (G:RshG):Fp:=fun i=>i=G.g∨ownF G.vq i∨ownF G.vw i∨ownF G.vt i∨∃T∈G.ts,T.F i
structure RSh (w:World) (G:RshG) (c:Cfg) (t:List Int) (S:ShM):Prop where
 blk:Blk w G.g (rshA c G.vq G.vw G.vt)
 q:RdL waitF 4 w G.vq S.queue
 qc:∀a n k,G.vq=.slice a n k→n≤k
 ql:Low w (ownF G.vq)
 wn:Own intF 1 3 0 w G.vw S.ws
 tp:Own ptrF 1 181 0 w G.vt (G.ts.map (·.g))
 len:G.ts.length=S.ts.length
 tier:∀(i:Nat) T p,G.ts[i]?=some T→S.ts[i]?=some p→RTier w T c t p.2
 ap:G.ts.Pairwise fun A B=>Off A.F B.F
 n1:¬ownF G.vq G.g
 n2:¬ownF G.vw G.g
 n3:¬ownF G.vt G.g
 n4:∀T∈G.ts,¬T.F G.g
 m1:∀T∈G.ts,Off (ownF G.vq) T.F
 m2:∀T∈G.ts,Off (ownF G.vw) T.F
 m3:∀T∈G.ts,Off (ownF G.vt) T.F
section
variable {w w':World} {G:RshG} {c:Cfg} {t:List Int} {S:ShM}
theorem RSh.tierOf (h:RSh w G c t S) {T:RtG} (hT:T∈G.ts):∃(i:Nat) (p:Int×Ao_),G.ts[i]?=some T∧S.ts[i]?=some p∧RTier w T c t p.2:=by
 obtain⟨i,hi,e⟩:=List.getElem_of_mem hT
 have h1:G.ts[i]?=some T:=by rw[gq_ hi,e]
 have h2:i<S.ts.length:=by rw[←h.len];exact hi
 exact⟨i,S.ts[i],h1,gq_ h2,h.tier i _ _ h1 (gq_ h2)⟩
theorem RSh.low (h:RSh w G c t S):Low w G.F:=fun i hi=>by
 rcases hi with rfl|hi|hi|hi |⟨T,hT,hi⟩
 ·exact h.blk.lt
 ·exact h.ql i hi
 ·exact h.wn.low i hi
 ·exact h.tp.low i hi
 ·obtain⟨_,p,_,_,hR⟩:=h.tierOf hT
  exact hR.low i hi
theorem Br_ {α:Type} {f:α→List Value} {s:Nat} {v:Value} {l:List α} {F:Fp} (h:RdL f s w v l) (k:GrownS F w w') (ho:Off (ownF v) F):RdL f s w' v l:=
 h.keptS k fun _ a n c e hs=>ho a.block (by rw[e];rfl) hs
theorem RSh.keptS {F:Fp} (h:RSh w G c t S) (k:GrownS F w w') (ho:Off G.F F):RSh w' G c t S:=
 ⟨h.blk.keptS k (ho G.g (.inl rfl)),Br_ h.q k (ho.left fun i hi=>.inr (.inl hi)),h.qc,h.ql.up k.size,h.wn.offS k (ho.left fun i hi=>.inr (.inr (.inl hi))),h.tp.offS k (ho.left fun i hi=>.inr (.inr (.inr (.inl hi)))),h.len,
  fun i T p h1 h2=>(h.tier i T p h1 h2).keptS k (ho.left fun j hj=>.inr (.inr (.inr (.inr ⟨T,mo_ h1,hj⟩)))),h.ap,h.n1,h.n2,h.n3,h.n4,h.m1,h.m2,h.m3⟩
theorem RSh.same (h:RSh w G c t S) (k:w.grownBy w' none):RSh w' G c t S:=h.keptS (GrownS.none_ (S:=fun _=>False) k) fun _ _=>id
theorem RSh.setQ {w1:World} (h:RSh w G c t S) (k:w.grownBy w1 none) {v':Value} {q':List B4_} (hq:RdL waitF 4 w1 v' q') (hc:∀a n k,v'=.slice a n k→n≤k) (hl:∀i,ownF v' i→ownF G.vq i∨(w.heap.size≤i∧i<w1.heap.size)) :
  RSh (w1.setCell ⟨G.g,17,none⟩ v') { G with vq:=v' } c t { S with queue:=q' }∧Mov G.F { G with vq:=v' }.F w (w1.setCell ⟨G.g,17,none⟩ v'):=by
 have h1:=h.same k;have hlow:=h.low
 have hg:GrownS (oneF G.g) w1 (w1.setCell ⟨G.g,17,none⟩ v'):=GrownS.of (Ac_ (Ab_ w1 (some G.g)) 17 v') fun k e=>by cases e;rfl
 have hn:¬ownF v' G.g:=fun hi=>by
  rcases hl _ hi with e|e
  ·exact h.n1 e
  ·have:=h.blk.lt;omega
 have hgt:∀T∈G.ts,Off T.F (oneF G.g):=fun T hT i hi e=>h.n4 T hT (by rw[←show i=G.g from e];exact hi)
 refine⟨⟨h1.blk.set_ 17 v' rfl,Br_ hq hg fun i hi e=>hn (by rw[←show i=G.g from e];exact hi),hc,fun i hi=>?_,h1.wn.offS hg fun i hi e=>h.n2 (by rw[←show i=G.g from e];exact hi),h1.tp.offS hg fun i hi e=>h.n3 (by rw[←show i=G.g from e];exact hi),h.len,
  fun i T p e1 e2=>(h1.tier i T p e1 e2).keptS hg (hgt T (mo_ e1)),h.ap,hn,h.n2,h.n3,h.n4,fun T hT i hi hf=>?_,h.m2,h.m3⟩,⟨?_,fun i hi=>?_⟩⟩
 ·rcases hl i hi with e|e
  ·exact ll_ (ll_ (h.ql i e) k.size) hg.size
  ·exact ll_ e.2 hg.size
 ·rcases hl i hi with e|e
  ·exact h.m1 T hT i e hf
  ·have:=hlow i (.inr (.inr (.inr (.inr ⟨T,hT,hf⟩))));omega
 ·exact(GrownS.none_ k).trans hg fun i e _=>.inl e
 ·rcases hi with hi|hi|hi
  ·exact .inl (.inl hi)
  ·rcases hl i hi with e|e
   ·exact .inl (.inr (.inl e))
   ·exact .inr e.1
  ·exact .inl (.inr (.inr hi))
theorem RSh.setT (h:RSh w G c t S) {i:Nat} {T T':RtG} {p:Int×Ao_} {X':Ao_} (hT:G.ts[i]?=some T) (hp:S.ts[i]?=some p) (hR:RTier w' T' c t X') (m:Mov T.F T'.F w w') (hg:T'.g=T.g) :
  RSh w' { G with ts:=G.ts.set i T' } c t { S with ts:=S.ts.set i (p.1,X') }∧Mov G.F { G with ts:=G.ts.set i T' }.F w w':=by
 have hmem:=mo_ hT;have hil:=(gs_ hT).1;have hlow:=h.low
 have ho:∀F:Fp,Low w F→Off F T.F→Off F T'.F:=fun F hl ho=>m.off hl ho
 have hset:∀{U:RtG},U∈G.ts.set i T'→U=T'∨(U∈G.ts∧Off U.F T.F):=by
  intro U hU;obtain⟨j,hj,e⟩:=List.getElem_of_mem hU
  by_cases hij:i=j
  ·subst hij;left;rw[←e];simp
  ·right
   rw[List.getElem_set_ne hij] at e;rw[List.length_set] at hj;refine⟨e▸mg_ _,?_⟩;have hTi:T=G.ts[i]:=(gs_ hT).2.symm;rw[←e,hTi]
   rcases Nat.lt_or_gt_of_ne hij with hlt|hlt
   ·exact(List.pairwise_iff_getElem.1 h.ap i j hil hj hlt).symm
   ·exact List.pairwise_iff_getElem.1 h.ap j i hj hil hlt
 have hlw:∀U∈G.ts,Low w U.F:=fun U hU i hi=>hlow i (.inr (.inr (.inr (.inr ⟨U,hU,hi⟩))))
 refine⟨⟨h.blk.keptS m.grown (h.n4 T hmem),Br_ h.q m.grown (h.m1 T hmem),h.qc,h.ql.up m.size,?_,?_,by simp[h.len],?_,?_,h.n1,h.n2,h.n3,?_,?_,?_,?_⟩,⟨m.grown.mono fun i hi _=>.inr (.inr (.inr (.inr ⟨T,hmem,hi⟩))),?_⟩⟩
 ·have :({ S with ts:=S.ts.set i (p.1,X') }:ShM).ws=S.ws:=by
   unfold ShM.ws;rw[List.map_set]
   refine List.ext_getElem? fun j=>?_
   by_cases hij:i=j
   ·subst hij
    have hl:=(gs_ hp).1;rw[List.getElem?_set_self (by simpa using hl),List.getElem?_map,hp];rfl
   ·rw[List.getElem?_set_ne hij]
  rw[this];exact h.wn.offS m.grown (h.m2 T hmem)
 ·have :(G.ts.set i T').map (·.g)=G.ts.map (·.g):=by
   rw[List.map_set]
   refine List.ext_getElem? fun j=>?_
   by_cases hij:i=j
   ·subst hij
    rw[List.getElem?_set_self (by simpa using hil),List.getElem?_map,hT];simp[hg]
   ·rw[List.getElem?_set_ne hij]
  show Own ptrF 1 _ 0 w' G.vt ((G.ts.set i T').map (·.g))
  rw[this];exact h.tp.offS m.grown (h.m3 T hmem)
 ·intro j U q e1 e2
  by_cases hij:i=j
  ·subst hij
   have hl:=(gs_ hp).1;have e1':some T'=some U:=(List.getElem?_set_self hil).symm.trans e1;have e2':some (p.1,X')=some q:=(List.getElem?_set_self hl).symm.trans e2;cases e1';cases e2';exact hR
  ·have e1':G.ts[j]?=some U:=(List.getElem?_set_ne hij).symm.trans e1
   have e2':S.ts[j]?=some q:=(List.getElem?_set_ne hij).symm.trans e2;refine(h.tier j U q e1' e2').keptS m.grown ?_
   rcases hset (mo_ e1) with e|e
   ·have hj:=(gs_ e1').1
    have hTi:T=G.ts[i]:=(gs_ hT).2.symm;have hUj:U=G.ts[j]:=(gs_ e1').2.symm;rw[hTi,hUj]
    rcases Nat.lt_or_gt_of_ne hij with hlt|hlt
    ·exact(List.pairwise_iff_getElem.1 h.ap i j hil hj hlt).symm
    ·exact List.pairwise_iff_getElem.1 h.ap j i hj hil hlt
   ·exact e.2
 ·refine List.pairwise_iff_getElem.2 fun a b ha hb hab=>?_
  rw[List.length_set] at ha hb;have hT0:T=G.ts[i]:=(gs_ hT).2.symm
  by_cases hia:i=a
  ·subst hia
   simp only[List.getElem_set_self,List.getElem_set_ne (show i≠b by omega)]
   have:=(List.pairwise_iff_getElem.1 h.ap i b ha hb hab).symm
   rw[←hT0] at this;exact(ho _ (hlw _ (mg_ _)) this).symm
  ·by_cases hib:i=b
   ·subst hib
    simp only[List.getElem_set_self,List.getElem_set_ne hia]
    have:=List.pairwise_iff_getElem.1 h.ap a i ha hb hab
    rw[←hT0] at this;exact ho _ (hlw _ (mg_ _)) this
   ·simp only[List.getElem_set_ne hia,List.getElem_set_ne hib]
    exact List.pairwise_iff_getElem.1 h.ap a b ha hb hab
 ·intro U hU
  rcases hset hU with rfl|hU
  ·intro hf
   exact ho (oneF G.g) (fun j e=>by rw[show j=G.g from e];exact h.blk.lt) (fun j e hf=>h.n4 T hmem (by rw[←show j=G.g from e];exact hf)) G.g rfl hf
  ·exact h.n4 U hU.1
 ·intro U hU
  rcases hset hU with rfl|hU
  ·exact ho _ h.ql (h.m1 T hmem)
  ·exact h.m1 U hU.1
 ·intro U hU
  rcases hset hU with rfl|hU
  ·exact ho _ h.wn.low (h.m2 T hmem)
  ·exact h.m2 U hU.1
 ·intro U hU
  rcases hset hU with rfl|hU
  ·exact ho _ h.tp.low (h.m3 T hmem)
  ·exact h.m3 U hU.1
 ·intro j hj
  rcases hj with hj|hj|hj|hj |⟨U,hU,hj⟩
  ·exact .inl (.inl hj)
  ·exact .inl (.inr (.inl hj))
  ·exact .inl (.inr (.inr (.inl hj)))
  ·exact .inl (.inr (.inr (.inr (.inl hj))))
  ·rcases hset hU with rfl|hU
   ·exact(m.new j hj).imp (fun e=>.inr (.inr (.inr (.inr ⟨T,hmem,e⟩)))) id
   ·exact .inl (.inr (.inr (.inr (.inr ⟨U,hU.1,hj⟩))))
end
end
section
open Go.RowKit Go.Sort
attribute [local go_sem ↓] Ag_
attribute [local go_sem] Ah_
theorem Z1_ (v:Value) (q:List B4_) (win:Int) (w:World) (h:RdL waitF 4 w v q) (hl:q.length≤1000000000) :
  Calls prog 91 #[v,.int .i64 win] w (RetInt (untilQ q win) w):=by
 obtain⟨a,c,rfl⟩:=h.shape;have H:=hh_ h;clear h
 go_enter func91,ntmps91
 go_upto_region 3 with fail
 go_loopw [5,10] (fun s5 s10 wk=>∃k:Nat,k≤q.length∧s10=.int .i64 k∧s5=.int .i64 (untilQ (q.take k) win)∧w.grownBy wk none) (fun _ s10 _=>q.length-(RowKit.intOf s10).toNat)
 case atStart=>exact⟨0,zl_ _,rfl,rfl,Ab_ _ _⟩
 case round=>
  obtain⟨k,hk,rfl,rfl,hg⟩:=hrel
  by_cases hlt:k<q.length
  ·obtain⟨g,off,cap,hv,hgl,hc⟩:=(RdL.same H.out hg).at_ Bz_ hlt
   cases hv;have c0:=hc 0 _ rfl;have c1:=hc 1 _ rfl;have c2:=hc 2 _ rfl;have c3:=hc 3 _ rfl;rw[Nat.add_zero] at c0;have HS:=hh_ (Fk_ win hlt);have HG:=hh_ hg;clear hc hg;generalize q[k]=x at *;have A2:=(Blk.new wr #[.int .i64 x.win,.string x.it.key,.int .i64 x.it.time,.int .u64 x.it.weight] 177).cell;have K2:=hh_ (Aa_ HG.out (ga_ wr (.cells #[.int .i64 x.win,.string x.it.key,.int .i64 x.it.time,.int .u64 x.it.weight] 177) none));generalize untilQ (q.take k) win=U at *
   by_cases hw:x.win≤win
   ·have HS2:=hh_ (HS.out.trans (if_pos hw))
    clear HS
    go_wp2_with fail
    exact⟨⟨k+1,by omega,by go_num,by rw[HS2.out];go_num,K2.out⟩,by simp[RowKit.intOf];omega⟩
   ·have hw':win<x.win:=by omega
    have HS2:=hh_ (HS.out.trans (if_neg hw));clear HS hw
    go_wp2_with fail
    exact⟨⟨k+1,by omega,by go_num,by rw[HS2.out],K2.out⟩,by simp[RowKit.intOf];omega⟩
  ·obtain rfl:k=q.length:=by omega
   rw[List.take_length]
   go_wp2_with fail
   go_ret
   exact⟨rfl,hg⟩
theorem RSh.new {g:Nat} {c:Cfg} (h:Blk w g (rshA c (.slice none 0 0) (.slice none 0 0) (.slice none 0 0))):RSh w ⟨g,.slice none 0 0,.slice none 0 0,.slice none 0 0,[]⟩ c t ⟨[],[]⟩:=
 ⟨h,(Own.nil waitF 4 177 0 w).rd,fun a n k e=>by cases e;omega,fun i hi=>absurd hi (Ax_ i),Own.nil _ _ _ _ _,Own.nil _ _ _ _ _,rfl,by simp,by simp,Ax_ _,Ax_ _,Ax_ _,by simp,by simp,by simp,by simp⟩
theorem Zn_ (c:Cfg) (t:List Int) (w:World):Calls prog 43 #[c.val] w (fun e w'=>∃G,e=.returned (.pointer (some ⟨G.g,0,none⟩))∧RSh w' G c t ⟨[],[]⟩∧(∀i,G.F i→w.heap.size≤i)∧w.grownBy w' none):=by
 go_enter func43,ntmps43
 go_upto_region 1 with(refine At_ rfl _ rfl c rfl ?_;intro w1 B1 G1 z1)
 go_wp2_with (refine An_ rfl _ rfl _ rfl c B1 ?_)
 go_ret
 have HB:=hh_ (Blk.new w1 (rshA c (.slice none 0 0) (.slice none 0 0) (.slice none 0 0)) 155);have g2:=ga_ w1 (.cells (rshA c (.slice none 0 0) (.slice none 0 0) (.slice none 0 0)) 155) none;refine⟨⟨w1.heap.size,.slice none 0 0,.slice none 0 0,.slice none 0 0,[]⟩,rfl,RSh.new HB.out,fun i hi=>?_,Aa_ G1 g2⟩
 rcases hi with hi|hi|hi|hi |⟨T,hT,_⟩
 ·exact lt_ G1.size (Nat.le_of_eq (Eq.symm hi))
 ·exact absurd hi (Ax_ i)
 ·exact absurd hi (Ax_ i)
 ·exact absurd hi (Ax_ i)
 ·simp at hT
def Ik_ (G:RshG) (S:ShM) (win:Int):Value:=match posW S.ws win with
 | some i=>.pointer ((G.ts[i]?).map fun T=>⟨T.g,0,none⟩)
 | none=>.pointer none
theorem I1_ (G:RshG) (c:Cfg) (t:List Int) (S:ShM) (win:Int) (w:World) (h:RSh w G c t S):Calls prog 93 #[.pointer (some ⟨G.g,0,none⟩),.int .i64 win] w (Cq_ (Ik_ G S win) w):=by
 have b0:=h.blk.cell;have H:=hh_ h;obtain⟨wa,wc,hw⟩:=h.wn.shape;obtain⟨ta,tc,ht⟩:=h.tp.shape;have hm:=h.wn.rd.2.1
 have hwl :(G.ts.map (·.g)).length=S.ws.length:=by simp[h.len,ShM.ws]
 rw[hw,ht] at b0;rw[hwl] at b0;clear h
 go_enter func93,ntmps93
 go_upto_region 2 with fail
 clear b0
 go_loopw [12] (fun s12 wk=>∃k:Nat,k≤S.ws.length∧s12=.int .i64 k∧(∀j,j<k→S.ws[j]?≠some win)∧w.grownBy wk none) (fun s12 _=>S.ws.length-(RowKit.intOf s12).toNat)
 case atStart=>exact⟨0,zl_ _,rfl,fun j hj=>absurd hj (by omega),Ab_ _ _⟩
 case round=>
  obtain⟨k,hk,rfl,hn,hg⟩:=hrel;have HN:=hh_ hn;have HG:=hh_ hg
  by_cases hlt:k<S.ws.length
  ·obtain⟨g,cp,hv,_,_,_,hc,_⟩:=(H.out.wn.same hg).at_ Bc_ hlt
   rw[hw] at hv;cases hv;have c0:=hc 0 _ rfl;rw[Nat.mul_one,Nat.add_zero] at c0
   have hkt:k<(G.ts.map (·.g)).length:=by omega
   obtain⟨g2,cp2,hv2,_,_,_,hc2,_⟩:=(H.out.tp.same hg).at_ Ct_ hkt;rw[ht] at hv2;cases hv2;have d0:=hc2 0 _ rfl;rw[Nat.mul_one,Nat.add_zero] at d0;clear hc hc2 hn;have b0:=(H.out.same hg).blk.cell;rw[hw,ht] at b0;rw[hwl] at b0;have HW:=hh_ (show S.ws[k]?=some S.ws[k] from gq_ hlt)
   have hkt2:k<G.ts.length:=by simpa using hkt
   have HT:G.ts[k]?=some G.ts[k]:=gq_ hkt2;have HT2:=hh_ HT;rw[List.getElem_map] at d0
   have hklt :(k:Int)<(S.ws.length:Int):=by omega
   generalize S.ws[k]=x at *;generalize G.ts[k]=T at *;clear HT hg
   by_cases hx:x=win
   ·subst hx
    have HP:=hh_ (P0_ (fun j hj=>HN.out j hj) HW.out)
    go_wp2_with fail
    go_ret
    exact⟨by unfold Ik_;rw[HP.out];dsimp only;rw[HT2.out];rfl,HG.out⟩
   ·have hx' :(x==win)=false:=bf_ hx
    have HX:=hh_ hx;clear hx
    go_wp2_with fail
    refine⟨⟨k+1,by omega,by go_num,fun j hj=>?_,HG.out⟩,by simp[RowKit.intOf];omega⟩
    by_cases hj2:j=k
    ·subst hj2;rw[HW.out];intro e;exact HX.out (Option.some.inj e)
    ·exact HN.out j (by omega)
  ·obtain rfl:k=S.ws.length:=by omega
   have HP:=hh_ (show posW S.ws win=none by
    rw[C0_];intro hm;obtain⟨j,hj,e⟩:=List.getElem_of_mem hm
    exact hn j hj (by rw[gq_ hj,e]))
   have hnn:¬(S.ws.length:Int)<(S.ws.length:Int):=by omega
   clear hn hlt
   go_wp2_with fail
   go_ret
   exact⟨by unfold Ik_;rw[HP.out];rfl,HG.out⟩
end
section
open Go.RowKit Go.Sort
def sumOf:Option Ao_→Int×List Ent×Int×List (List Int)
 | some X=>(X.sum,X.entries,X.T.base,X.rows)
 | none=>(0,[],0,[])
def Uy_ (o:Option Ao_) (w:World) (e:Ending) (w':World):Prop:=
 ∃ve vr vs,e=.returned (.agg #[.int .u64 (sumOf o).1,ve,.int .u64 (sumOf o).2.2.1,vr])∧OSum w.heap.size w' ve vr vs (sumOf o).2.1 (sumOf o).2.2.2∧w.grownBy w' none
theorem OSum.nil (B:Nat) (w:World):OSum B w (.slice none 0 0) (.slice none 0 0) [] [] []:=⟨Own.nil _ _ _ _ _,ORows.nil _,fun i hi=>by rcases hi with hi |⟨u,hu,_⟩;exact absurd hi (Ax_ i);simp at hu⟩
theorem OSum.keptS {B:Nat} {ve vr:Value} {vs:List SlR} {es:List Ent} {rows:List (List Int)} {S:Fp} (h:OSum B w ve vr vs es rows) (k:GrownS S w w') (hS:∀i,S i→i<B):OSum B w' ve vr vs es rows:=
 ⟨h.es.keptS k fun g hg hs=>by have:=(h.es.lt g hg).1;have:=hS g hs;omega,h.rows.keptS k fun i hi hs=>by have:=h.base i hi;have:=hS i hs;omega,h.base⟩
theorem OSum.base' {B B':Nat} {ve vr:Value} {vs:List SlR} {es:List Ent} {rows:List (List Int)} (h:OSum B w ve vr vs es rows) (hB:B'≤B):OSum B' w ve vr vs es rows:=
 ⟨h.es.base fun k hk=>lt_ hB (h.es.lt k hk).1,h.rows,fun i hi=>lt_ hB (h.base i hi)⟩
theorem Jv_ {S:ShM} {win:Int} {i:Nat} (h:posW S.ws win=some i):∃p,S.ts[i]?=some p∧p.1=win∧tierAt S.ts win=some p.2:=by
 obtain⟨h1,_⟩:=Cz_ h;unfold ShM.ws at h1;rw[List.getElem?_map] at h1
 cases hp:S.ts[i]? with
 | none=>rw[hp] at h1;simp at h1
 | some p=>
  rw[hp] at h1;refine⟨p,rfl,by simpa using h1,?_⟩;unfold tierAt;rw[show posW (S.ts.map (·.1)) win=some i from h];dsimp only;rw[hp];rfl
theorem Iw_ {S:ShM} {win:Int} (h:posW S.ws win=none):tierAt S.ts win=none:=by
 unfold tierAt;rw[show posW (S.ts.map (·.1)) win=none from h]
theorem a2_ (G:RshG) (c:Cfg) (t:List Int) (S:ShM) (win:Int) (w:World) (h:RSh w G c t S) (hok:ShOk c S) (hn:Bl_ c):Calls prog 56 #[.pointer (some ⟨G.g,0,none⟩),.int .i64 win] w (Uy_ (tierAt S.ts win) w):=by
 have CT:=hh_ fun y (q:w.grownBy y none)=>I1_ G c t S win y (h.same q)
 have AR:=Blk.new w #[.int .u64 0,.slice none 0 0,.int .u64 0,.slice none 0 0] 129;have gR:=ga_ w (.cells #[.int .u64 0,.slice none 0 0,.int .u64 0,.slice none 0 0] 129) none
 have hz:w.heap.size<(w.alloc (.cells #[.int .u64 0,.slice none 0 0,.int .u64 0,.slice none 0 0] 129)).heap.size:=by simp
 cases hp:posW S.ws win with
 | none=>
  have HT:=hh_ (show Ik_ G S win=.pointer none by unfold Ik_;rw[hp]);rw[HT.out] at CT;rw[Iw_ hp];clear h hp hok
  go_enter func56,ntmps56
  go_upto_region 1 with fail
  generalize w.alloc _=w1 at *;generalize hq:w.heap.size=q at *;have HQ:=hh_ hq;clear hq
  go_upto_region 3 with(go_at_call 93;refine(CT.out _ gR).mono ?_;rintro e w2 ⟨rfl,g2⟩)
  have A2:=AR.same g2;have K2:=Aa_ gR g2;have hg:w2.grownBy ((((w2.setCell ⟨q,0,none⟩ (.int .u64 0)).setCell ⟨q,1,none⟩ (.slice none 0 0)).setCell ⟨q,2,none⟩ (.int .u64 0)).setCell ⟨q,3,none⟩ (.slice none 0 0)) (some q):=Ac_ (Ac_ (Ac_ (Ac_ (Ab_ _ _) _ _) _ _) _ _) _ _;have Hrc:=hh_ ((((A2.set_ 0 (.int .u64 0) rfl).set_ 1 (.slice none 0 0) rfl).set_ 2 (.int .u64 0) rfl).set_ 3 (.slice none 0 0) rfl).cell;have hr:=A2.cell;have hf:=A2.free
  go_wp2_with fail
  have rc:=Hrc.out;refine bodyPost_ret (v:=.agg #[.int .u64 0,.slice none 0 0,.int .u64 0,.slice none 0 0]) (by simp[results,results56,go_sem,rc]) rfl ?_;exact⟨_,_,[],rfl,OSum.nil _ _,Af_ K2 hg (by have:=HQ.out;omega)⟩
 | some i=>
  obtain⟨p,hpi,hpw,hta⟩:=Jv_ hp;have hlen:=h.len
  have hil:i<G.ts.length:=by have:=(gs_ hpi).1;omega
  have hTi:G.ts[i]?=some G.ts[i]:=gq_ hil;have HT:=hh_ (show Ik_ G S win=.pointer (some ⟨(G.ts[i]).g,0,none⟩) by unfold Ik_;rw[hp];dsimp only;rw[hTi];rfl);rw[HT.out] at CT;rw[hta];have hR:=h.tier i _ p hTi hpi;have hX:=(hok.tiers p (mo_ hpi)).2
  have CS:=hh_ fun y (q:w.grownBy y none)=>ei_ G.ts[i] c t p.2 y (hR.same q) hX hn
  generalize G.ts[i]=T at *;obtain⟨pw,X⟩:=p;dsimp only at *;clear h hp hok hTi HT hta hpi hlen hil hpw
  go_enter func56,ntmps56
  go_upto_region 1 with fail
  generalize w.alloc _=w1 at *;generalize hq:w.heap.size=q at *;have HQ:=hh_ hq;clear hq
  go_upto_region 4 with(go_at_call 93;refine(CT.out _ gR).mono ?_;rintro e w2 ⟨rfl,g2⟩)
  have A2:=hh_ (AR.same g2);have K2:=hh_ (Aa_ gR g2);have hz2:=g2.size;have CS2:=hh_ (CS.out _ K2.out);clear AR gR g2 CS CT
  go_wp2_with (go_at_call 94;refine CS2.out.mono ?_;rintro e w3 ⟨ve,vr,vs,rfl,O3,g3⟩;obtain⟨a1,c1,rfl⟩:=O3.es.shape;obtain⟨a2,c2,rfl⟩:=O3.rows.own.shape;have A3:=A2.out.same g3;have hr:=A3.cell;have hf:=A3.free;have HO3:=hh_ O3;have HA3:=hh_ A3;have HK3:=hh_ (Aa_ K2.out g3);clear O3 A3 g3)
  have rc:=((((HA3.out.set_ 0 (.int .u64 X.sum) rfl).set_ 1 (.slice a1 X.entries.length c1) rfl).set_ 2 (.int .u64 X.T.base) rfl).set_ 3 (.slice a2 vs.length c2) rfl).cell;have hg:w3.grownBy ((((w3.setCell ⟨q,0,none⟩ (.int .u64 X.sum)).setCell ⟨q,1,none⟩ (.slice a1 X.entries.length c1)).setCell ⟨q,2,none⟩ (.int .u64 X.T.base)).setCell ⟨q,3,none⟩ (.slice a2 vs.length c2)) (some q):=Ac_ (Ac_ (Ac_ (Ac_ (Ab_ _ _) _ _) _ _) _ _) _ _;refine bodyPost_ret (v:=.agg #[.int .u64 X.sum,.slice a1 X.entries.length c1,.int .u64 X.T.base,.slice a2 vs.length c2]) (by simp[results,results56,go_sem,rc]) rfl ?_;have hqq:=HQ.out;exact⟨_,_,vs,rfl,(HO3.out.keptS (GrownS.of (S:=oneF q) hg fun k e=>by cases e;rfl) fun i e=>by have:i=q:=e;omega).base' (by omega),Af_ HK3.out hg (by omega)⟩
theorem dw_ {α:Type} (Q:List α) (x:α):∀T:List α,(T <+: Q++[x]∨T=[x])→T.length≤Q.length∨T <+: Q++[x]∨Q++[x] <+: T:=by
 intro T h
 rcases h with h|rfl
 ·exact .inr (.inl h)
 ·cases Q with
  | nil=>exact .inr (.inl (List.prefix_refl _))
  | cons a Q=>left;simp
theorem e0_ (G:RshG) (c:Cfg) (t:List Int) (S:ShM) (win:Int) (it:ItR) (w:World) (h:RSh w G c t S) (hq :(S.queue.length:Int)<c.Queue) (hQ:c.Queue≤1000) (hk:0<it.key.size∧it.key.size≤255) :
  Calls prog 52 #[.pointer (some ⟨G.g,0,none⟩),.int .i64 win,.agg #[.string it.key,.int .i64 it.time,.int .u64 it.weight]] w (fun e w'=>e=.returned (.int .i64 0)∧∃G',RSh w' G' c t (pushS S win it)∧Mov G.F G'.F w w'∧G'.g=G.g):=by
 obtain⟨Q,ts⟩:=S;have H:=hh_ h;obtain⟨qa,qc,hqv⟩:=h.q.shape;dsimp only at hqv hq
 have b0:=hh_ fun y (q:w.grownBy y none)=>(h.same q).blk
 have hqcap:=h.qc _ _ _ hqv;have hQR:=h.q;have hQl:=h.ql;have hgl:=h.blk.lt;rw[hqv] at b0 hQR hQl
 have hk1:it.key.toList.isEmpty=false:=by rw[Bm_];exact df_ (by omega)
 have hk2 :(it.key.size:Int)≤255:=by omega
 have hnq:¬c.Queue≤(Q.length:Int):=by omega
 clear h
 go_enter func52,ntmps52
 go_upto_region 1 with fail
 have A1:=Blk.new w #[.string it.key,.int .i64 it.time,.int .u64 it.weight] 41;have g1:=ga_ w (.cells #[.string it.key,.int .i64 it.time,.int .u64 it.weight] 41) none
 have hz1:w.heap.size<(w.alloc (.cells #[.string it.key,.int .i64 it.time,.int .u64 it.weight] 41)).heap.size:=by simp
 generalize w.alloc _=w1 at *;generalize hqb:w.heap.size=bx at *;have HBX:=hh_ hqb;clear hqb;have c1:=(b0.out _ g1).cell;have a1:=A1.cell
 go_quiet (fail)
 go_upto_region 7 with fail
 have KN:w.grownBy (w1.drewN nq) none:=Aa_ g1 gw_;have AN:=A1.same (w':=w1.drewN nq) gw_;have hzN:bx<(w1.drewN nq).heap.size:=hz1;clear c1 a1 A1 g1 hz1;generalize w1.drewN nq=w2 at *;have KN2:w2.grownBy w2.drew none:=gw_;obtain⟨N,hN⟩:∃N,w2.heap.size=N:=⟨_,rfl⟩;have HN2:=hh_ (show N≤w2.drew.heap.size from Nat.le_of_eq hN.symm);have HBl:=(b0.out _ KN)
 have hbN:G.g<N:=by have:=HBl.lt;omega
 have hxN:bx<N:=by omega
 have HB:=hh_ (HBl.same KN2);have HX:=hh_ (AN.same KN2);have HO:=hh_ ((RdL.same hQR KN).same KN2);have HOb:=hh_ (show ∀a n k,Value.slice qa Q.length qc=.slice (some a) n k→a.block<N from fun a n k e=>by have:=hQl a.block (by rw[e];rfl);have:=KN.size;omega);have HNN:=hh_ hN;obtain⟨P,hP⟩:∃P:List B4_→Prop,P=fun T=>T <+: Q++[⟨win,it⟩]∨T=[⟨win,it⟩]:=⟨_,rfl⟩;have HP0:=hh_ (show P [] by rw[hP];exact .inl List.nil_prefix);have HP1:=hh_ (show P Q by rw[hP];exact .inl (List.prefix_append _ _));have HPx:=hh_ (show P [⟨win,it⟩] by rw[hP];exact .inr rfl);have HPF:=hh_ (show P (Q++[⟨win,it⟩]) by rw[hP];exact .inl (List.prefix_refl _));have HP2:=hh_ (show ∀T,P T→T.length≤Q.length∨T <+: Q++[⟨win,it⟩]∨Q++[⟨win,it⟩] <+: T by rw[hP];exact dw_ Q ⟨win,it⟩)
 have hb2:Q.length*40≤140737488355328:=by omega
 have hb3:Q.length≤9223372036854775807:=by omega
 have hb4 :(Q.length+1)*40≤140737488355328:=by omega
 have hb5:Q.length+1≤9223372036854775807:=by omega
 clear hP hN hnq hk1 hk2 HBl AN hQR hQl KN2
 (refine Rg.wp_region_rgZ 14 #[] (Keep waitF 4 177 N P) (fun _ _ _ _ _=>False) (by kernel_rfl) (by kernel_rfl) (Keep.refl _ _ _ _ _) (fun _ _ _ h k=>h.trans k) (fun _ _ _ _ _ h=>h) ?_;simp only[List.take,List.drop])
 have HWD:=hh_ (show w2.grownBy w2.drew none from gw_);generalize w2.drew=wd at *
 (refine tq_ 1 ?_;(repeat(go_big_quiet_step (fail)));refine wn_ ?_)
 (refine to_ ?_;intro y1 my1 dy1)
 clear dy1;have z1:=lt_ HN2.out my1.grown.size
 go_wp2_with fail
 refine⟨Keep.of (ga_ _ _ _),?_⟩;have N1:=A0_ (e:=177) waitF 4 z1;generalize y1.alloc _=e1 at *;generalize y1.heap.size=g1 at *
 (refine tq_ 3 ?_;(repeat(go_big_quiet_step (fail)));refine wn_ ?_)
 (refine to_ ?_;intro y5 my5 dy5)
 clear dy5;have ax:=(my5.blk HB.out hbN).cell
 go_wp2_with fail
 refine⟨Keep.refl _ _ _ _ _ _,?_⟩;clear ax
 (refine to_ ?_;intro y6 my6 dy6)
 have N6:=(dy6.out 1 (by omega) (by kernel_rfl)).own [] _ HP0.out N1;have R6:=my6.rd HO.out (fun _ a n c e=>HOb.out a n c e);have z6:=lt_ HN2.out my6.grown.size;clear dy6
 go_wp2_with (at_builtin;refine A5_ Qh_ Rx_ N6 R6 rfl hb2 hb3 z6 ?_;intro v6 e6 o6 g6 l6;have Hg6:=hh_ g6;clear g6 l6)
 refine⟨Keep.of Hg6.out,?_⟩;clear N6 R6 z6 N1 my5 my1 z1
 (refine tq_ 1 ?_;(repeat(go_big_quiet_step (fail)));refine wn_ ?_)
 (refine to_ ?_;intro y8 my8 dy8)
 clear dy8;have ax:=(my8.blk HX.out hxN).cell
 go_wp2_with fail
 refine⟨Keep.refl _ _ _ _ _ _,?_⟩;clear ax
 (refine tq_ 1 ?_;(repeat(go_big_quiet_step (fail)));refine wn_ ?_)
 (refine to_ ?_;intro y10 my10 dy10)
 clear dy10;have z10:=lt_ HN2.out my10.grown.size
 go_wp2_with fail
 refine⟨Keep.of (ga_ _ _ _),?_⟩;have N10:Own waitF 4 177 N (y10.alloc (.cells #[.int .i64 win,.string it.key,.int .i64 it.time,.int .u64 it.weight] 177)) (.slice (some ⟨y10.heap.size,0,none⟩) 1 1) [⟨win,it⟩]:=Cb_ Bz_ y10 z10 ⟨win,it⟩ _ rfl;generalize y10.alloc _=e10 at *;generalize y10.heap.size=g10 at *
 (refine to_ ?_;intro y11 my11 dy11)
 have N11:=(dy11.out 6 (by omega) (by kernel_rfl)).own _ _ HP1.out o6;have R11:=((dy11.out 10 (by omega) (by kernel_rfl)).own _ _ HPx.out N10).rd;have z11:=lt_ HN2.out my11.grown.size;clear dy11
 go_wp2_with (at_builtin;refine Bh_ Qh_ Rx_ Bz_ N11 R11 rfl hb4 hb5 z11 HP2.out ?_;intro v11 e11 o11 k11;have Hk11:=hh_ k11;clear k11)
 refine⟨Hk11.out,?_⟩;clear N11 R11 z11 N10 z10 my10 my11 o6 my8
 (refine tq_ 2 ?_;(repeat(go_big_quiet_step (fail)));refine wn_ ?_)
 (refine Rg.tree_nil ?_;intro z mz dz cz)
 have OZ:=(dz.out 11 (by omega)).own _ _ HPF.out o11;have AZ:=mz.blk HB.out hbN;have GZ:=mz.grown;clear dz cz o11 Hg6 Hk11 mz;obtain⟨a11,c11,rfl⟩:=OZ.shape;have KZ:w.grownBy z none:=Aa_ KN (((GrownS.none_ (S:=fun i=>N≤i) (show w2.grownBy wd none from HWD.out)).trans GZ (fun _ hi _=>hi)).back fun i hi=>by have:=HNN.out;omega);obtain⟨R,M⟩:=H.out.setQ KZ OZ.rd (fun a n k e=>by cases e;exact OZ.cap) (fun i hi=>.inr ⟨by have h1:=(OZ.lt i hi).1;have:=HNN.out;have:=KN.size;omega,(OZ.lt i hi).2⟩);simp only[la_,ls_] at R M;have HR:=hh_ R;have HM:=hh_ M;have az:=AZ.cell;have fz:=AZ.free;clear R M OZ AZ GZ KZ
 go_wp2_with fail
 go_ret
 exact⟨rfl,_,HR.out,HM.out,rfl⟩
end
section
open Go.RowKit
theorem We_ :(prog.info? 65).map (·.size)=some 6:=by kernel_rfl
abbrev op0:Array Value:=opA 0 (.slice none 0 0) 0 0 ⟨#[]⟩ (.slice none 0 0)
theorem Nw_ (w:World) :(Instr.alloc 65 true (.tuple #[])).run prog w=.ok (.pointer (some ⟨w.heap.size,0,none⟩)) (w.alloc (.cells op0 65)):=by kernel_rfl
theorem Zr_ {rest:List Oper} (hgd:o.guard=none) (ho:o.op=.alloc 65)
  (h:∀w',Blk w' w.heap.size op0→w.grownBy w' none→w.heap.size<w'.heap.size→wpList prog ops Q rest (a.put o.dst (.pointer (some ⟨w.heap.size,0,none⟩))) w'):wpList prog ops Q (o::rest) a w:=
 wpList_plain hgd fun _ hK=>by
  unfold Oper.wp execOp;simp only[ho,Nw_,Sem.run_bind,Sem.run_pure,Result.andThen_ok];exact hK _ _ (h _ (Blk.new w _ _) (ga_ w _ _) (by simp))
theorem Yt_ {rest:List Oper} (hgd:o.guard=none) (x y:Operand) (ho:o.op=.store 65 x y)
  (b:Nat) (hx:a.eval x=.pointer (some ⟨b,0,none⟩)) {kind time shard:Int} {key:ByteArray} {vd vp:Value} (hy:a.eval y=opV kind vd time shard key vp) (h1:vd.oneCell'=true) (h2:vp.oneCell'=true) (c0:Array Value) (hs:c0.size=6) (hb:Blk w b c0)
  (h:∀w',Blk w' b (opA kind vd time shard key vp)→w.grownBy w' (some b)→wpList prog ops Q rest (a.put o.dst undef) w'):wpList prog ops Q (o::rest) a w:=by
 obtain⟨t,hbl⟩:=hb.blk;have hst:=run_storeCells_at prog b 0 t (opA kind vd time shard key vp).toList 0 c0 w hbl (by simp[hs]) (by intro v hv;simp at hv;rcases hv with rfl|rfl|rfl|rfl|rfl|rfl <;> first|rfl|assumption)
 have hz :(sizeOf 65).run prog w=.ok 6 w:=by
  have:=We_
  cases hq:prog.info? 65 with
  | none=>rw[hq] at this;simp at this
  | some i=>rw[hq] at this;simp[sizeOf,typeInfo,hq];simpa using this
 refine wpList_plain hgd fun _ hK=>?_
 unfold Oper.wp execOp;simp only[ho,hx,hy,Instr.storeAt,Instr.sureAddr,storeVar,Sem.run_bind,Sem.run_pure,Result.andThen_ok,hz];simp only[Value.cells,List.size_toArray,lc_,List.length_nil,Nat.reduceAdd,ne_eq,not_true_eq_false,if_false];rw[hst];refine hK _ _ (h _ ⟨t,?_⟩ ⟨rfl,rfl,rfl,by simp,fun k _ hk=>setRow_other w b k _ (fun e=>hk (by simp[e]))⟩);rw[setRow_heap w b c0 _ t _ hbl];obtain⟨l,rfl⟩:∃l:List Value,c0=l.toArray:=⟨c0.toList,by simp⟩
 match l,hs with
 | [_,_,_,_,_,_],_=>rfl
theorem E8_ {P:Program} (w:World) (g off:Nat) (ty:TypeId) (cs:Array Value) (d:TypeDesc) (hc:∀j v,cs[j]?=some v→w.cell? ⟨g,off+j,none⟩=some v)
  (hu:P.underlying ty=some d) (hd :(match d with | .struct _ | .array _ _=>true | _=>false)=true) (hi :(P.info? ty).map (·.size)=some cs.size) :
  (loadVar ty ⟨g,off,none⟩).run P w=.ok (.agg cs) w:=by
 have hl :(loadCells ⟨g,off,none⟩ cs.toList.length).run P w=.ok cs.toList.toArray w:=
  run_loadCells_list (P:=P) w ⟨g,off,none⟩ cs.toList (fun j v hv=>by
   have hadd :(⟨g,off,none⟩:Addr).add j =⟨g,off+j,none⟩:=by unfold Addr.add;split <;> simp_all
   rw[hadd]
   exact hc j v (by simpa using hv))
 cases hq:P.info? ty with
 | none=>simp[hq] at hi
 | some i=>
  have hs:i.size=cs.size:=by simpa [hq] using hi
  have hagg :(isAgg ty).run P w=.ok true w:=by
   unfold isAgg;rw[Sem.run_bind,run_underlying hu w];cases d <;> simp_all
  simp only[Array.length_toList,Array.toArray_toList] at hl
  simp[loadVar,Sem.run_bind,hagg,sizeOf,typeInfo,hq,hs,hl]
theorem Su_ {rest:List Oper} (hgd:o.guard=none) (x:Operand) (ho:o.op=.load 65 x)
  (b off:Nat) (hx:a.eval x=.pointer (some ⟨b,off,none⟩)) {r:OpR} (hc:∀j v,(opF r)[j]?=some v→w.cell? ⟨b,off+j,none⟩=some v) (h:wpList prog ops Q rest (a.put o.dst (opV r.kind r.vd r.time r.shard r.key r.vp)) w):wpList prog ops Q (o::rest) a w:=
 wpList_plain hgd fun _ hK=>by
  unfold Oper.wp execOp;simp only[ho,hx,Instr.loadAt,Instr.sureAddr,Sem.run_bind,Sem.run_pure,Result.andThen_ok,E8_ w b off _ (opA r.kind r.vd r.time r.shard r.key r.vp) _ (fun j v hv=>hc j v (by simpa [opF,opA] using hv)) underlying65 rfl We_];exact hK _ _ h
end
section
open Go.RowKit Go.Sort
def bx_ (w:World) (b:Nat) (c:Cfg):Prop:=∀j v,c.arr[j]?=some v→w.cell? ⟨b,0+j,none⟩=some v
theorem Bt_ {rest:List Oper} (hgd:o.guard=none) (x:Operand) (ho:o.op=.load 31 x)
  (b:Nat) (hx:a.eval x=.pointer (some ⟨b,0,none⟩)) (c:Cfg) (hc:bx_ w b c) (h:wpList prog ops Q rest (a.put o.dst c.val) w):wpList prog ops Q (o::rest) a w:=
 wpList_plain hgd fun _ hK=>by
  unfold Oper.wp execOp;simp only[ho,hx,Instr.loadAt,Instr.sureAddr,Sem.run_bind,Sem.run_pure,Result.andThen_ok,E8_ w b 0 _ c.arr _ hc underlying31 rfl Dt_];exact hK _ _ h
theorem Blk.cfgIn {b:Nat} {c:Cfg} {ds:List Value} (h:Blk w b cs) (hcs:cs.toList=c.arr.toList++ds):bx_ w b c:=fun j v hv=>by
 rw[Nat.zero_add,h.cell j,←Array.getElem?_toList,hcs,List.getElem?_append_left]
 ·rw[Array.getElem?_toList];exact hv
 ·have:=(Array.getElem?_eq_some_iff.1 hv).1;simpa using this
theorem RSh.cfgIn {G:RshG} {c:Cfg} {S:ShM} (h:RSh w G c t S):bx_ w G.g c:=h.blk.cfgIn (ds:=[G.vq,G.vw,G.vt]) rfl
def stepE (S:ShM) (c:Cfg):Int:=match S.queue with
 | []=>0
 | x::_=>(((tierAt S.ts x.win).getD (tier0 c))).err x.it.key x.it.weight
def stepB (S:ShM):Bool:=!S.queue.isEmpty
def Le_ (G:RshG) (c:Cfg) (t:List Int) (S:ShM) (w:World) (e:Ending) (w':World):Prop:=
 e=.returned (.tuple #[.bool (stepB S),.int .i64 (stepE S c)])∧∃G',RSh w' G' c t (stepS c t S)∧Mov G.F G'.F w w'∧G'.g=G.g
theorem V5_ (G:RshG) (c:Cfg) (t:List Int) (x:B4_) (q:List B4_) (ts:List (Int×Ao_)) (w:World) (h:RSh w G c t ⟨x::q,ts⟩) (hok:ShOk c ⟨x::q,ts⟩) (hn:Bl_ c) (htl:t.length=16) (i:Nat) (hi:posW (ts.map (·.1)) x.win=some i) :
  Calls prog 92 #[.pointer (some ⟨G.g,0,none⟩)] w (Le_ G c t ⟨x::q,ts⟩ w):=by
 obtain⟨g0,off,qc,hqv,hgl,hc⟩:=h.q.at_ Bz_ (show 0<(x::q).length by simp)
 have c0:=hh_ fun y (k:w.grownBy y none)=>((h.same k).q.at_ Bz_ (show 0<(x::q).length by simp))
 have hqcap :(x::q).length≤qc:=h.qc _ _ _ hqv
 have B0:=hh_ fun y (k:w.grownBy y none)=>(h.same k).blk
 have CT:=hh_ fun(G':RshG) y (k:RSh y G' c t ⟨q,ts⟩)=>I1_ G' c t ⟨q,ts⟩ x.win y k
 have hR4:=hh_ h;have hcl :(x::q).length=q.length+1:=rfl;have hqr:=h.q;rw[hqv,hcl] at hqr;rw[hqv,hcl] at B0;have d0:=hc 0 _ rfl;have d1:=hc 1 _ rfl;have d2:=hc 2 _ rfl;have d3:=hc 3 _ rfl;simp only[Nat.zero_mul,Nat.add_zero] at d0 d1 d2 d3;have b0:=(B0.out w (Ab_ _ _)).cell;have hql:=hh_ h.ql;obtain⟨od,hod⟩:∃od,(if qc=1 then some (⟨g0,off,none⟩:Addr) else some ⟨g0,off+4,none⟩)=od:=⟨_,rfl⟩;have R1:=RdL.dropS (l:=x::q) Bz_ (by rw[←hcl] at hqr;exact hqr) (k:=1) (by simp) hqcap (qc-1);rw[Nat.one_mul,hod] at R1;have HR1:=hh_ (show RdL waitF 4 w (.slice od q.length (qc-1)) q from R1)
 have hq1:1≤qc:=by simp at hqcap;omega
 have hqz :(q.length:Int)+1≤(qc:Int):=by simp at hqcap;omega
 have hod2:=hh_ (show ∀k,ownF (.slice od q.length (qc-1)) k→ownF G.vq k by
  intro k hk;rw[hqv];subst hod;unfold ownF at hk ⊢
  split at hk
  ·simpa [Value.ownBlock] using hk
  ·simpa [Value.ownBlock] using hk)
 clear h hc c0 hqr R1
 go_enter func92,ntmps92
 go_upto_region 4 with fail
 have A1:=Blk.new w #[.int .i64 x.win,.string x.it.key,.int .i64 x.it.time,.int .u64 x.it.weight] 177;have g1:=ga_ w (.cells #[.int .i64 x.win,.string x.it.key,.int .i64 x.it.time,.int .u64 x.it.weight] 177) none
 have hz1:w.heap.size<(w.alloc (.cells #[.int .i64 x.win,.string x.it.key,.int .i64 x.it.time,.int .u64 x.it.weight] 177)).heap.size:=by simp
 generalize w.alloc _=w1 at *;generalize hq4:w.heap.size=bx at *;clear b0 d0 d1 d2 d3;have b1:=(B0.out _ g1).cell;have f1:=(B0.out _ g1).free;obtain⟨R4,M4⟩:=hR4.out.setQ g1 (HR1.out.same g1) (fun a n k e=>by cases e;simp at hqcap;omega) (fun k hk=>.inl (hod2.out k hk));have HR5:=hh_ R4;have HM5:=hh_ M4
 go_upto_region 5 with fail
 have hgb:G.g<bx:=by have:=hR4.out.blk.lt;omega
 have A4:=A1.kept (Ac_ (Ab_ w1 (some G.g)) 17 (.slice od q.length (qc-1))) (by simp;omega);clear R4 M4 b1 f1 A1 hod;generalize w1.setCell ⟨G.g,17,none⟩ (.slice od q.length (qc-1))=w4 at *;obtain⟨G4,hG4⟩:∃G4:RshG,{ G with vq:=.slice od q.length (qc-1) }=G4:=⟨_,rfl⟩
 have hg4:G4.g=G.g:=by rw[←hG4]
 rw[hG4] at HR5 HM5;obtain⟨p,hpi,hpw,hta⟩:=Jv_ (S:=⟨q,ts⟩) hi;dsimp only at hpi hta;have hlen:=HR5.out.len
 have hil:i<G4.ts.length:=by have h1:=(gs_ hpi).1;rw[hlen];exact h1
 have hTi:G4.ts[i]?=some G4.ts[i]:=gq_ hil;have HT:=hh_ (show Ik_ G4 ⟨q,ts⟩ x.win=.pointer (some ⟨(G4.ts[i]).g,0,none⟩) by unfold Ik_;rw[show posW (ShM.ws ⟨q,ts⟩) x.win=some i from hi];dsimp only;rw[hTi];rfl);have hX:=(hok.tiers p (mo_ hpi)).2;have hxw:=(hok.waits x (by simp)).2.2.1;have CT2:=hh_ (CT.out G4 w4 HR5.out);rw[HT.out,hg4] at CT2
 have CA:=hh_ fun y (k:w4.grownBy y none)=>J6_ G4.ts[i] c t p.2 x.it.key x.it.weight y ((HR5.out.tier i _ p hTi hpi).same k) hX hn htl hxw
 have HTi:=hh_ hTi;have HPi:=hh_ hpi;have HST:=hh_ (show ∀er,er=p.2.err x.it.key x.it.weight→stepE ⟨x::q,ts⟩ c=er from fun er e=>by unfold stepE;dsimp only;rw[hta,e];rfl)
 have HSS:=hh_ (show stepS c t ⟨x::q,ts⟩ =⟨q,ts.set i (p.1,p.2.addE c t x.it.key x.it.weight)⟩ by
  unfold stepS tsAdd;dsimp only;rw[hi];dsimp only
  rw[hpi,hpw];rfl)
 clear hi hTi hpi hta hX hlen hok CT B0 hR4 HR1 hod2 hql hqv hqcap;generalize G4.ts[i]=T at *;have a4:=A4.cell
 go_upto_region 6 with(go_at_call 93;refine CT2.out.mono ?_;rintro e w5 ⟨rfl,g5⟩)
 have A5:=(A4.same g5).cell;have HR6:=hh_ (HR5.out.same g5);have HG5:=hh_ g5;have CA2:=hh_ (CA.out _ g5);unfold RTAdd at CA2;generalize hEr:p.2.err x.it.key x.it.weight=Er at *;have HEr:=hh_ hEr;clear A4 a4 g5 CA CT2 hEr
 go_wp2_with (go_at_call 123;refine CA2.out.mono ?_;rintro e w6 ⟨rfl,T',hT',mT,hgT⟩)
 go_ret2
 obtain⟨R7,M7⟩:=HR6.out.setT HTi.out HPi.out hT' mT hgT;refine⟨by rw[HST.out _ rfl];rfl,_,by rw[HSS.out];exact(by unfold Ao_.addE;rw[HEr.out];exact R7),HM5.out.trans ((Mov.same HG5.out).trans M7),hg4⟩
def Bu_ (vw vt:Value) (acc:Int) (vr:Value):Array Value:=#[vw,vt,.int .i64 acc,vr]
structure RL (S:Nat→Prop) (w:World) (b:Nat) (vw vt vr:Value) (W T:List Int) (acc:Int) (R:List Int):Prop where
 blk:Blk w b (Bu_ vw vt acc vr)
 ow:Own intF 1 3 0 w vw W
 ot:Own wordF 1 22 0 w vt T
 or:Own wordF 1 22 0 w vr R
 sb:S b
 sw:∀g,vw.ownBlock=some g→S g∧g≠b
 st:∀g,vt.ownBlock=some g→S g∧g≠b
 sr:∀g,vr.ownBlock=some g→S g∧g≠b
 awt:Gq_ vw vt
 awr:Gq_ vw vr
 atr:Gq_ vt vr
theorem RL.keptS {S S':Nat→Prop} {b:Nat} {vw vt vr:Value} {W T:List Int} {acc:Int} {R:List Int} (h:RL S w b vw vt vr W T acc R) (k:GrownS S' w w') (hd:∀i,S i→¬S' i):RL S w' b vw vt vr W T acc R:=
 ⟨h.blk.keptS k (hd _ h.sb),h.ow.keptS k (fun g hg=>hd _ (h.sw g hg).1),h.ot.keptS k (fun g hg=>hd _ (h.st g hg).1),h.or.keptS k (fun g hg=>hd _ (h.sr g hg).1),h.sb,h.sw,h.st,h.sr,h.awt,h.awr,h.atr⟩
theorem RL.same {S:Nat→Prop} {b:Nat} {vw vt vr:Value} {W T:List Int} {acc:Int} {R:List Int} (h:RL S w b vw vt vr W T acc R) (k:w.grownBy w' none):RL S w' b vw vt vr W T acc R:=
 h.keptS (GrownS.none_ (S:=fun _=>False) k) (fun _ _=>id)
structure RLed (S:Nat→Prop) (w:World) (b:Nat) (L:List (Int×Int)) (acc:Int) (R:List Int):Prop where
 rl:∃vw vt vr,RL S w b vw vt vr (L.map (·.1)) (L.map (·.2)) acc R
 asc:Asc L
 keys:∀p∈L,I64 p.1
 vals:∀p∈L,W64 p.2
 len:R.length=7
 rw:∀r∈R,W64 r
theorem RLed.keptS {S S':Nat→Prop} {b:Nat} {L:List (Int×Int)} {acc:Int} {R:List Int} (h:RLed S w b L acc R) (k:GrownS S' w w') (hd:∀i,S i→¬S' i):RLed S w' b L acc R:=by
 obtain⟨vw,vt,vr,h1⟩:=h.rl;exact⟨⟨vw,vt,vr,h1.keptS k hd⟩,h.asc,h.keys,h.vals,h.len,h.rw⟩
theorem RLed.same {S:Nat→Prop} {b:Nat} {L:List (Int×Int)} {acc:Int} {R:List Int} (h:RLed S w b L acc R) (k:w.grownBy w' none):RLed S w' b L acc R:=
 h.keptS (GrownS.none_ (S:=fun _=>False) k) (fun _ _=>id)
theorem cy_ {w:Int}:∀{L:List (Int×Int)} {p:Int×Int},L[ldK L w]?=some p→¬p.1<w
 | [],p,h=>by simp[ldK] at h
 | q::L,p,h=>by
  simp only[ldK] at h
  split at h
  ·exact cy_ (L:=L) (by simpa using h)
  ·simp at h;subst h;assumption
theorem Wy_ (w:World):Calls prog 42 #[] w (fun e w'=>∃b,e=.returned (.pointer (some ⟨b,0,none⟩))∧RLed (fun i=>w.heap.size≤i) w' b [] 0 [0,0,0,0,0,0,0]∧w.grownBy w' none):=by
 have hmk:∀w,(Instr.makeSlice 24 (.int .i64 7) (.int .i64 7)).run prog w=.ok (.slice (some ⟨w.heap.size,0,none⟩) 7 7) (w.alloc (.cells #[.int .u64 0,.int .u64 0,.int .u64 0,.int .u64 0,.int .u64 0,.int .u64 0,.int .u64 0] 22)):=fun _=>by kernel_rfl
 go_enter func42,ntmps42
 go_wp2
 go_ret
 refine⟨w.heap.size+1,by simp,⟨⟨.slice none 0 0,.slice none 0 0,.slice (some ⟨w.heap.size,0,none⟩) 7 7,?_⟩,by simp[Asc],by simp,by simp,rfl,fun r hr=>by simp at hr;subst hr;exact⟨by omega,by omega⟩⟩,gw_⟩;refine⟨Blk.new' _ _ _ (by simp),Own.nil _ _ _ _ _,Own.nil _ _ _ _ _,?_,by show _≤_;omega,by simp[Value.ownBlock],by simp[Value.ownBlock],fun g hg=>?_,D8_ _,D8_ _,D8_ _⟩
 ·refine Own.same (w:=w.alloc (.cells #[.int .u64 0,.int .u64 0,.int .u64 0,.int .u64 0,.int .u64 0,.int .u64 0,.int .u64 0] 22)) ⟨rfl,.inr ⟨w.heap.size,7,_,rfl,by omega,heap_alloc_new w _,by simp,by unfold maxLen;omega,by simp,by simp[cellsOf,wordF]⟩⟩ (ga_ _ _ none)
 ·simp[Value.ownBlock] at hg;subst hg;exact⟨by show _≤_;omega,by omega⟩
theorem Ma_ (S:Nat→Prop) (b:Nat) (L:List (Int×Int)) (acc:Int) (R:List Int) (win:Int) (w:World) (h:RLed S w b L acc R):Calls prog 90 #[.pointer (some ⟨b,0,none⟩),.int .i64 win] w (Cq_ (.tuple #[.int .i64 (ldK L win),.bool (ldHas L win)]) w):=by
 obtain⟨vw,vt,vr,H0⟩:=h.rl;obtain⟨oa,oc,rfl⟩:=H0.ow.shape;have H:=hh_ H0
 have hlen :(L.map (·.1)).length=L.length:=by simp
 have hK0:=Tp_ (w:=win) (L:=L)
 have HK1:=hh_ fun j p (h1:j<ldK L win) (h2:L[j]?=some p)=>c1_ h1 h2
 have HK2:=hh_ fun p (h1:L[ldK L win]?=some p)=>cy_ h1
 have HA:=hh_ h.asc;have HE:=hh_ (X4_ (w:=win) h.asc)
 have HY:=hh_ fun p (h1:L[ldK L win]?=some p) (h2:p.1=win)=>Xm_ (w:=win) h1 h2
 have HNo:=hh_ fun p (h1:L[ldK L win]?=some p) (h2:p.1≠win)=>Yk_ (w:=win) h.asc h1 h2
 have hml:L.length≤9223372036854775807:=by have:=H0.ow.rd.2.1;rwa [hlen] at this
 have HL:=hh_ hlen;rw[hlen] at H;clear H0 h hlen;generalize ldK L win=K at *;generalize ldHas L win=F at *
 go_enter func90,ntmps90
 go_wp2
 go_loopw [6] (fun s6 wk=>∃k:Nat,k≤K∧s6=.int .i64 k∧w.grownBy wk none) (fun s6 _=>K-(Go.RowKit.intOf s6).toNat)
 case atStart=>exact⟨0,zl_ _,rfl,Ab_ _ _⟩
 case round=>
  obtain⟨k,hk,rfl,hg⟩:=hrel;have HR:=hh_ (H.out.same hg);have ax:=HR.out.blk.cell;unfold Bu_ at ax
  by_cases hlt:k<L.length
  ·obtain⟨g,off,cap,hv,hgl,ck⟩:=HR.out.ow.rd.one O4_ (k:=k) (by rw[HL.out];exact hlt)
   rw[HL.out] at hv;cases hv;have hp:L[k]?=some L[k]:=gq_ hlt
   have e1 :(L.map (·.1))[k]'(by rw[HL.out];exact hlt)=L[k].1:=by simp
   rw[e1] at ck;clear e1
   have hlt2 :(k:Int)<(L.length:Int):=by omega
   have hk0 :(0:Int)≤(k:Int):=by omega
   by_cases hkK:k<K
   ·have hless:=HK1.out k _ hkK hp
    generalize L[k]=p at *;clear hp
    go_wp2_with fail
    exact⟨⟨k+1,by omega,by go_num,hg⟩,by simp[Go.RowKit.intOf];omega⟩
   ·obtain rfl:k=K:=by omega
    have hless:=HK2.out _ hp
    by_cases he:L[k].1=win
    ·obtain rfl:F=true:=HY.out _ hp he
     generalize L[k]=p at *;clear hp
     go_upto_region 4 with fail
     go_quiet (fail)
     go_wp2_with fail
     go_ret2
     exact Bx_ (by simp[he]) (Ae_ hg _)
    ·obtain rfl:F=false:=HNo.out _ hp he
     generalize L[k]=p at *;clear hp
     go_upto_region 4 with fail
     go_quiet (fail)
     go_wp2_with fail
     go_ret2
     exact Bx_ (by simp[he]) (Ae_ hg _)
  ·obtain rfl:k=K:=by omega
   obtain rfl:k=L.length:=by omega
   obtain rfl:F=false:=HE.out rfl
   have hlt2:¬((L.length:Int)<(L.length:Int)):=by omega
   go_upto_region 4 with fail
   go_quiet (fail)
   go_wp2_with fail
   go_ret2
   exact Bx_ rfl (Ae_ hg _)
theorem L3_ {w:Int} {L:List (Int×Int)} (hA:Asc L) (h:ldHas L w=true):ldK L w<L.length∧L[ldK L w]?=some (w,ldAt L w):=by
 have h1:=(G4_ hA).1 h;exact⟨(gs_ h1).1,h1⟩
theorem Pb_ (S:Nat→Prop) (b:Nat) (L:List (Int×Int)) (acc:Int) (R:List Int) (win:Int) (w:World) (h:RLed S w b L acc R):Calls prog 119 #[.pointer (some ⟨b,0,none⟩),.int .i64 win] w (RetWord (ldAt L win) w):=by
 have C:=hh_ (Ma_ S b L acc R win w h);have H:=hh_ h;obtain⟨F,hF⟩:∃F,ldHas L win=F:=⟨_,rfl⟩;rw[hF] at C;cases F
 ·have h0:=hh_ (Kx_ hF)
  clear h hF
  go_enter func119,ntmps119
  go_wp2_with (go_at_call 90;refine C.out.mono ?_;rintro e w1 ⟨rfl,g1⟩)
  go_ret
  exact Cl_ h0.out g1
 ·obtain⟨h1,h2⟩:=L3_ h.asc hF
  obtain⟨vw,vt,vr,H0⟩:=h.rl;obtain⟨oa,oc,rfl⟩:=H0.ot.shape
  have hlen :(L.map (·.2)).length=L.length:=by simp
  obtain⟨g,off,cap,hv,hgl,ck⟩:=H0.ot.rd.one Cs_ (k:=ldK L win) (by rw[hlen];exact h1)
  have e1 :(L.map (·.2))[ldK L win]'(by rw[hlen];exact h1)=ldAt L win:=by
   rw[List.getElem_map]
   have:=(gs_ h2).2
   rw[this]
  rw[e1] at ck;rw[hlen] at *;cases hv;have hA:=H0.blk.cell 1;unfold Bu_ at hA;have hbl:=H0.blk.lt
  have HC:=hh_ fun w' (k:World.grownBy w w' none)=>((Am_ k).1 g (off+ldK L win) hgl (by simp)).trans ck
  have HB:=hh_ fun w' (k:World.grownBy w w' none)=>((Am_ k).1 b 1 hbl (by simp)).trans hA
  clear h hF e1 h2 H0 ck hA;generalize ldAt L win=T at *;generalize ldK L win=K at *
  have hk0 :(0:Int)≤(K:Int):=by omega
  have hk1 :(K:Int)<(L.length:Int):=by omega
  go_enter func119,ntmps119
  go_wp2_with (go_at_call 90;refine C.out.mono ?_;rintro e w1 ⟨rfl,g1⟩;have cx:=HC.out _ g1;have bx:=HB.out _ g1)
  go_ret
  exact Cl_ rfl g1
theorem J7_ (S:Nat→Prop) (b:Nat) (L:List (Int×Int)) (acc:Int) (R:List Int) (win x:Int) (w:World) (h:RLed S w b L acc R) (hx:W64 x):Calls prog 86 #[.pointer (some ⟨b,0,none⟩),.int .i64 win,.int .u64 x] w (Cm_ (fitsB (ldAt L win) x) w):=by
 have C:=hh_ (Pb_ S b L acc R win w h)
 have C2:=hh_ fun w=>Dz_ (ldAt L win) x w (da_ h.vals win) hx
 clear h;generalize ldAt L win=T at *
 go_enter func86,ntmps86
 go_wp2_with (first
  |(go_at_call 119;refine C.out.mono ?_;rintro e w1 ⟨rfl,g1⟩)
  |(go_at_call 118;refine(C2.out _).mono ?_;rintro e w2 ⟨rfl,rfl⟩))
 go_ret
 exact Be_ rfl g1
theorem RL.setW {S:Nat→Prop} {w0 w:World} {b N:Nat} {vw vt vr v:Value} {W T W':List Int} {acc:Int} {R:List Int} (h:RL S w0 b vw vt vr W T acc R) (hN:N=w0.heap.size) (hS:∀i,N≤i→S i) (k:GrownS (fun i=>N≤i) w0 w) (o:Own intF 1 3 N w v W') :
  RL S (w.setCell ⟨b,0,none⟩ v) b v vt vr W' T acc R∧GrownS S w0 (w.setCell ⟨b,0,none⟩ v):=by
 subst hN;have hbl:=h.blk.lt;have gs:=Ac_ (Ab_ w (some b)) 0 v
 have hv:∀g,v.ownBlock=some g→S g∧g≠b:=fun g hg=>by have:=(o.lt g hg).1;exact⟨hS g this,by omega⟩
 have B1:=h.blk.keptS k (by omega);have ot:=(h.ot.keptS k (fun g hg=>by have:=(h.ot.lt g hg).2;omega)).kept gs (fun g hg e=>by cases e;exact(h.st _ hg).2 rfl);have or:=(h.or.keptS k (fun g hg=>by have:=(h.or.lt g hg).2;omega)).kept gs (fun g hg e=>by cases e;exact(h.sr _ hg).2 rfl);have ow:=((o.base (B':=0) (fun _ _=>zl_ _)).kept gs (fun g hg e=>by cases e;exact(hv _ hg).2 rfl));refine⟨⟨B1.set_ 0 v rfl,ow,ot,or,h.sb,hv,h.st,h.sr,fun g hg e=>?_,fun g hg e=>?_,h.atr⟩,(k.mono (fun i hi _=>hS i hi)).trans (GrownS.of gs (fun k e=>by cases e;exact h.sb)) (fun i hi _=>hi)⟩
 ·have:=(o.lt g hg).1;have:=(h.ot.lt g e).2;omega
 ·have:=(o.lt g hg).1;have:=(h.or.lt g e).2;omega
theorem RL.setT {S:Nat→Prop} {w0 w:World} {b N:Nat} {vw vt vr v:Value} {W T T':List Int} {acc:Int} {R:List Int} (h:RL S w0 b vw vt vr W T acc R) (hN:N=w0.heap.size) (hS:∀i,N≤i→S i) (k:GrownS (fun i=>N≤i) w0 w) (o:Own wordF 1 22 N w v T') :
  RL S (w.setCell ⟨b,1,none⟩ v) b vw v vr W T' acc R∧GrownS S w0 (w.setCell ⟨b,1,none⟩ v):=by
 subst hN;have hbl:=h.blk.lt;have gs:=Ac_ (Ab_ w (some b)) 1 v
 have hv:∀g,v.ownBlock=some g→S g∧g≠b:=fun g hg=>by have:=(o.lt g hg).1;exact⟨hS g this,by omega⟩
 have B1:=h.blk.keptS k (by omega);have ow:=(h.ow.keptS k (fun g hg=>by have:=(h.ow.lt g hg).2;omega)).kept gs (fun g hg e=>by cases e;exact(h.sw _ hg).2 rfl);have or:=(h.or.keptS k (fun g hg=>by have:=(h.or.lt g hg).2;omega)).kept gs (fun g hg e=>by cases e;exact(h.sr _ hg).2 rfl);have ot:=((o.base (B':=0) (fun _ _=>zl_ _)).kept gs (fun g hg e=>by cases e;exact(hv _ hg).2 rfl));refine⟨⟨B1.set_ 1 v rfl,ow,ot,or,h.sb,h.sw,hv,h.sr,fun g hg e=>?_,h.awr,fun g hg e=>?_⟩,(k.mono (fun i hi _=>hS i hi)).trans (GrownS.of gs (fun k e=>by cases e;exact h.sb)) (fun i hi _=>hi)⟩
 ·have:=(o.lt g e).1;have:=(h.ow.lt g hg).2;omega
 ·have:=(o.lt g hg).1;have:=(h.or.lt g e).2;omega
theorem RL.setA {S:Nat→Prop} {b:Nat} {vw vt vr:Value} {W T:List Int} {acc acc':Int} {R:List Int} (h:RL S w b vw vt vr W T acc R) :
  RL S (w.setCell ⟨b,2,none⟩ (.int .i64 acc')) b vw vt vr W T acc' R∧GrownS S w (w.setCell ⟨b,2,none⟩ (.int .i64 acc')):=by
 have gs:=Ac_ (Ab_ w (some b)) 2 (.int .i64 acc');exact⟨⟨h.blk.set_ 2 _ rfl,h.ow.kept gs (fun g hg e=>by cases e;exact(h.sw _ hg).2 rfl),h.ot.kept gs (fun g hg e=>by cases e;exact(h.st _ hg).2 rfl),h.or.kept gs (fun g hg e=>by cases e;exact(h.sr _ hg).2 rfl),h.sb,h.sw,h.st,h.sr,h.awt,h.awr,h.atr⟩,GrownS.of gs (fun k e=>by cases e;exact h.sb)⟩
theorem RL.putT {S:Nat→Prop} {b g n cap:Nat} {vw vr:Value} {W T:List Int} {acc:Int} {R:List Int} (h:RL S w b vw (.slice (some ⟨g,0,none⟩) n cap) vr W T acc R) {i:Nat} (hi:i<T.length) (x:Int) :
  RL S (w.setCell ⟨g,i,none⟩ (.int .u64 x)) b vw (.slice (some ⟨g,0,none⟩) n cap) vr W (T.set i x) acc R∧GrownS S w (w.setCell ⟨g,i,none⟩ (.int .u64 x)):=by
 obtain⟨h1,h2⟩:=h.ot.stored Bf_ hi (show 0<1 by omega) (.int .u64 x) x rfl;rw[Nat.mul_one,Nat.add_zero] at h1 h2;have hs:=h.st g rfl;exact⟨⟨h.blk.kept h2 (by simp;exact hs.2),h.ow.kept h2 (fun k hk e=>by cases e;exact h.awt _ hk rfl),h1,h.or.kept h2 (fun k hk e=>by cases e;exact h.atr _ rfl hk),h.sb,h.sw,h.st,h.sr,h.awt,h.awr,h.atr⟩,GrownS.of h2 (fun k e=>by cases e;exact hs.1)⟩
theorem RL.putR {S:Nat→Prop} {b g n cap:Nat} {vw vt:Value} {W T:List Int} {acc:Int} {R:List Int} (h:RL S w b vw vt (.slice (some ⟨g,0,none⟩) n cap) W T acc R) {i:Nat} (hi:i<R.length) (x:Int) :
  RL S (w.setCell ⟨g,i,none⟩ (.int .u64 x)) b vw vt (.slice (some ⟨g,0,none⟩) n cap) W T acc (R.set i x)∧GrownS S w (w.setCell ⟨g,i,none⟩ (.int .u64 x)):=by
 obtain⟨h1,h2⟩:=h.or.stored Bf_ hi (show 0<1 by omega) (.int .u64 x) x rfl;rw[Nat.mul_one,Nat.add_zero] at h1 h2;have hs:=h.sr g rfl;exact⟨⟨h.blk.kept h2 (by simp;exact hs.2),h.ow.kept h2 (fun k hk e=>by cases e;exact h.awr _ hk rfl),h.ot.kept h2 (fun k hk e=>by cases e;exact h.atr _ hk rfl),h1,h.sb,h.sw,h.st,h.sr,h.awt,h.awr,h.atr⟩,GrownS.of h2 (fun k e=>by cases e;exact hs.1)⟩
theorem Hk_ {α:Type} (T:List α) (x:α) (D:List α):T <+: T++[x]++D:=⟨[x]++D,by simp⟩
theorem Cv_ {oa:Option Addr} {c len N K s m q:Nat} (h:∀k,Value.ownBlock (.slice oa len c)=some k→k<N):∀(a:Addr) (n' c':Nat),Value.slice (if c=K then oa else oa.map (·.add (K*s))) m q=.slice (some a) n' c'→a.block<N:=by
 intro a n' c' e
 cases oa with
 | none=>simp at e
 | some ad=>
  have h1:=h ad.block rfl
  split at e
  ·cases e;exact h1
  ·cases e
   unfold Addr.add
   split <;> exact h1
theorem cw_ (A D:List Int) (x:Int):∀T:List Int,(T <+: A++[x]++D∨T=[x])→T.length≤A.length∨T <+: A++[x]∨A++[x] <+: T:=by
 rintro T (h|rfl)
 ·rcases List.prefix_or_prefix_of_prefix h (List.prefix_append (A++[x]) D) with h|h
  ·exact .inr (.inl h)
  ·exact .inr (.inr h)
 ·cases A with
  | nil=>exact .inr (.inl (List.prefix_refl _))
  | cons a A=>exact .inl (by simp)
theorem ck_ (A D:List Int) (x:Int):∀T:List Int,(T <+: A++[x]++D∨T=[x])→T.length≤(A++[x]).length∨T <+: A++[x]++D∨A++[x]++D <+: T:=by
 rintro T (h|rfl)
 ·exact .inr (.inl h)
 ·exact .inl (by simp)
theorem Mp_ (S:Nat→Prop) (b:Nat) (L:List (Int×Int)) (acc:Int) (R:List Int) (win x:Int) (w:World) (h:RLed S w b L acc R) (hS:∀i,w.heap.size≤i→S i) (hw:I64 win) (hx:W64 x) (hl:L.length<1000000000) (ha:0≤acc∧acc<1000000000) :
  Calls prog 51 #[.pointer (some ⟨b,0,none⟩),.int .i64 win,.int .u64 x] w (fun e w'=>e=.returned (.bool (fitsB (ldAt L win) x))∧RLed S w' b (accL L win x) (accN L win x acc) R∧GrownS S w w'):=by
 have H:=hh_ h;have C:=hh_ (J7_ S b L acc R win x w h hx);obtain⟨F,hF⟩:∃F,fitsB (ldAt L win) x=F:=⟨_,rfl⟩;unfold accL accN;rw[hF] at C ⊢;cases F
 ·clear h
  go_enter func51,ntmps51
  go_wp2_with (go_at_call 86;refine C.out.mono ?_;rintro e w' ⟨rfl,g⟩)
  go_ret
  exact⟨rfl,H.out.same g,GrownS.none_ g⟩
 ·have hsum:ldAt L win+x≤9223372036854775808:=by unfold fitsB at hF;exact of_decide_eq_true hF
  have HSm:=hh_ hsum;have hA0:=da_ h.vals win;have hwr:IntKind.u64.wrap (ldAt L win+x)=ldAt L win+x:=IntWalk.u64_in _ (by unfold W64 at hA0 hx;omega);have hwa:IntKind.i64.wrap (acc+1)=acc+1:=IntWalk.i64_in _ (by omega);have HVL:=hh_ (Qu_ h.vals h.asc (win:=win) (n:=x) ⟨by unfold W64 at hA0 hx;omega,by omega⟩);have HKL:=hh_ (Ye_ h.keys hw (n:=x));have HAL:=hh_ (Kw_ (n:=x) (w:=win) h.asc);have HW:=hh_ hw;have HX:=hh_ hx;obtain⟨vw,vt,vr,H0⟩:=h.rl;have HR0:=hh_ H0;have hax:=H0.blk.cell;have hbl:=H0.blk.lt
  have HB1:=hh_ fun w' (k:World.grownBy w w' none)=>H0.same k
  have CAt:=hh_ fun w' (h:RLed S w' b L (acc+1) R)=>Ma_ S b L (acc+1) R win w' h
  clear h hF hA0 hw hx hax H0
  go_enter func51,ntmps51
  go_upto_region 3 with(go_at_call 86;refine C.out.mono ?_;rintro e w1 ⟨rfl,g1⟩)
  have H1:=HB1.out _ g1;have a1:=H1.blk.cell;unfold Bu_ at a1;have f1:=H1.blk.free;obtain⟨H2,G2⟩:=H1.setA (acc':=acc+1);have G2':=(GrownS.none_ (S:=S) g1).trans G2 (fun _ hi _=>hi);have HRL:=hh_ (show RLed S (w1.setCell ⟨b,2,none⟩ (.int .i64 (acc+1))) b L (acc+1) R from⟨⟨vw,vt,vr,H2⟩,H.out.asc,H.out.keys,H.out.vals,H.out.len,H.out.rw⟩);have H2':=hh_ H2;have G2h:=hh_ G2';have hS2:=hh_ (show ∀i,(w1.setCell ⟨b,2,none⟩ (.int .i64 (acc+1))).heap.size≤i→S i from fun i hi=>hS i (lt_ G2'.size hi));clear H1 H2 G2 G2' C HB1 HR0
  go_upto_region 4 with fail
  clear a1 f1 hwa hbl hS;generalize w1.setCell ⟨b,2,none⟩ (.int .i64 (acc+1))=w2 at *;clear g1;obtain⟨F,hF⟩:∃F,ldHas L win=F:=⟨_,rfl⟩;rw[hF] at CAt
  go_upto_region 5 with(go_at_call 90;refine(CAt.out _ HRL.out).mono ?_;rintro e w3 ⟨rfl,g3⟩)
  have H3:=hh_ (H2'.out.same g3);have G3h:=hh_ (G2h.out.trans (GrownS.none_ (S:=S) g3) (fun _ hi _=>hi));have hS3:=hh_ (show ∀i,w3.heap.size≤i→S i from fun i hi=>hS2.out i (lt_ g3.size hi));clear CAt HRL H2' G2h hS2 g3;cases F
  ·have HP:=hh_ (Qp_ (n:=x) H.out.asc hF)
   have hK0:=Tp_ (w:=win) (L:=L);have hm1:=hh_ (show(L.take (ldK L win)++[(win,x)]++L.drop (ldK L win)).map (·.1) =(L.map (·.1)).take (ldK L win)++[win]++(L.map (·.1)).drop (ldK L win) by simp[List.map_take,List.map_drop]);have hm2:=hh_ (show(L.take (ldK L win)++[(win,x)]++L.drop (ldK L win)).map (·.2) =(L.map (·.2)).take (ldK L win)++[x]++(L.map (·.2)).drop (ldK L win) by simp[List.map_take,List.map_drop])
   have hlen1 :(L.map (·.1)).length=L.length:=by simp
   have hlen2 :(L.map (·.2)).length=L.length:=by simp
   obtain⟨oa,oc,rfl⟩:=H3.out.ow.shape;obtain⟨ta,tc,rfl⟩:=H3.out.ot.shape;rw[hlen1,hlen2] at H3;clear hF hwr hsum;generalize ldK L win=K at *;generalize L.map (·.1)=W at *;generalize L.map (·.2)=T at *
   have hk0 :(0:Int)≤(K:Int):=by omega
   have hk1 :(K:Int)≤(L.length:Int):=by omega
   go_upto_region 8 with fail
   have hKl:K≤W.length:=by omega
   have KN:World.grownBy w3 w3.drew none:=gw_;obtain⟨N,hN⟩:∃N,w3.heap.size=N:=⟨_,rfl⟩;have HN2:=hh_ (show N≤w3.drew.heap.size from Nat.le_of_eq hN.symm)
   have hbN:b<N:=by have:=H3.out.blk.lt;omega
   have HB:=hh_ (H3.out.blk.same KN);have HO:=hh_ (H3.out.ow.same KN);have HOb:=hh_ (show ∀k,Value.ownBlock (.slice oa L.length oc)=some k→k<N from fun k hk=>by have:=(H3.out.ow.lt k hk).2;omega);obtain⟨P,hP⟩:∃P:List Int→Prop,P=fun T=>T <+: W.take K++[win]++W.drop K∨T=[win]:=⟨_,rfl⟩;have HP0:=hh_ (show P [] by rw[hP];exact .inl List.nil_prefix);have HP1:=hh_ (show P (W.take K) by rw[hP];exact .inl (Hk_ _ _ _));have HPx:=hh_ (show P [win] by rw[hP];exact .inr rfl);have HPF:=hh_ (show P (W.take K++[win]++W.drop K) by rw[hP];exact .inl (List.prefix_refl _));have HP3:=hh_ (show P (W.take K++[win]) by rw[hP];exact .inl (List.prefix_append _ _));have HP2:=hh_ (show ∀T,P T→T.length≤(W.take K).length∨T <+: W.take K++[win]∨W.take K++[win] <+: T by rw[hP];exact cw_ (W.take K) (W.drop K) win);have HP4:=hh_ (show ∀T,P T→T.length≤(W.take K++[win]).length∨T <+: W.take K++[win]++W.drop K∨W.take K++[win]++W.drop K <+: T by rw[hP];exact ck_ (W.take K) (W.drop K) win);clear hP;have Hb1:=hh_ (show K =(W.take K).length by rw[lk_];omega);have Hb7:=hh_ (show L.length-K =(W.drop K).length by rw[List.length_drop];omega)
   have hb2 :(W.take K).length*8≤140737488355328:=by rw[←Hb1.out];omega
   have hb3 :(W.take K).length≤9223372036854775807:=by rw[←Hb1.out];omega
   have hb4 :((W.take K).length+1)*8≤140737488355328:=by rw[←Hb1.out];omega
   have hb5 :(W.take K).length+1≤9223372036854775807:=by rw[←Hb1.out];omega
   have hb8 :((W.take K++[win]).length+(W.drop K).length)*8≤140737488355328:=by rw[la_,←Hb1.out,←Hb7.out];simp only[lc_,List.length_nil];omega
   have hb9 :(W.take K++[win]).length+(W.drop K).length≤9223372036854775807:=by rw[la_,←Hb1.out,←Hb7.out];simp only[lc_,List.length_nil];omega
   have hcap:=H3.out.ow.cap
   have hKc :(K:Int)≤(oc:Int):=by omega
   have hLc :(L.length:Int)≤(oc:Int):=by omega
   have HRD:=HO.out.rd.drop Bc_ hKl hcap (oc-K);rw[hlen1] at HRD;simp only[Nat.mul_one] at HRD;replace HRD:=hh_ HRD;have HRb:=Cv_ (K:=K) (s:=1) (m:=L.length-K) (q:=oc-K) HOb.out;simp only[Nat.mul_one] at HRb;replace HRb:=hh_ HRb
   (refine Rg.wp_region_rgZ 21 #[] (Keep intF 1 3 N P) (fun _ _ _ _ _=>False) (by kernel_rfl) (by kernel_rfl) (Keep.refl _ _ _ _ _) (fun _ _ _ h k=>h.trans k) (fun _ _ _ _ _ h=>h) ?_;simp only[List.take,List.drop])
   generalize w3.drew=wd at *
   (refine tq_ 1 ?_;(repeat(go_big_quiet_step (fail)));refine wn_ ?_)
   (refine to_ ?_;intro y1 my1 dy1)
   clear dy1;have z1:=lt_ HN2.out my1.grown.size
   go_wp2_with fail
   refine⟨Keep.of (ga_ _ _ _),?_⟩;have N1:=A0_ (e:=3) intF 1 z1;generalize y1.alloc _=e1 at *;generalize y1.heap.size=g1 at *
   (refine tq_ 3 ?_;(repeat(go_big_quiet_step (fail)));refine wn_ ?_)
   (refine to_ ?_;intro y5 my5 dy5)
   clear dy5;have ax:=(my5.blk HB.out hbN).cell
   (try unfold Bu_ at ax)
   go_wp2_with fail
   refine⟨Keep.refl _ _ _ _ _ _,?_⟩;clear ax
   (refine tq_ 2 ?_;(repeat(go_big_quiet_step (fail)));refine wn_ ?_)
   (refine to_ ?_;intro y8 my8 dy8)
   have N8:=(dy8.out 1 (by omega) (by kernel_rfl)).own [] _ HP0.out N1;have R8:=my8.rd (HO.out.rd.take Bc_ hKl oc) (fun _ a n c e=>by cases e;exact HOb.out _ rfl);have z8:=lt_ HN2.out my8.grown.size;clear dy8
   go_wp2_with (at_builtin;refine A5_ Ca_ B9_ N8 R8 Hb1.out hb2 hb3 z8 ?_;intro v8 e8 o8 g8 l8;have Hg8:=hh_ g8;clear g8 l8)
   refine⟨Keep.of Hg8.out,?_⟩;clear N8 R8 z8 N1 my5 my1 z1
   (refine tq_ 1 ?_;(repeat(go_big_quiet_step (fail)));refine wn_ ?_)
   (refine to_ ?_;intro y10 my10 dy10)
   clear dy10;have z10:=lt_ HN2.out my10.grown.size
   go_wp2_with fail
   refine⟨Keep.of (ga_ _ _ _),?_⟩;have N10:Own intF 1 3 N (y10.alloc (.cells #[.int .i64 win] 3)) (.slice (some ⟨y10.heap.size,0,none⟩) 1 1) [win]:=Cb_ (fun _=>rfl) y10 z10 win _ rfl;generalize y10.alloc _=e10 at *;generalize y10.heap.size=g10 at *
   (refine to_ ?_;intro y11 my11 dy11)
   have N11:=(dy11.out 8 (by omega) (by kernel_rfl)).own _ _ HP1.out o8;have R11:=((dy11.out 10 (by omega) (by kernel_rfl)).own _ _ HPx.out N10).rd;have z11:=lt_ HN2.out my11.grown.size;clear dy11
   go_wp2_with (at_builtin;refine Bh_ Ca_ B9_ (fun _=>rfl) N11 R11 rfl hb4 hb5 z11 HP2.out ?_;intro v11 e11 o11 k11;have Hk11:=hh_ k11;clear k11)
   refine⟨Hk11.out,?_⟩;clear N11 R11 z11 N10 z10 my10 my11 o8
   (refine tq_ 3 ?_;(repeat(go_big_quiet_step (fail)));refine wn_ ?_)
   (refine to_ ?_;intro y15 my15 dy15)
   clear dy15;have ax:=(my15.blk HB.out hbN).cell
   (try unfold Bu_ at ax)
   go_wp2_with fail
   refine⟨Keep.refl _ _ _ _ _ _,?_⟩;clear ax
   (refine tq_ 2 ?_;(repeat(go_big_quiet_step (fail)));refine wn_ ?_)
   generalize (if oc=K then oa else Option.map (fun x=>Addr.add x K) oa)=od at *
   (refine to_ ?_;intro y18 my18 dy18)
   have N18:=(dy18.out 11 (by omega) (by kernel_rfl)).own _ _ HP3.out o11;have R18:=my18.rd HRD.out (fun _ a n c e=>HRb.out a n c e);have z18:=lt_ HN2.out my18.grown.size;clear dy18
   go_wp2_with (at_builtin;refine Bh_ Ca_ B9_ (fun _=>rfl) N18 R18 Hb7.out hb8 hb9 z18 HP4.out ?_;intro v18 e18 o18 k18;have Hk18:=hh_ k18;clear k18)
   refine⟨Hk18.out,?_⟩;clear N18 R18 z18 o11 my15 my18
   (refine tq_ 2 ?_;(repeat(go_big_quiet_step (fail)));refine wn_ ?_)
   (refine Rg.tree_nil ?_;intro z mz dz cz)
   have OZ:=(dz.out 18 (by omega)).own _ _ HPF.out o18;have AZ:=mz.blk HB.out hbN;have GZ:=mz.grown;clear dz cz o18 Hg8 Hk11 Hk18 mz;generalize W.take K++[win]++W.drop K=LF at *;obtain⟨a18,c18,rfl⟩:=OZ.shape;generalize LF.length=nF at *;have az:=AZ.cell;unfold Bu_ at az;have fz:=AZ.free;obtain⟨H4,G4⟩:=H3.out.setW hN.symm (fun i hi=>hS3.out i (by omega)) ((GrownS.none_ KN).trans GZ (fun _ hi _=>hi)) OZ;replace H4:=hh_ H4;have G4h:=hh_ (G3h.out.trans G4 (fun _ hi _=>hi));have hS4:=hh_ (show ∀i,(z.setCell ⟨b,0,none⟩ (.slice a18 nF c18)).heap.size≤i→S i from fun i hi=>hS3.out i (lt_ G4.size hi))
   go_upto_region 9 with fail
   generalize z.setCell ⟨b,0,none⟩ (.slice a18 nF c18)=w4 at *;clear az fz AZ GZ OZ G4 H3 G3h hS3 KN hN HN2 hbN HB HO HOb HP0 HP1 HPx HPF HP3 HP2 HP4 Hb1 Hb7 hb2 hb3 hb4 hb5 hb8 hb9 hcap hKc hLc HRD HRb;clear my8
   have hKl:K≤T.length:=by omega
   have KN:World.grownBy w4 w4.drew none:=gw_;obtain⟨N,hN⟩:∃N,w4.heap.size=N:=⟨_,rfl⟩;have HN2:=hh_ (show N≤w4.drew.heap.size from Nat.le_of_eq hN.symm)
   have hbN:b<N:=by have:=H4.out.blk.lt;omega
   have HB:=hh_ (H4.out.blk.same KN);have HO:=hh_ (H4.out.ot.same KN);have HOb:=hh_ (show ∀k,Value.ownBlock (.slice ta L.length tc)=some k→k<N from fun k hk=>by have:=(H4.out.ot.lt k hk).2;omega);obtain⟨P,hP⟩:∃P:List Int→Prop,P=fun U=>U <+: T.take K++[x]++T.drop K∨U=[x]:=⟨_,rfl⟩;have HP0:=hh_ (show P [] by rw[hP];exact .inl List.nil_prefix);have HP1:=hh_ (show P (T.take K) by rw[hP];exact .inl (Hk_ _ _ _));have HPx:=hh_ (show P [x] by rw[hP];exact .inr rfl);have HPF:=hh_ (show P (T.take K++[x]++T.drop K) by rw[hP];exact .inl (List.prefix_refl _));have HP3:=hh_ (show P (T.take K++[x]) by rw[hP];exact .inl (List.prefix_append _ _));have HP2:=hh_ (show ∀U,P U→U.length≤(T.take K).length∨U <+: T.take K++[x]∨T.take K++[x] <+: U by rw[hP];exact cw_ (T.take K) (T.drop K) x);have HP4:=hh_ (show ∀U,P U→U.length≤(T.take K++[x]).length∨U <+: T.take K++[x]++T.drop K∨T.take K++[x]++T.drop K <+: U by rw[hP];exact ck_ (T.take K) (T.drop K) x);clear hP;have Hb1:=hh_ (show K =(T.take K).length by rw[lk_];omega);have Hb7:=hh_ (show L.length-K =(T.drop K).length by rw[List.length_drop];omega)
   have hb2 :(T.take K).length*8≤140737488355328:=by rw[←Hb1.out];omega
   have hb3 :(T.take K).length≤9223372036854775807:=by rw[←Hb1.out];omega
   have hb4 :((T.take K).length+1)*8≤140737488355328:=by rw[←Hb1.out];omega
   have hb5 :(T.take K).length+1≤9223372036854775807:=by rw[←Hb1.out];omega
   have hb8 :((T.take K++[x]).length+(T.drop K).length)*8≤140737488355328:=by rw[la_,←Hb1.out,←Hb7.out];simp only[lc_,List.length_nil];omega
   have hb9 :(T.take K++[x]).length+(T.drop K).length≤9223372036854775807:=by rw[la_,←Hb1.out,←Hb7.out];simp only[lc_,List.length_nil];omega
   have hcap:=H4.out.ot.cap
   have hKc :(K:Int)≤(tc:Int):=by omega
   have hLc :(L.length:Int)≤(tc:Int):=by omega
   have HRD:=HO.out.rd.drop Bf_ hKl hcap (tc-K);rw[hlen2] at HRD;simp only[Nat.mul_one] at HRD;replace HRD:=hh_ HRD;have HRb:=Cv_ (K:=K) (s:=1) (m:=L.length-K) (q:=tc-K) HOb.out;simp only[Nat.mul_one] at HRb;replace HRb:=hh_ HRb
   (refine Rg.wp_region_rgZ 21 #[] (Keep wordF 1 22 N P) (fun _ _ _ _ _=>False) (by kernel_rfl) (by kernel_rfl) (Keep.refl _ _ _ _ _) (fun _ _ _ h k=>h.trans k) (fun _ _ _ _ _ h=>h) ?_;simp only[List.take,List.drop])
   generalize w4.drew=wd at *
   (refine tq_ 1 ?_;(repeat(go_big_quiet_step (fail)));refine wn_ ?_)
   (refine to_ ?_;intro y1 my1 dy1)
   clear dy1;have z1:=lt_ HN2.out my1.grown.size
   go_wp2_with fail
   refine⟨Keep.of (ga_ _ _ _),?_⟩;have N1:=A0_ (e:=22) wordF 1 z1;generalize y1.alloc _=e1 at *;generalize y1.heap.size=g1 at *
   (refine tq_ 3 ?_;(repeat(go_big_quiet_step (fail)));refine wn_ ?_)
   (refine to_ ?_;intro y5 my5 dy5)
   clear dy5;have ax:=(my5.blk HB.out hbN).cell
   (try unfold Bu_ at ax)
   go_wp2_with fail
   refine⟨Keep.refl _ _ _ _ _ _,?_⟩;clear ax
   (refine tq_ 2 ?_;(repeat(go_big_quiet_step (fail)));refine wn_ ?_)
   (refine to_ ?_;intro y8 my8 dy8)
   have N8:=(dy8.out 1 (by omega) (by kernel_rfl)).own [] _ HP0.out N1;have R8:=my8.rd (HO.out.rd.take Bf_ hKl tc) (fun _ a n c e=>by cases e;exact HOb.out _ rfl);have z8:=lt_ HN2.out my8.grown.size;clear dy8
   go_wp2_with (at_builtin;refine A5_ Dk_ Dm_ N8 R8 Hb1.out hb2 hb3 z8 ?_;intro v8 e8 o8 g8 l8;have Hg8:=hh_ g8;clear g8 l8)
   refine⟨Keep.of Hg8.out,?_⟩;clear N8 R8 z8 N1 my5 my1 z1
   (refine tq_ 1 ?_;(repeat(go_big_quiet_step (fail)));refine wn_ ?_)
   (refine to_ ?_;intro y10 my10 dy10)
   clear dy10;have z10:=lt_ HN2.out my10.grown.size
   go_wp2_with fail
   refine⟨Keep.of (ga_ _ _ _),?_⟩;have N10:Own wordF 1 22 N (y10.alloc (.cells #[.int .u64 x] 22)) (.slice (some ⟨y10.heap.size,0,none⟩) 1 1) [x]:=Cb_ (fun _=>rfl) y10 z10 x _ rfl;generalize y10.alloc _=e10 at *;generalize y10.heap.size=g10 at *
   (refine to_ ?_;intro y11 my11 dy11)
   have N11:=(dy11.out 8 (by omega) (by kernel_rfl)).own _ _ HP1.out o8;have R11:=((dy11.out 10 (by omega) (by kernel_rfl)).own _ _ HPx.out N10).rd;have z11:=lt_ HN2.out my11.grown.size;clear dy11
   go_wp2_with (at_builtin;refine Bh_ Dk_ Dm_ (fun _=>rfl) N11 R11 rfl hb4 hb5 z11 HP2.out ?_;intro v11 e11 o11 k11;have Hk11:=hh_ k11;clear k11)
   refine⟨Hk11.out,?_⟩;clear N11 R11 z11 N10 z10 my10 my11 o8
   (refine tq_ 3 ?_;(repeat(go_big_quiet_step (fail)));refine wn_ ?_)
   (refine to_ ?_;intro y15 my15 dy15)
   clear dy15;have ax:=(my15.blk HB.out hbN).cell
   (try unfold Bu_ at ax)
   go_wp2_with fail
   refine⟨Keep.refl _ _ _ _ _ _,?_⟩;clear ax
   (refine tq_ 2 ?_;(repeat(go_big_quiet_step (fail)));refine wn_ ?_)
   generalize (if tc=K then ta else Option.map (fun x=>Addr.add x K) ta)=od at *
   (refine to_ ?_;intro y18 my18 dy18)
   have N18:=(dy18.out 11 (by omega) (by kernel_rfl)).own _ _ HP3.out o11;have R18:=my18.rd HRD.out (fun _ a n c e=>HRb.out a n c e);have z18:=lt_ HN2.out my18.grown.size;clear dy18
   go_wp2_with (at_builtin;refine Bh_ Dk_ Dm_ (fun _=>rfl) N18 R18 Hb7.out hb8 hb9 z18 HP4.out ?_;intro v18 e18 o18 k18;have Hk18:=hh_ k18;clear k18)
   refine⟨Hk18.out,?_⟩;clear N18 R18 z18 o11 my15 my18
   (refine tq_ 2 ?_;(repeat(go_big_quiet_step (fail)));refine wn_ ?_)
   (refine Rg.tree_nil ?_;intro z mz dz cz)
   have OZ:=(dz.out 18 (by omega)).own _ _ HPF.out o18;have AZ:=mz.blk HB.out hbN;have GZ:=mz.grown;clear dz cz o18 Hg8 Hk11 Hk18 mz;generalize T.take K++[x]++T.drop K=LF at *;obtain⟨a18,c18,rfl⟩:=OZ.shape;generalize LF.length=nF at *;have az:=AZ.cell;unfold Bu_ at az;have fz:=AZ.free;obtain⟨H5,G5⟩:=H4.out.setT hN.symm (fun i hi=>hS4.out i (by omega)) ((GrownS.none_ KN).trans GZ (fun _ hi _=>hi)) OZ;rw[←hm1.out,←hm2.out,←HP.out] at H5;replace H5:=hh_ H5;have G5h:=hh_ (G4h.out.trans G5 (fun _ hi _=>hi))
   go_wp2_with fail
   go_ret
   exact⟨rfl,⟨⟨_,_,_,H5.out⟩,HAL.out,HKL.out,HVL.out,H.out.len,H.out.rw⟩,G5h.out⟩
  ·obtain⟨h1,h2⟩:=L3_ H.out.asc hF
   have hlen :(L.map (·.2)).length=L.length:=by simp
   obtain⟨g,cap,hv,_,hgl,hcap,hck,hfr⟩:=H3.out.ot.at_ Bf_ (i:=ldK L win) (by rw[hlen];exact h1);have ck:=hck 0 _ rfl;have fk:=hfr (ldK L win)
   have e1 :(L.map (·.2))[ldK L win]'(by rw[hlen];exact h1)=ldAt L win:=by
    rw[List.getElem_map]
    have:=(gs_ h2).2
    rw[this]
   rw[e1,Nat.mul_one,Nat.add_zero] at ck;rw[hlen] at hv;subst hv;have HP:=hh_ (Mf_ (n:=x) H.out.asc hF)
   have hm1:=hh_ (show(L.set (ldK L win) (win,ldAt L win+x)).map (·.1)=L.map (·.1) by
    rw[List.map_set]
    have e:win =(L.map (·.1))[ldK L win]'(by simpa using h1):=by
     rw[List.getElem_map]
     have:=(gs_ h2).2
     rw[this]
    exact(congrArg (fun v=>(L.map (·.1)).set (ldK L win) v) e).trans (List.set_getElem_self _))
   have hm2:=hh_ (show(L.set (ldK L win) (win,ldAt L win+x)).map (·.2) =(L.map (·.2)).set (ldK L win) (ldAt L win+x) by rw[List.map_set]);obtain⟨H4,G4⟩:=H3.out.putT (i:=ldK L win) (by rw[hlen];exact h1) (ldAt L win+x);rw[←hm1.out,←hm2.out,←HP.out] at H4;have H4':=hh_ H4;have G4':=hh_ (G3h.out.trans G4 (fun _ hi _=>hi));have ax:=H3.out.blk.cell;unfold Bu_ at ax
   have hk0 :(0:Int)≤(ldK L win:Int):=by omega
   have hk1 :(ldK L win:Int)<(L.length:Int):=by omega
   clear H4 G4 h2 hF e1 hck hfr hlen;generalize ldAt L win=T at *;generalize ldK L win=K at *
   go_wp2_with fail
   go_ret
   exact⟨rfl,⟨⟨_,_,_,H4'.out⟩,HAL.out,HKL.out,HVL.out,H.out.len,H.out.rw⟩,G4'.out⟩
theorem RSh.ins {G:RshG} {c:Cfg} {S:ShM} (h:RSh w G c t S) (k:GrownS (oneF G.g) w w') {T0:RtG} {X0:Ao_} (hR:RTier w' T0 c t X0) (hT0:∀i,T0.F i→w.heap.size≤i) {K:Nat} (hK:K≤S.ts.length) (win:Int) {vw' vt':Value}
  (hb:Blk w' G.g (rshA c G.vq vw' vt')) (ow:Own intF 1 3 0 w' vw' (S.ws.take K++[win]++S.ws.drop K)) (ot:Own ptrF 1 181 0 w' vt' ((G.ts.map (·.g)).take K++[T0.g]++(G.ts.map (·.g)).drop K))
  (h1:∀i,ownF vw' i→w.heap.size≤i) (h2:∀i,ownF vt' i→w.heap.size≤i) (h3:Off (ownF vw') T0.F) (h4:Off (ownF vt') T0.F) :
  RSh w' ⟨G.g,G.vq,vw',vt',G.ts.take K++[T0]++G.ts.drop K⟩ c t ⟨S.queue,S.ts.take K++[(win,X0)]++S.ts.drop K⟩∧Mov G.F (RshG.F ⟨G.g,G.vq,vw',vt',G.ts.take K++[T0]++G.ts.drop K⟩) w w':=by
 have hlow:=h.low
 have hlw:∀U∈G.ts,∀i,U.F i→i<w.heap.size:=fun U hU i hi=>hlow i (.inr (.inr (.inr (.inr ⟨U,hU,hi⟩))))
 have hgl:=h.blk.lt
 have hgt:∀T∈G.ts,Off T.F (oneF G.g):=fun T hT i hi e=>h.n4 T hT (by rw[←show i=G.g from e];exact hi)
 refine⟨⟨hb,Br_ h.q k fun i hi e=>h.n1 (by rw[←show i=G.g from e];exact hi),h.qc,h.ql.up k.size,?_,?_,?_,?_,?_,h.n1,fun hi=>Nat.lt_irrefl _ (ll_ hgl (h1 _ hi)),fun hi=>Nat.lt_irrefl _ (ll_ hgl (h2 _ hi)),?_,?_,?_,?_⟩,⟨k.mono fun i e _=>.inl e,fun i hi=>?_⟩⟩
 ·have:ShM.ws ⟨S.queue,S.ts.take K++[(win,X0)]++S.ts.drop K⟩=S.ws.take K++[win]++S.ws.drop K:=by simp[ShM.ws,List.map_take,List.map_drop]
  rw[this];exact ow
 ·have :(G.ts.take K++[T0]++G.ts.drop K).map (·.g) =(G.ts.map (·.g)).take K++[T0.g]++(G.ts.map (·.g)).drop K:=by simp[List.map_take,List.map_drop]
  show Own ptrF 1 _ 0 w' vt' ((G.ts.take K++[T0]++G.ts.drop K).map (·.g))
  rw[this];exact ot
 ·have:=h.len;simp only[la_,lk_,List.length_drop,ls_];omega
 ·intro i T p e1 e2
  dsimp only at e1 e2;rw[If_ (by have:=h.len;omega)] at e1;rw[If_ hK] at e2
  by_cases hi:i<K
  ·rw[if_pos hi] at e1 e2
   exact(h.tier i T p e1 e2).keptS k (hgt T (mo_ e1))
  ·rw[if_neg hi] at e1 e2
   by_cases hi2:i=K
   ·rw[if_pos hi2] at e1 e2
    cases e1;cases e2;exact hR
   ·rw[if_neg hi2] at e1 e2
    exact(h.tier _ T p e1 e2).keptS k (hgt T (mo_ e1))
 ·exact Y2_ h.ap (fun U hU i hi hf=>by have:=hlw U hU i hi;have:=hT0 i hf;omega) (fun U hU i hf hi=>by have:=hlw U hU i hi;have:=hT0 i hf;omega)
 ·intro U hU
  rcases mem_ins.1 hU with rfl|hU
  ·intro hi;exact Nat.lt_irrefl _ (ll_ hgl (hT0 _ hi))
  ·exact h.n4 U hU
 ·intro U hU
  rcases mem_ins.1 hU with rfl|hU
  ·intro i hi hf;have:=h.ql i hi;have:=hT0 _ hf;omega
  ·exact h.m1 U hU
 ·intro U hU
  rcases mem_ins.1 hU with rfl|hU
  ·exact h3
  ·intro i hi hf;have:=h1 i hi;have:=hlw U hU i hf;omega
 ·intro U hU
  rcases mem_ins.1 hU with rfl|hU
  ·exact h4
  ·intro i hi hf;have:=h2 i hi;have:=hlw U hU i hf;omega
 ·rcases hi with hi|hi|hi|hi |⟨U,hU,hi⟩
  ·exact .inl (.inl hi)
  ·exact .inl (.inr (.inl hi))
  ·exact .inr (h1 i hi)
  ·exact .inr (h2 i hi)
  ·rcases mem_ins.1 hU with rfl|hU
   ·exact .inr (hT0 i hi)
   ·exact .inl (.inr (.inr (.inr (.inr ⟨U,hU,hi⟩))))
theorem Yj_ (G:RshG) (c:Cfg) (t:List Int) (x:B4_) (q:List B4_) (ts:List (Int×Ao_)) (w:World) (h:RSh w G c t ⟨x::q,ts⟩) (hok:ShOk c ⟨x::q,ts⟩) (hn:Bl_ c) (ht:RdL wordF 1 w c.Table t) (hto:Off (ownF c.Table) G.F) (htl:t.length=16) (hi:posW (ts.map (·.1)) x.win=none) (hts:ts.length≤1000000000) :
  Calls prog 92 #[.pointer (some ⟨G.g,0,none⟩)] w (Le_ G c t ⟨x::q,ts⟩ w):=by
 obtain⟨g0,off,qc,hqv,hgl,hc⟩:=h.q.at_ Bz_ (show 0<(x::q).length by simp)
 have c0:=hh_ fun y (k:w.grownBy y none)=>((h.same k).q.at_ Bz_ (show 0<(x::q).length by simp))
 have hqcap :(x::q).length≤qc:=h.qc _ _ _ hqv
 have B0:=hh_ fun y (k:w.grownBy y none)=>(h.same k).blk
 have CT:=hh_ fun(G':RshG) y (k:RSh y G' c t ⟨q,ts⟩)=>I1_ G' c t ⟨q,ts⟩ x.win y k
 have hR4:=hh_ h;have hcl :(x::q).length=q.length+1:=rfl;have hqr:=h.q;rw[hqv,hcl] at hqr;rw[hqv,hcl] at B0;have d0:=hc 0 _ rfl;have d1:=hc 1 _ rfl;have d2:=hc 2 _ rfl;have d3:=hc 3 _ rfl;simp only[Nat.zero_mul,Nat.add_zero] at d0 d1 d2 d3;have b0:=(B0.out w (Ab_ _ _)).cell;have hql:=hh_ h.ql;obtain⟨od,hod⟩:∃od,(if qc=1 then some (⟨g0,off,none⟩:Addr) else some ⟨g0,off+4,none⟩)=od:=⟨_,rfl⟩;have R1:=RdL.dropS (l:=x::q) Bz_ (by rw[←hcl] at hqr;exact hqr) (k:=1) (by simp) hqcap (qc-1);rw[Nat.one_mul,hod] at R1;have HR1:=hh_ (show RdL waitF 4 w (.slice od q.length (qc-1)) q from R1)
 have hq1:1≤qc:=by simp at hqcap;omega
 have hqz :(q.length:Int)+1≤(qc:Int):=by simp at hqcap;omega
 have hod2:=hh_ (show ∀k,ownF (.slice od q.length (qc-1)) k→ownF G.vq k by
  intro k hk;rw[hqv];subst hod;unfold ownF at hk ⊢
  split at hk
  ·simpa [Value.ownBlock] using hk
  ·simpa [Value.ownBlock] using hk)
 clear h hc c0 hqr R1
 go_enter func92,ntmps92
 go_upto_region 4 with fail
 have A1:=Blk.new w #[.int .i64 x.win,.string x.it.key,.int .i64 x.it.time,.int .u64 x.it.weight] 177;have g1:=ga_ w (.cells #[.int .i64 x.win,.string x.it.key,.int .i64 x.it.time,.int .u64 x.it.weight] 177) none
 have hz1:w.heap.size<(w.alloc (.cells #[.int .i64 x.win,.string x.it.key,.int .i64 x.it.time,.int .u64 x.it.weight] 177)).heap.size:=by simp
 generalize w.alloc _=w1 at *;generalize hq4:w.heap.size=bx at *;clear b0 d0 d1 d2 d3;have b1:=(B0.out _ g1).cell;have f1:=(B0.out _ g1).free;obtain⟨R4,M4⟩:=hR4.out.setQ g1 (HR1.out.same g1) (fun a n k e=>by cases e;simp at hqcap;omega) (fun k hk=>.inl (hod2.out k hk));have HR5:=hh_ R4;have HM5:=hh_ M4
 go_upto_region 5 with fail
 have hgb:G.g<bx:=by have:=hR4.out.blk.lt;omega
 have A4:=A1.kept (Ac_ (Ab_ w1 (some G.g)) 17 (.slice od q.length (qc-1))) (by simp;omega);clear R4 M4 b1 f1 A1 hod;generalize w1.setCell ⟨G.g,17,none⟩ (.slice od q.length (qc-1))=w4 at *;obtain⟨G4,hG4⟩:∃G4:RshG,{ G with vq:=.slice od q.length (qc-1) }=G4:=⟨_,rfl⟩
 have hg4:G4.g=G.g:=by rw[←hG4]
 rw[hG4] at HR5 HM5;have HT:=hh_ (show Ik_ G4 ⟨q,ts⟩ x.win=.pointer none by unfold Ik_;rw[show posW (ShM.ws ⟨q,ts⟩) x.win=none from hi]);have hxw:=(hok.waits x (by simp)).2.2.1;have CT2:=hh_ (CT.out G4 w4 HR5.out);rw[HT.out,hg4] at CT2;have hta:=Iw_ (S:=⟨q,ts⟩) hi;dsimp only at hta;have HST:=hh_ (show stepE ⟨x::q,ts⟩ c =(tier0 c).err x.it.key x.it.weight by unfold stepE;dsimp only;rw[hta];rfl)
 have HSS:=hh_ (show stepS c t ⟨x::q,ts⟩ =⟨q,ts.take (cntW (ts.map (·.1)) x.win)++[(x.win,(tier0 c).addE c t x.it.key x.it.weight)]++ts.drop (cntW (ts.map (·.1)) x.win)⟩ by
  unfold stepS tsAdd;dsimp only
  rw[hi])
 have HTab:=hh_ (show RdL wordF 1 w4 c.Table t from Br_ ht HM5.out.grown hto)
 have CN:=hh_ fun y (k:w4.grownBy y none)=>Sk_ c t y hn (RdL.same HTab.out k) htl
 clear hi hta CT B0 hR4 HR1 hod2 hql hqv hqcap ht hto;have a4:=A4.cell
 go_upto_region 7 with(go_at_call 93;refine CT2.out.mono ?_;rintro e w5 ⟨rfl,g5⟩)
 have HR5b:=hh_ (HR5.out.same g5);have HA5:=hh_ (A4.same g5);have HCf:=HR5b.out.cfgIn;rw[hg4] at HCf;have CN2:=hh_ (CN.out _ g5);clear a4 A4 CN CT2
 go_upto_region 11 with(first
  |(refine Bt_ rfl _ rfl _ rfl c HCf ?_)
  |(go_at_call 122;refine CN2.out.mono ?_;rintro e w6 ⟨T0,rfl,RT0,hT0,g6⟩))
 have HR7:=hh_ (HR5b.out.same g6);have HRT:=hh_ RT0;have HT0:=hh_ (show ∀i,T0.F i→w4.heap.size≤i from fun i hi=>by have:=hT0 i hi;have:=g5.size;omega);have HA7:=hh_ (HA5.out.same g6);have HG7:=hh_ (Aa_ g5 g6);have hlen7:=HR7.out.len
 have hwsl :(ShM.ws ⟨q,ts⟩).length=ts.length:=by simp[ShM.ws]
 have hgsl :(G4.ts.map (·.g)).length=ts.length:=by simp[hlen7]
 obtain⟨wa,wcp,hwv⟩:=HR7.out.wn.shape;obtain⟨ta,tcp,htv⟩:=HR7.out.tp.shape;have ow0:=HR7.out.wn;have ot0:=HR7.out.tp;have bw0:=HR7.out.blk;rw[hwv,htv,hg4] at bw0;rw[hwv] at ow0;rw[htv] at ot0;rw[hwsl] at bw0 ow0;rw[hgsl] at bw0 ot0;have HLW:=hh_ (show(ts.map (·.1)).length=ts.length by simp);have HGS:=hh_ hgsl;have OW:=hh_ (show Own intF 1 3 0 w6 (.slice wa ts.length wcp) (ts.map (·.1)) from ow0);have OT:=hh_ ot0;have BW:=hh_ bw0;clear ow0 ot0 bw0
 have HK1:=hh_ fun(j:Nat) (y:Int) (h1:j<cntW (ts.map (·.1)) x.win) (h2 :(ts.map (·.1))[j]?=some y)=>Ox_ h1 h2
 have HK2:=hh_ fun(y:Int) (h1 :(ts.map (·.1))[cntW (ts.map (·.1)) x.win]?=some y)=>Pr_ h1
 have hKl0:cntW (ts.map (·.1)) x.win≤ts.length:=by have:=Ku_ (w:=x.win) (ws:=ts.map (·.1));rwa [HLW.out] at this
 clear RT0 hT0 g5 g6 HA5 HR5b HCf CN2 hwsl hgsl hlen7;obtain⟨W,hW⟩:∃W,ts.map (·.1)=W:=⟨_,rfl⟩;obtain⟨K,hK⟩:∃K,cntW W x.win=K:=⟨_,rfl⟩;rw[hW] at HK1 HK2 hKl0 HLW OW;rw[hK] at HK1 HK2 hKl0;have HW:=hh_ hW;have HKK:=hh_ hK;obtain⟨L,hL⟩:∃L,ts.length=L:=⟨_,rfl⟩;rw[hL] at hKl0 HLW OW OT BW HGS hts;have HL:=hh_ hL;clear hW hK hL
 go_cut [8] (fun s8 wx=>s8=.int .i64 0∧w6=wx)
 case first=>
  go_wp2_with fail
  go_meet
  exact⟨rfl,rfl⟩
 obtain⟨rfl,rfl⟩:=hcut
 rename_i hKx
 refine hKx _ _ ?_
 apply wp_seq_k
 intro K1 hK1
 go_cut [8,47,48,49,50,51,52,53,54,55,56,57,58,59,60,61,62,63,64,65,66,67] (fun s8 _ _ _ _ _ _ _ _ _ _ _ _ _ _ _ _ _ _ _ _ _ wx=>s8=.int .i64 K∧w6.grownBy wx none)
 case first=>
  go_wp2_with fail
  go_loopw [8] (fun s8 wk=>∃k:Nat,k≤K∧s8=.int .i64 k∧w6.grownBy wk none) (fun s8 _=>K-(Go.RowKit.intOf s8).toNat)
  case atStart=>exact⟨0,zl_ _,rfl,Ab_ _ _⟩
  case round=>
   obtain⟨k,hk,rfl,hg⟩:=hrel;have ax:=(BW.out.same hg).cell;have bxc:=(HA7.out.same hg).cell;have hHG:=hh_ hg
   by_cases hlt:k<L
   ·obtain⟨gw,cw,hv,_,_,_,hc,_⟩:=(OW.out.same hg).at_ Bc_ (i:=k) (by rw[HLW.out];exact hlt)
    rw[HLW.out] at hv;cases hv;have ck:=hc 0 _ rfl;rw[Nat.mul_one,Nat.add_zero] at ck;have hp:W[k]?=some (W[k]'(by rw[HLW.out];exact hlt)):=gq_ _
    have hlt2 :(k:Int)<(L:Int):=by omega
    have hk0 :(0:Int)≤(k:Int):=by omega
    by_cases hkK:k<K
    ·have hless:=HK1.out k _ hkK hp
     generalize W[k]'(by rw[HLW.out];exact hlt)=y at *;clear hp hc
     go_wp2_with fail
     go_quiet (fail)
     go_wp2_with fail
     exact⟨⟨k+1,by omega,by go_num,Ae_ hHG.out _⟩,by simp[Go.RowKit.intOf];omega⟩
    ·obtain rfl:k=K:=by omega
     have hless:=HK2.out _ hp;generalize W[k]'(by rw[HLW.out];exact hlt)=y at *;clear hp hc
     go_wp2_with fail
     go_quiet (fail)
     go_wp2_with fail
     go_meet
     exact⟨rfl,Ae_ hHG.out _⟩
   ·obtain rfl:k=K:=by omega
    obtain rfl:k=L:=by omega
    have hlt2:decide ((k:Int)<(k:Int))=false:=df_ (by omega)
    go_wp2_with fail
    go_quiet (fail)
    go_wp2_with fail
    go_meet
    exact⟨rfl,Ae_ hHG.out _⟩
 case rest=>
  obtain⟨rfl,g7⟩:=hcut;refine hK1 _ _ ?_;have HBw:=hh_ (BW.out.same g7);have HXw:=hh_ (HA7.out.same g7);have OWc:=hh_ (OW.out.same g7);have OTc:=hh_ (OT.out.same g7);have hG7:=hh_ g7;have hLW:=HLW.out;have hz6:=g7.size;clear BW OW OT HK1 HK2 g7 hKx hK1
  go_upto_region 14 with fail
  have hKl:K≤W.length:=by omega
  have KN:World.grownBy wc wc.drew none:=gw_;obtain⟨N,hN⟩:∃N,wc.heap.size=N:=⟨_,rfl⟩;have HN2:=hh_ (show N≤wc.drew.heap.size from Nat.le_of_eq hN.symm)
  have hbN:G.g<N:=by have:=HBw.out.lt;omega
  have hxN:bx<N:=by have:=HXw.out.lt;omega
  have HB:=hh_ (HBw.out.same KN);have HX:=hh_ (HXw.out.same KN);have HO:=hh_ (OWc.out.same KN);have HOb:=hh_ (show ∀k,Value.ownBlock (.slice wa L wcp)=some k→k<N from fun k hk=>by have:=(OWc.out.lt k hk).2;omega);obtain⟨P,hP⟩:∃P:List _→Prop,P=fun T=>T <+: W.take K++[x.win]++W.drop K∨T=[x.win]:=⟨_,rfl⟩;have HP0:=hh_ (show P [] by rw[hP];exact .inl List.nil_prefix);have HP1:=hh_ (show P (W.take K) by rw[hP];exact .inl (Hk_ _ _ _));have HPx:=hh_ (show P [x.win] by rw[hP];exact .inr rfl);have HPF:=hh_ (show P (W.take K++[x.win]++W.drop K) by rw[hP];exact .inl (List.prefix_refl _));have HP3:=hh_ (show P (W.take K++[x.win]) by rw[hP];exact .inl (List.prefix_append _ _));have HP2:=hh_ (show ∀T,P T→T.length≤(W.take K).length∨T <+: W.take K++[x.win]∨W.take K++[x.win] <+: T by rw[hP];exact Uz_ (W.take K) (W.drop K) x.win);have HP4:=hh_ (show ∀T,P T→T.length≤(W.take K++[x.win]).length∨T <+: W.take K++[x.win]++W.drop K∨W.take K++[x.win]++W.drop K <+: T by rw[hP];exact Vy_ (W.take K) (W.drop K) x.win);clear hP;have Hb1:=hh_ (show K =(W.take K).length by rw[lk_];omega);have Hb7:=hh_ (show L-K =(W.drop K).length by rw[List.length_drop];omega)
  have hb2 :(W.take K).length*8≤140737488355328:=by rw[←Hb1.out];omega
  have hb3 :(W.take K).length≤9223372036854775807:=by rw[←Hb1.out];omega
  have hb4 :((W.take K).length+1)*8≤140737488355328:=by rw[←Hb1.out];omega
  have hb5 :(W.take K).length+1≤9223372036854775807:=by rw[←Hb1.out];omega
  have hb8 :((W.take K++[x.win]).length+(W.drop K).length)*8≤140737488355328:=by rw[la_,←Hb1.out,←Hb7.out];simp only[lc_,List.length_nil];omega
  have hb9 :(W.take K++[x.win]).length+(W.drop K).length≤9223372036854775807:=by rw[la_,←Hb1.out,←Hb7.out];simp only[lc_,List.length_nil];omega
  have hcap:=OWc.out.cap
  have hKc :(K:Int)≤(wcp:Int):=by omega
  have hLc :(L:Int)≤(wcp:Int):=by omega
  have hLL:W.length=L:=by omega
  have HRD:=HO.out.rd.drop Bc_ hKl (by omega) (wcp-K);rw[hLL] at HRD;simp only[Nat.mul_one] at HRD;replace HRD:=hh_ HRD;have HRb:=Cv_ (K:=K) (s:=1) (m:=L-K) (q:=wcp-K) HOb.out;simp only[Nat.mul_one] at HRb;replace HRb:=hh_ HRb
  (refine Rg.wp_region_rgZ 22 #[] (Keep intF 1 3 N P) (fun _ _ _ _ _=>False) (by kernel_rfl) (by kernel_rfl) (Keep.refl _ _ _ _ _) (fun _ _ _ h k=>h.trans k) (fun _ _ _ _ _ h=>h) ?_;simp only[List.take,List.drop])
  have HWD:=hh_ (show World.grownBy wc (wc.drew) none from gw_);generalize wc.drew=wd at *
  (refine tq_ 1 ?_;(repeat(go_big_quiet_step (fail)));refine wn_ ?_)
  (refine to_ ?_;intro y1 my1 dy1)
  clear dy1;have z1:=lt_ HN2.out my1.grown.size
  go_wp2_with fail
  refine⟨Keep.of (ga_ _ _ _),?_⟩;have N1:=A0_ (e:=3) intF 1 z1;generalize y1.alloc _=e1 at *;generalize y1.heap.size=g1 at *
  (refine tq_ 3 ?_;(repeat(go_big_quiet_step (fail)));refine wn_ ?_)
  (refine to_ ?_;intro y5 my5 dy5)
  clear dy5;have ax:=(my5.blk HB.out hbN).cell
  (try unfold Bu_ at ax)
  go_wp2_with fail
  refine⟨Keep.refl _ _ _ _ _ _,?_⟩;clear ax
  (refine tq_ 2 ?_;(repeat(go_big_quiet_step (fail)));refine wn_ ?_)
  (refine to_ ?_;intro y8 my8 dy8)
  have N8:=(dy8.out 1 (by omega) (by kernel_rfl)).own [] _ HP0.out N1;have R8:=my8.rd (HO.out.rd.take Bc_ hKl wcp) (fun _ a n c e=>by cases e;exact HOb.out _ rfl);have z8:=lt_ HN2.out my8.grown.size;clear dy8
  go_wp2_with (at_builtin;refine A5_ Ca_ B9_ N8 R8 Hb1.out hb2 hb3 z8 ?_;intro v8 e8 o8 g8 l8;have Hg8:=hh_ g8;clear g8 l8)
  refine⟨Keep.of Hg8.out,?_⟩;clear N8 R8 z8 N1 my5 my1 z1
  (refine tq_ 1 ?_;(repeat(go_big_quiet_step (fail)));refine wn_ ?_)
  (refine to_ ?_;intro y10 my10 dy10)
  clear dy10;have ax:=(my10.blk HX.out hxN).cell
  go_wp2_with fail
  refine⟨Keep.refl _ _ _ _ _ _,?_⟩;clear ax my10
  (refine to_ ?_;intro y11 my11 dy11)
  clear dy11;have z11:=lt_ HN2.out my11.grown.size
  go_wp2_with fail
  refine⟨Keep.of (ga_ _ _ _),?_⟩;have N11:Own intF 1 3 N (y11.alloc (.cells #[.int .i64 x.win] 3)) (.slice (some ⟨y11.heap.size,0,none⟩) 1 1) [x.win]:=Cb_ (fun _=>rfl) y11 z11 x.win _ rfl;generalize y11.alloc _=e11 at *;generalize y11.heap.size=g11 at *
  (refine to_ ?_;intro y12 my12 dy12)
  have N12:=(dy12.out 8 (by omega) (by kernel_rfl)).own _ _ HP1.out o8;have R12:=((dy12.out 11 (by omega) (by kernel_rfl)).own _ _ HPx.out N11).rd;have z12:=lt_ HN2.out my12.grown.size;clear dy12
  go_wp2_with (at_builtin;refine Bh_ Ca_ B9_ (fun _=>rfl) N12 R12 rfl hb4 hb5 z12 HP2.out ?_;intro v12 e12 o12 k12;have Hk12:=hh_ k12;clear k12)
  refine⟨Hk12.out,?_⟩;clear N12 R12 z12 N11 z11 my11 my12 o8
  (refine tq_ 3 ?_;(repeat(go_big_quiet_step (fail)));refine wn_ ?_)
  (refine to_ ?_;intro y16 my16 dy16)
  clear dy16;have ax:=(my16.blk HB.out hbN).cell
  (try unfold Bu_ at ax)
  go_wp2_with fail
  refine⟨Keep.refl _ _ _ _ _ _,?_⟩;clear ax
  (refine tq_ 2 ?_;(repeat(go_big_quiet_step (fail)));refine wn_ ?_)
  generalize (if wcp=K then wa else Option.map (fun x=>Addr.add x K) wa)=od at *
  (refine to_ ?_;intro y19 my19 dy19)
  have N19:=(dy19.out 12 (by omega) (by kernel_rfl)).own _ _ HP3.out o12;have R19:=my19.rd HRD.out (fun _ a n c e=>HRb.out a n c e);have z19:=lt_ HN2.out my19.grown.size;clear dy19
  go_wp2_with (at_builtin;refine Bh_ Ca_ B9_ (fun _=>rfl) N19 R19 Hb7.out hb8 hb9 z19 HP4.out ?_;intro v19 e19 o19 k19;have Hk19:=hh_ k19;clear k19)
  refine⟨Hk19.out,?_⟩;clear N19 R19 z19 o12 my16 my19
  (refine tq_ 2 ?_;(repeat(go_big_quiet_step (fail)));refine wn_ ?_)
  (refine Rg.tree_nil ?_;intro z mz dz cz)
  have OZ:=(dz.out 19 (by omega)).own _ _ HPF.out o19;have AZ:=mz.blk HB.out hbN;have GZ:=mz.grown;clear dz cz o19 Hg8 Hk12 Hk19 mz
  have gz:wc.grownBy z none:=((GrownS.none_ (S:=fun i=>N≤i) (show wc.grownBy wd none from HWD.out)).trans GZ (fun _ hi _=>hi)).back fun i hi=>by omega
  have hNz:wc.heap.size≤z.heap.size:=gz.size;have HOZ:=hh_ (OZ.base fun k hk=>(show wc.heap.size≤k by have:=(OZ.lt k hk).1;omega));obtain⟨az19,cz19,hvz⟩:=OZ.shape;subst hvz;have HAZ:=hh_ AZ;have hgz:=hh_ gz;clear OZ AZ GZ gz;clear hN HN2 hbN hxN HB HX HO HOb HP0 HP1 HPx HPF HP3 HP2 HP4 Hb1 Hb7 hb2 hb3 hb4 hb5 hb8 hb9 hcap hKc hLc HRD HRb KN hLL hKl;generalize hLF:W.take K++[x.win]++W.drop K=LF at *;have HLF:=hh_ hLF;clear hLF;generalize LF.length=nF at *;have az:=HAZ.out.cell;have fz:=HAZ.out.free
  go_upto_region 15 with fail
  have hs8:z.grownBy (z.setCell ⟨G.g,18,none⟩ (.slice az19 nF cz19)) (some G.g):=Ac_ (Ab_ z (some G.g)) 18 _;have hgw:G.g<wc.heap.size:=HBw.out.lt;have hbxw:bx<wc.heap.size:=HXw.out.lt
  have hTg:∀k,(Value.slice ta L tcp).ownBlock=some k→k≠G.g:=fun k hk e=>HR7.out.n3 (by rw[htv];rw[show(G4.ts.map (·.g)).length=L from HGS.out];show ownF _ G4.g;rw[hg4];unfold ownF;rw[hk,e])
  have HB8:=hh_ (HAZ.out.set_ 18 (.slice az19 nF cz19) rfl);have HX8:=hh_ ((HXw.out.same hgz.out).kept hs8 (by simp;omega));have HOW8:=hh_ (HOZ.out.kept hs8 (fun k hk e=>by cases e;have:=(HOZ.out.lt _ hk).1;omega));have HOT8:=hh_ ((OTc.out.same hgz.out).kept hs8 (fun k hk e=>by cases e;exact hTg _ hk rfl));have hG8:=hh_ ((GrownS.none_ (S:=oneF G.g) (Aa_ hG7.out hgz.out)).trans (GrownS.of (S:=oneF G.g) hs8 fun k e=>by cases e;rfl) (fun _ h _=>h));have hsz8:=hs8.size;clear az fz hs8 HAZ HOZ OTc OWc HBw HXw hgz hTg;have hwcz:wc.heap.size≤(z.setCell ⟨G.g,18,none⟩ (.slice az19 nF cz19)).heap.size:=lt_ hNz hsz8;clear hsz8 hNz;generalize z.setCell ⟨G.g,18,none⟩ (.slice az19 nF cz19)=w8 at *;clear z;have HBw:=HB8;have HXw:=HX8;clear HB8 HX8;have hgsL :(G4.ts.map (·.g)).length=L:=HGS.out;obtain⟨gs,hgs⟩:∃gs,G4.ts.map (·.g)=gs:=⟨_,rfl⟩;rw[hgs] at HOT8 hgsL;have HGs:=hh_ hgs;clear hgs
  have hKl:K≤gs.length:=by omega
  have KN:World.grownBy w8 w8.drew none:=gw_;obtain⟨N,hN⟩:∃N,w8.heap.size=N:=⟨_,rfl⟩;have HN2:=hh_ (show N≤w8.drew.heap.size from Nat.le_of_eq hN.symm)
  have hbN:G.g<N:=by have:=HBw.out.lt;omega
  have hxN:bx<N:=by have:=HXw.out.lt;omega
  have HB:=hh_ (HBw.out.same KN);have HX:=hh_ (HXw.out.same KN);have HO:=hh_ (HOT8.out.same KN);have HOb:=hh_ (show ∀k,Value.ownBlock (.slice ta L tcp)=some k→k<N from fun k hk=>by have:=(HOT8.out.lt k hk).2;omega);obtain⟨P,hP⟩:∃P:List _→Prop,P=fun T=>T <+: gs.take K++[T0.g]++gs.drop K∨T=[T0.g]:=⟨_,rfl⟩;have HP0:=hh_ (show P [] by rw[hP];exact .inl List.nil_prefix);have HP1:=hh_ (show P (gs.take K) by rw[hP];exact .inl (Hk_ _ _ _));have HPx:=hh_ (show P [T0.g] by rw[hP];exact .inr rfl);have HPF:=hh_ (show P (gs.take K++[T0.g]++gs.drop K) by rw[hP];exact .inl (List.prefix_refl _));have HP3:=hh_ (show P (gs.take K++[T0.g]) by rw[hP];exact .inl (List.prefix_append _ _));have HP2:=hh_ (show ∀T,P T→T.length≤(gs.take K).length∨T <+: gs.take K++[T0.g]∨gs.take K++[T0.g] <+: T by rw[hP];exact Uz_ (gs.take K) (gs.drop K) T0.g);have HP4:=hh_ (show ∀T,P T→T.length≤(gs.take K++[T0.g]).length∨T <+: gs.take K++[T0.g]++gs.drop K∨gs.take K++[T0.g]++gs.drop K <+: T by rw[hP];exact Vy_ (gs.take K) (gs.drop K) T0.g);clear hP;have Hb1:=hh_ (show K =(gs.take K).length by rw[lk_];omega);have Hb7:=hh_ (show L-K =(gs.drop K).length by rw[List.length_drop];omega)
  have hb2 :(gs.take K).length*8≤140737488355328:=by rw[←Hb1.out];omega
  have hb3 :(gs.take K).length≤9223372036854775807:=by rw[←Hb1.out];omega
  have hb4 :((gs.take K).length+1)*8≤140737488355328:=by rw[←Hb1.out];omega
  have hb5 :(gs.take K).length+1≤9223372036854775807:=by rw[←Hb1.out];omega
  have hb8 :((gs.take K++[T0.g]).length+(gs.drop K).length)*8≤140737488355328:=by rw[la_,←Hb1.out,←Hb7.out];simp only[lc_,List.length_nil];omega
  have hb9 :(gs.take K++[T0.g]).length+(gs.drop K).length≤9223372036854775807:=by rw[la_,←Hb1.out,←Hb7.out];simp only[lc_,List.length_nil];omega
  have hcap:=HOT8.out.cap
  have hKc :(K:Int)≤(tcp:Int):=by omega
  have hLc :(L:Int)≤(tcp:Int):=by omega
  have hLL:gs.length=L:=by omega
  have HRD:=HO.out.rd.drop Ct_ hKl (by omega) (tcp-K);rw[hLL] at HRD;simp only[Nat.mul_one] at HRD;replace HRD:=hh_ HRD;have HRb:=Cv_ (K:=K) (s:=1) (m:=L-K) (q:=tcp-K) HOb.out;simp only[Nat.mul_one] at HRb;replace HRb:=hh_ HRb
  (refine Rg.wp_region_rgZ 21 #[] (Keep ptrF 1 181 N P) (fun _ _ _ _ _=>False) (by kernel_rfl) (by kernel_rfl) (Keep.refl _ _ _ _ _) (fun _ _ _ h k=>h.trans k) (fun _ _ _ _ _ h=>h) ?_;simp only[List.take,List.drop])
  have HWD:=hh_ (show World.grownBy w8 (w8.drew) none from gw_);generalize w8.drew=wd at *
  (refine tq_ 1 ?_;(repeat(go_big_quiet_step (fail)));refine wn_ ?_)
  (refine to_ ?_;intro y1 my1 dy1)
  clear dy1;have z1:=lt_ HN2.out my1.grown.size
  go_wp2_with fail
  refine⟨Keep.of (ga_ _ _ _),?_⟩;have N1:=A0_ (e:=181) ptrF 1 z1;generalize y1.alloc _=e1 at *;generalize y1.heap.size=g1 at *
  (refine tq_ 3 ?_;(repeat(go_big_quiet_step (fail)));refine wn_ ?_)
  (refine to_ ?_;intro y5 my5 dy5)
  clear dy5;have ax:=(my5.blk HB.out hbN).cell
  (try unfold Bu_ at ax)
  go_wp2_with fail
  refine⟨Keep.refl _ _ _ _ _ _,?_⟩;clear ax
  (refine tq_ 2 ?_;(repeat(go_big_quiet_step (fail)));refine wn_ ?_)
  (refine to_ ?_;intro y8 my8 dy8)
  have N8:=(dy8.out 1 (by omega) (by kernel_rfl)).own [] _ HP0.out N1;have R8:=my8.rd (HO.out.rd.take Ct_ hKl tcp) (fun _ a n c e=>by cases e;exact HOb.out _ rfl);have z8:=lt_ HN2.out my8.grown.size;clear dy8
  go_wp2_with (at_builtin;refine A5_ N0_ Gi_ N8 R8 Hb1.out hb2 hb3 z8 ?_;intro v8 e8 o8 g8 l8;have Hg8:=hh_ g8;clear g8 l8)
  refine⟨Keep.of Hg8.out,?_⟩;clear N8 R8 z8 N1 my5 my1 z1
  (refine tq_ 1 ?_;(repeat(go_big_quiet_step (fail)));refine wn_ ?_)
  (refine to_ ?_;intro y10 my10 dy10)
  clear dy10;have z10:=lt_ HN2.out my10.grown.size
  go_wp2_with fail
  refine⟨Keep.of (ga_ _ _ _),?_⟩;have N10:Own ptrF 1 181 N (y10.alloc (.cells #[.pointer (some ⟨T0.g,0,none⟩)] 181)) (.slice (some ⟨y10.heap.size,0,none⟩) 1 1) [T0.g]:=Cb_ (fun _=>rfl) y10 z10 T0.g _ rfl;generalize y10.alloc _=e10 at *;generalize y10.heap.size=g10 at *
  (refine to_ ?_;intro y11 my11 dy11)
  have N11:=(dy11.out 8 (by omega) (by kernel_rfl)).own _ _ HP1.out o8;have R11:=((dy11.out 10 (by omega) (by kernel_rfl)).own _ _ HPx.out N10).rd;have z11:=lt_ HN2.out my11.grown.size;clear dy11
  go_wp2_with (at_builtin;refine Bh_ N0_ Gi_ (fun _=>rfl) N11 R11 rfl hb4 hb5 z11 HP2.out ?_;intro v11 e11 o11 k11;have Hk11:=hh_ k11;clear k11)
  refine⟨Hk11.out,?_⟩;clear N11 R11 z11 N10 z10 my10 my11 o8
  (refine tq_ 3 ?_;(repeat(go_big_quiet_step (fail)));refine wn_ ?_)
  (refine to_ ?_;intro y15 my15 dy15)
  clear dy15;have ax:=(my15.blk HB.out hbN).cell
  (try unfold Bu_ at ax)
  go_wp2_with fail
  refine⟨Keep.refl _ _ _ _ _ _,?_⟩;clear ax
  (refine tq_ 2 ?_;(repeat(go_big_quiet_step (fail)));refine wn_ ?_)
  generalize (if tcp=K then ta else Option.map (fun x=>Addr.add x K) ta)=od at *
  (refine to_ ?_;intro y18 my18 dy18)
  have N18:=(dy18.out 11 (by omega) (by kernel_rfl)).own _ _ HP3.out o11;have R18:=my18.rd HRD.out (fun _ a n c e=>HRb.out a n c e);have z18:=lt_ HN2.out my18.grown.size;clear dy18
  go_wp2_with (at_builtin;refine Bh_ N0_ Gi_ (fun _=>rfl) N18 R18 Hb7.out hb8 hb9 z18 HP4.out ?_;intro v18 e18 o18 k18;have Hk18:=hh_ k18;clear k18)
  refine⟨Hk18.out,?_⟩;clear N18 R18 z18 o11 my15 my18
  (refine tq_ 2 ?_;(repeat(go_big_quiet_step (fail)));refine wn_ ?_)
  (refine Rg.tree_nil ?_;intro z mz dz cz)
  have OZ:=(dz.out 18 (by omega)).own _ _ HPF.out o18;have AZ:=mz.blk HB.out hbN;have GZ:=mz.grown;clear dz cz o18 Hg8 Hk11 Hk18 mz
  have gz:w8.grownBy z none:=((GrownS.none_ (S:=fun i=>N≤i) (show w8.grownBy wd none from HWD.out)).trans GZ (fun _ hi _=>hi)).back fun i hi=>by omega
  have HOZ:=hh_ (OZ.base fun k hk=>(show w8.heap.size≤k by have:=(OZ.lt k hk).1;omega));obtain⟨az2,cz2,hvz⟩:=OZ.shape;subst hvz;have HAZ:=hh_ AZ;have hgz:=hh_ gz;clear OZ AZ GZ gz;clear hN HN2 hbN hxN HB HX HO HOb HP0 HP1 HPx HPF HP3 HP2 HP4 Hb1 Hb7 hb2 hb3 hb4 hb5 hb8 hb9 hcap hKc hLc HRD HRb KN hLL hKl;generalize hLF2:gs.take K++[T0.g]++gs.drop K=LF2 at *;have HLF2:=hh_ hLF2;clear hLF2;generalize LF2.length=nF2 at *;have az:=HAZ.out.cell;have fz:=HAZ.out.free
  go_upto_region 16 with fail
  have hs9:z.grownBy (z.setCell ⟨G.g,19,none⟩ (.slice az2 nF2 cz2)) (some G.g):=Ac_ (Ab_ z (some G.g)) 19 _;have hgw8:G.g<w8.heap.size:=HBw.out.lt;have HB9:=HAZ.out.set_ 19 (.slice az2 nF2 cz2) rfl;have HX9:=(HXw.out.same hgz.out).kept hs9 (by simp;omega);have OW9:=(HOW8.out.same hgz.out).kept hs9 (fun k hk e=>by cases e;have:=(HOW8.out.lt _ hk).1;omega);have OT9:=HOZ.out.kept hs9 (fun k hk e=>by cases e;have:=(HOZ.out.lt _ hk).1;omega);have k9:GrownS (oneF G.g) w6 (z.setCell ⟨G.g,19,none⟩ (.slice az2 nF2 cz2)):=hG8.out.trans ((GrownS.none_ (S:=oneF G.g) hgz.out).trans (GrownS.of (S:=oneF G.g) hs9 fun k e=>by cases e;rfl) (fun _ h _=>h)) (fun _ h _=>h);have hw46:=HG7.out.size
  have hgl4:G.g<w4.heap.size:=by have:=HR5.out.blk.lt;omega
  have RT9:=HRT.out.keptS k9 fun j hj e=>by have:=HT0.out j hj;have e':j=G.g:=e;omega
  have hlowT:=HRT.out.low
  obtain⟨R9,M9⟩:=HR5.out.ins (w':=z.setCell ⟨G.g,19,none⟩ (.slice az2 nF2 cz2)) (by rw[hg4];exact(GrownS.none_ (S:=oneF G.g) HG7.out).trans k9 (fun _ h _=>h)) RT9 HT0.out (K:=K) (by show K≤ts.length;rw[HL.out];exact hKl0) x.win (by rw[hg4];exact HB9)
   (by rw[show ShM.ws ⟨q,ts⟩=W from HW.out,HLF.out];exact OW9.zero) (by rw[HGs.out,HLF2.out];exact OT9.zero)
   (fun j hj=>by have:=(HOW8.out.lt j hj).1;omega) (fun j hj=>by have:=(HOZ.out.lt j hj).1;omega) (fun j hj hf=>by have:=(HOW8.out.lt j hj).1;have:=hlowT j hf;omega) (fun j hj hf=>by have:=(HOZ.out.lt j hj).1;have:=hlowT j hf;omega)
  have HR9:=hh_ R9;have HM9:=hh_ M9
  have hKT:K≤G4.ts.length:=by have h1:G4.ts.length=ts.length:=HR5.out.len;have:=HL.out;omega
  have hKS:K≤ts.length:=by have:=HL.out;omega
  have hTK :(G4.ts.take K++[T0]++G4.ts.drop K)[K]?=some T0:=by rw[If_ hKT,if_neg (by omega),if_pos rfl]
  have hPK :(ts.take K++[(x.win,tier0 c)]++ts.drop K)[K]?=some (x.win,tier0 c):=by rw[If_ hKS,if_neg (by omega),if_pos rfl]
  have CA:=hh_ (J6_ T0 c t (tier0 c) x.it.key x.it.weight _ RT9 (Lb_ hn.cfg) hn htl hxw);have HTK:=hh_ hTK;have HPK:=hh_ hPK;have HKS:=hh_ hKS;have HSK:=hh_ (show cntW (ts.map (·.1)) x.win=K by rw[HW.out];exact HKK.out);have b9:=HB9;have a9:=HX9.cell;clear R9 M9 HB9 OW9 OT9 k9 RT9 hTK hPK hKS az fz HAZ HOZ HX9 hs9;generalize z.setCell ⟨G.g,19,none⟩ (.slice az2 nF2 cz2)=w9 at *;have CA2:=CA.out;unfold RTAdd at CA2;have CA3:=hh_ CA2;clear CA CA2;generalize hEr :(tier0 c).err x.it.key x.it.weight=Er at *;have HEr:=hh_ hEr;clear hEr b9
  go_wp2_with (go_at_call 123;refine CA3.out.mono ?_;rintro e wA ⟨rfl,T',hT',mT,hgT⟩)
  go_ret2
  obtain⟨R10,M10⟩:=HR9.out.setT HTK.out HPK.out hT' mT hgT;refine⟨by rw[HST.out];rfl,_,?_,HM5.out.trans (HM9.out.trans M10),hg4⟩;rw[HSS.out,HSK.out];have e:=ee_ HKS.out (x.win,tier0 c) (x.win,(tier0 c).addE c t x.it.key x.it.weight);rw[←e];unfold Ao_.addE;rw[HEr.out];exact R10
theorem Vz_ (c:Cfg) (t:List Int) (L:List (Int×Ao_)) (x:B4_) :(tsAdd c t L x).length≤L.length+1:=by
 unfold tsAdd
 split
 ·simp
 ·simp only[la_,lk_,List.length_drop,ls_];omega
theorem Vb_ {c:Cfg} {S:ShM} {n:Nat} (h:S.ts.length+S.queue.length≤n) :(stepS c t S).ts.length+(stepS c t S).queue.length≤n:=by
 unfold stepS
 split
 ·exact h
 ·rename_i x q hq
  have:=Vz_ c t S.ts x
  rw[hq] at h;simp only[lc_] at h;dsimp only
  omega
theorem Gt_ {c:Cfg} {t:List Int} {S:ShM} {n:Nat} (h:S.ts.length+S.queue.length≤n):∀k,(stepsS c t k S).ts.length+(stepsS c t k S).queue.length≤n
 | 0=>h
 | k+1=>Vb_ (Gt_ h k)
theorem fq_ (G:RshG) (c:Cfg) (t:List Int) (S:ShM) (w:World) (h:RSh w G c t S) (hok:ShOk c S) (hn:Bl_ c) (ht:RdL wordF 1 w c.Table t) (hto:Off (ownF c.Table) G.F) (htl:t.length=16) (hb:S.ts.length+S.queue.length≤1000000000) :
  Calls prog 92 #[.pointer (some ⟨G.g,0,none⟩)] w (Le_ G c t S w):=by
 obtain⟨q,ts⟩:=S
 cases q with
 | cons x q=>
  cases hi:posW (ts.map (·.1)) x.win with
  | some i=>exact V5_ G c t x q ts w h hok hn htl i hi
  | none=>exact Yj_ G c t x q ts w h hok hn ht hto htl hi (by simp at hb;omega)
 | nil=>
  obtain⟨qa,qc,hqv⟩:=h.q.shape;have b0:=h.blk.cell;rw[hqv] at b0;have H:=hh_ h;clear h
  go_enter func92,ntmps92
  go_wp2_with fail
  go_ret2
  exact⟨rfl,G,H.out,Mov.refl _ _,rfl⟩
def firstS (c:Cfg) (t:List Int):Nat→ShM→Int
 | 0,_=>0
 | n+1,S=>if stepE (stepsS c t n S) c≠0∧firstS c t n S=0 then stepE (stepsS c t n S) c else firstS c t n S
theorem Zq_ (G:RshG) (c:Cfg) (t:List Int) (S:ShM) (win:Int) (w:World) (h:RSh w G c t S) (hok:ShOk c S) (hn:Bl_ c) (ht:RdL wordF 1 w c.Table t) (hto:Off (ownF c.Table) G.F) (htlow:Low w (ownF c.Table)) (htl:t.length=16) (hb:S.ts.length+S.queue.length≤1000000000) :
  Calls prog 55 #[.pointer (some ⟨G.g,0,none⟩),.int .i64 win] w (fun e w'=>e=.returned (.tuple #[.int .i64 (untilQ S.queue win),.int .i64 (firstS c t (untilQ S.queue win) S)])∧∃G',RSh w' G' c t (drainS c t S win)∧Mov G.F G'.F w w'∧G'.g=G.g):=by
 have hqr:=h.q;obtain⟨qa,qc,hqv⟩:=h.q.shape;rw[hqv] at hqr;have b0:=h.blk.cell;rw[hqv] at b0;have hul:=Tr_ S.queue win S.queue.length (le_ _);rw[List.take_length] at hul;have CU:=hh_ (Z1_ _ S.queue win w hqr (by omega));have H:=hh_ h;have HT:=hh_ ht;have HD:=hh_ (show drainS c t S win=stepsS c t (untilQ S.queue win) S from rfl);have HOK:=hh_ hok;have HB:=hh_ hb;clear h hqr ht hb;obtain⟨n,hnn⟩:∃n,untilQ S.queue win=n:=⟨_,rfl⟩;rw[hnn] at CU HD hul ⊢
 have hn1:n≤1000000000:=by have:=HB.out;omega
 have HUL:=hh_ hul;clear hnn hul
 go_enter func55,ntmps55
 go_upto_region 4 with(go_at_call 91;refine CU.out.mono ?_;rintro e w1 ⟨rfl,g1⟩)
 have H1:=hh_ (H.out.same g1);have HT1:=hh_ (RdL.same HT.out g1);have HG1:=hh_ g1;have HL1:=hh_ (htlow.up g1.size);clear b0 CU g1 H HT
 go_loopw [7,8] (fun s7 s8 wk=>∃(k:Nat) (G':RshG),k≤n∧s8=.int .i64 k∧s7=.int .i64 (firstS c t k S)∧RSh wk G' c t (stepsS c t k S)∧Mov G.F G'.F w1 wk∧G'.g=G.g) (fun _ s8 _=>n-(RowKit.intOf s8).toNat)
 case atStart=>exact⟨0,G,zl_ _,rfl,rfl,H1.out,Mov.refl _ _,rfl⟩
 case round=>
  obtain⟨k,G',hk,rfl,rfl,hR,hM,hg'⟩:=hrel;have HR:=hh_ hR;have HM:=hh_ hM
  by_cases hlt:k<n
  ·have hlt2 :(k:Int)<(n:Int):=by omega
   have HS:=hh_ (show stepS c t (stepsS c t k S)=stepsS c t (k+1) S from rfl);have HF:=hh_ (show firstS c t (k+1) S=if stepE (stepsS c t k S) c≠0∧firstS c t k S=0 then stepE (stepsS c t k S) c else firstS c t k S from rfl);have CS:=fq_ G' c t (stepsS c t k S) wr hR (H5_ hn.cfg HOK.out k) hn (Br_ HT1.out hM.grown hto) (hM.off HL1.out hto) htl (Gt_ HB.out k);rw[hg'] at CS;have CS:=hh_ CS;unfold Le_ at CS;obtain⟨bb,hbb⟩:∃bb,stepB (stepsS c t k S)=bb:=⟨_,rfl⟩;obtain⟨er,her⟩:∃er,stepE (stepsS c t k S) c=er:=⟨_,rfl⟩;obtain⟨fi,hfi⟩:∃fi,firstS c t k S=fi:=⟨_,rfl⟩;rw[hbb,her] at CS;rw[her,hfi] at HF;rw[hfi];clear hbb her hfi hR hM
   by_cases he:er=0
   ·have he1 :(er != 0)=false:=by simp[he]
    have he2 :(er==0)=true:=by simp[he]
    have HF2:=hh_ (HF.out.trans (if_neg (by omega)));clear HF he
    go_wp2_with (go_at_call 92;refine CS.out.mono ?_;rintro e w3 ⟨rfl,G3,R3,M3,h3⟩)
    exact⟨⟨k+1,G3,by omega,by go_num,by rw[HF2.out],by rw[←HS.out];exact R3,HM.out.trans M3,h3.trans hg'⟩,by simp[RowKit.intOf];omega⟩
   ·have he1 :(er != 0)=true:=by simp[he]
    have he2 :(er==0)=false:=by simp[he]
    by_cases hf:fi=0
    ·subst hf
     have HF2:=hh_ (HF.out.trans (if_pos ⟨he,rfl⟩));clear HF he
     go_wp2_with (go_at_call 92;refine CS.out.mono ?_;rintro e w3 ⟨rfl,G3,R3,M3,h3⟩)
     exact⟨⟨k+1,G3,by omega,by go_num,by rw[HF2.out],by rw[←HS.out];exact R3,HM.out.trans M3,h3.trans hg'⟩,by simp[RowKit.intOf];omega⟩
    ·have hf1 :(fi==0)=false:=by simp[hf]
     have HF2:=hh_ (HF.out.trans (if_neg (fun h=>hf h.2)));clear HF he hf
     go_wp2_with (go_at_call 92;refine CS.out.mono ?_;rintro e w3 ⟨rfl,G3,R3,M3,h3⟩)
     exact⟨⟨k+1,G3,by omega,by go_num,by rw[HF2.out],by rw[←HS.out];exact R3,HM.out.trans M3,h3.trans hg'⟩,by simp[RowKit.intOf];omega⟩
  ·obtain rfl:k=n:=by omega
   have hnn:¬((k:Int)<(k:Int)):=by omega
   clear hlt
   go_wp2_with fail
   go_ret2
   exact⟨rfl,G',by rw[HD.out];exact HR.out,(Mov.same HG1.out).trans HM.out,hg'⟩
theorem bb_ {K:Nat} :(fun x:Addr=>x.add (K+1))=fun x=>⟨x.block,x.off+(K+1),none⟩:=by
 funext x;unfold Addr.add;simp
theorem Oe_ (S:Nat→Prop) (b:Nat) (L:List (Int×Int)) (acc:Int) (R:List Int) (win:Int) (w:World) (h:RLed S w b L acc R) (hS:∀i,w.heap.size≤i→S i) (hl:L.length<1000000000) :
  Calls prog 60 #[.pointer (some ⟨b,0,none⟩),.int .i64 win] w (fun e w'=>e=.returned (.tuple #[.int .u64 (ldAt L win),.bool (ldHas L win)])∧RLed S w' b (ldDel L win) acc R∧GrownS S w w'):=by
 have H:=hh_ h;have CAt:=hh_ (Ma_ S b L acc R win w h);obtain⟨F,hF⟩:∃F,ldHas L win=F:=⟨_,rfl⟩;rw[hF] at CAt ⊢;cases F
 ·have h0:=hh_ (Kx_ hF)
  rw[Qm_ hF];clear h hF
  go_enter func60,ntmps60
  go_wp2_with (go_at_call 90;refine CAt.out.mono ?_;rintro e w1 ⟨rfl,g1⟩)
  go_ret2
  exact⟨by rw[h0.out];rfl,H.out.same g1,GrownS.none_ g1⟩
 ·obtain⟨h1,h2⟩:=L3_ h.asc hF
  have HP:=hh_ (M0_ h.asc hF);have HAL:=hh_ (I8_ (w:=win) h.asc);have HKL:=hh_ (show ∀p∈ldDel L win,I64 p.1 from fun p hp=>h.keys p (Do_ hp));have HVL:=hh_ (show ∀p∈ldDel L win,W64 p.2 from fun p hp=>h.vals p (Do_ hp));obtain⟨vw,vt,vr,H0⟩:=h.rl;have hm1:=hh_ (show(L.take (ldK L win)++L.drop (ldK L win+1)).map (·.1) =(L.map (·.1)).take (ldK L win)++(L.map (·.1)).drop (ldK L win+1) by simp[List.map_take,List.map_drop]);have hm2:=hh_ (show(L.take (ldK L win)++L.drop (ldK L win+1)).map (·.2) =(L.map (·.2)).take (ldK L win)++(L.map (·.2)).drop (ldK L win+1) by simp[List.map_take,List.map_drop])
  have hlen1 :(L.map (·.1)).length=L.length:=by simp
  have hlen2 :(L.map (·.2)).length=L.length:=by simp
  obtain⟨oa,oc,rfl⟩:=H0.ow.shape;obtain⟨ta,tc,rfl⟩:=H0.ot.shape;rw[hlen1,hlen2] at H0;obtain⟨g,off,cap,hv,hgl,ck⟩:=H0.ot.rd.one Cs_ (k:=ldK L win) (by rw[hlen2];exact h1)
  have e1 :(L.map (·.2))[ldK L win]'(by rw[hlen2];exact h1)=ldAt L win:=by
   rw[List.getElem_map]
   have:=(gs_ h2).2
   rw[this]
  rw[e1] at ck;rw[hlen2] at hv;cases hv;have H0h:=hh_ H0
  have HCk:=hh_ fun w' (k:World.grownBy w w' none)=>((Am_ k).1 g (off+ldK L win) hgl (by simp)).trans ck
  have hS0:=hh_ hS;clear h hF h2 e1 ck hS H0;generalize ldAt L win=X at *;generalize ldK L win=K at *;generalize L.map (·.1)=W at *;generalize L.map (·.2)=T at *
  have hk0 :(0:Int)≤(K:Int):=by omega
  have hk1 :(K:Int)<(L.length:Int):=by omega
  go_enter func60,ntmps60
  go_upto_region 4 with(go_at_call 90;refine CAt.out.mono ?_;rintro e w3 ⟨rfl,g3⟩)
  have H3:=hh_ (H0h.out.same g3);have G3h:=hh_ (GrownS.none_ (S:=S) g3);have hS3:=hh_ (show ∀i,w3.heap.size≤i→S i from fun i hi=>hS0.out i (lt_ g3.size hi));have cx:=HCk.out _ g3;have ax:=H3.out.blk.cell;unfold Bu_ at ax
  go_upto_region 5 with fail
  clear cx ax HCk H0h hS0 CAt g3 hgl
  have hKl:K≤W.length:=by omega
  have hKl1:K+1≤W.length:=by omega
  have KN:World.grownBy w3 w3.drew none:=gw_;obtain⟨N,hN⟩:∃N,w3.heap.size=N:=⟨_,rfl⟩;have HN2:=hh_ (show N≤w3.drew.heap.size from Nat.le_of_eq hN.symm)
  have hbN:b<N:=by have:=H3.out.blk.lt;omega
  have HB:=hh_ (H3.out.blk.same KN);have HO:=hh_ (H3.out.ow.same KN);have HOb:=hh_ (show ∀k,Value.ownBlock (.slice oa L.length oc)=some k→k<N from fun k hk=>by have:=(H3.out.ow.lt k hk).2;omega);obtain⟨P,hP⟩:∃P:List Int→Prop,P=fun U=>U <+: W.take K++W.drop (K+1):=⟨_,rfl⟩;have HP0:=hh_ (show P [] by rw[hP];exact List.nil_prefix);have HP1:=hh_ (show P (W.take K) by rw[hP];exact List.prefix_append _ _);have HPF:=hh_ (show P (W.take K++W.drop (K+1)) by rw[hP];exact List.prefix_refl _);have HP2:=hh_ (show ∀U,P U→U.length≤(W.take K).length∨U <+: W.take K++W.drop (K+1)∨W.take K++W.drop (K+1) <+: U by rw[hP];exact fun U h=>.inr (.inl h));clear hP;have Hb1:=hh_ (show K =(W.take K).length by rw[lk_];omega);have Hb7:=hh_ (show L.length-(K+1) =(W.drop (K+1)).length by rw[List.length_drop];omega)
  have hb2 :(W.take K).length*8≤140737488355328:=by rw[←Hb1.out];omega
  have hb3 :(W.take K).length≤9223372036854775807:=by rw[←Hb1.out];omega
  have hb8 :((W.take K).length+(W.drop (K+1)).length)*8≤140737488355328:=by rw[←Hb1.out,←Hb7.out];omega
  have hb9 :(W.take K).length+(W.drop (K+1)).length≤9223372036854775807:=by rw[←Hb1.out,←Hb7.out];omega
  have hcap:=H3.out.ow.cap
  have hKc :(K:Int)≤(oc:Int):=by omega
  have hKc1 :(K:Int)+1≤(oc:Int):=by omega
  have hLc :(L.length:Int)≤(oc:Int):=by omega
  have HRD:=HO.out.rd.drop Bc_ hKl1 hcap (oc-(K+1));rw[hlen1] at HRD;simp only[Nat.mul_one] at HRD;rw[bb_] at HRD;replace HRD:=hh_ HRD;have HRb:=Cv_ (K:=K+1) (s:=1) (m:=L.length-(K+1)) (q:=oc-(K+1)) HOb.out;simp only[Nat.mul_one] at HRb;rw[bb_] at HRb;replace HRb:=hh_ HRb
  (refine Rg.wp_region_rgZ 19 #[] (Keep intF 1 3 N P) (fun _ _ _ _ _=>False) (by kernel_rfl) (by kernel_rfl) (Keep.refl _ _ _ _ _) (fun _ _ _ h k=>h.trans k) (fun _ _ _ _ _ h=>h) ?_;simp only[List.take,List.drop])
  generalize w3.drew=wd at *
  (refine tq_ 1 ?_;(repeat(go_big_quiet_step (fail)));refine wn_ ?_)
  (refine to_ ?_;intro y1 my1 dy1)
  clear dy1;have z1:=lt_ HN2.out my1.grown.size
  go_wp2_with fail
  refine⟨Keep.of (ga_ _ _ _),?_⟩;have N1:=A0_ (e:=3) intF 1 z1;generalize y1.alloc _=e1 at *;generalize y1.heap.size=g1 at *
  (refine tq_ 3 ?_;(repeat(go_big_quiet_step (fail)));refine wn_ ?_)
  (refine to_ ?_;intro y5 my5 dy5)
  clear dy5;have ax:=(my5.blk HB.out hbN).cell
  (try unfold Bu_ at ax)
  go_wp2_with fail
  refine⟨Keep.refl _ _ _ _ _ _,?_⟩;clear ax
  (refine tq_ 2 ?_;(repeat(go_big_quiet_step (fail)));refine wn_ ?_)
  (refine to_ ?_;intro y8 my8 dy8)
  have N8:=(dy8.out 1 (by omega) (by kernel_rfl)).own [] _ HP0.out N1;have R8:=my8.rd (HO.out.rd.take Bc_ hKl oc) (fun _ a n c e=>by cases e;exact HOb.out _ rfl);have z8:=lt_ HN2.out my8.grown.size;clear dy8
  go_wp2_with (at_builtin;refine A5_ Ca_ B9_ N8 R8 Hb1.out hb2 hb3 z8 ?_;intro v8 e8 o8 g8 l8;have Hg8:=hh_ g8;clear g8 l8)
  refine⟨Keep.of Hg8.out,?_⟩;clear N8 R8 z8 N1 my5 my1 z1
  (refine tq_ 3 ?_;(repeat(go_big_quiet_step (fail)));refine wn_ ?_)
  (refine to_ ?_;intro y12 my12 dy12)
  clear dy12;have ax:=(my12.blk HB.out hbN).cell
  (try unfold Bu_ at ax)
  go_wp2_with fail
  refine⟨Keep.refl _ _ _ _ _ _,?_⟩;clear ax
  (refine tq_ 3 ?_;(repeat(go_big_quiet_step (fail)));refine wn_ ?_)
  generalize (if oc=K+1 then oa else Option.map (fun x=>(⟨x.block,x.off+(K+1),none⟩:Addr)) oa)=od at *
  (refine to_ ?_;intro y16 my16 dy16)
  have N16:=(dy16.out 8 (by omega) (by kernel_rfl)).own _ _ HP1.out o8;have R16:=my16.rd HRD.out (fun _ a n c e=>HRb.out a n c e);have z16:=lt_ HN2.out my16.grown.size;clear dy16
  go_wp2_with (at_builtin;refine Bh_ Ca_ B9_ (fun _=>rfl) N16 R16 Hb7.out hb8 hb9 z16 HP2.out ?_;intro v16 e16 o16 k16;have Hk16:=hh_ k16;clear k16)
  refine⟨Hk16.out,?_⟩;clear N16 R16 z16 o8 my12 my16
  (refine tq_ 2 ?_;(repeat(go_big_quiet_step (fail)));refine wn_ ?_)
  (refine Rg.tree_nil ?_;intro z mz dz cz)
  have OZ:=(dz.out 16 (by omega)).own _ _ HPF.out o16;have AZ:=mz.blk HB.out hbN;have GZ:=mz.grown;clear dz cz o16 Hg8 Hk16 mz;generalize W.take K++W.drop (K+1)=LF at *;obtain⟨a18,c18,rfl⟩:=OZ.shape;generalize LF.length=nF at *;have az:=AZ.cell;unfold Bu_ at az;have fz:=AZ.free;obtain⟨H4,G4⟩:=H3.out.setW hN.symm (fun i hi=>hS3.out i (by omega)) ((GrownS.none_ KN).trans GZ (fun _ hi _=>hi)) OZ;replace H4:=hh_ H4;have G4h:=hh_ (G3h.out.trans G4 (fun _ hi _=>hi));have hS4:=hh_ (show ∀i,(z.setCell ⟨b,0,none⟩ (.slice a18 nF c18)).heap.size≤i→S i from fun i hi=>hS3.out i (lt_ G4.size hi))
  go_upto_region 6 with fail
  generalize z.setCell ⟨b,0,none⟩ (.slice a18 nF c18)=w4 at *;clear az fz AZ GZ OZ G4 H3 G3h hS3 KN hN HN2 hbN HB HO HOb HP0 HP1 HPF HP2 Hb1 Hb7 hb2 hb3 hb8 hb9 hcap hKc hKc1 hLc HRD HRb;clear hKl hKl1 my8
  have hKl:K≤T.length:=by omega
  have hKl1:K+1≤T.length:=by omega
  have KN:World.grownBy w4 w4.drew none:=gw_;obtain⟨N,hN⟩:∃N,w4.heap.size=N:=⟨_,rfl⟩;have HN2:=hh_ (show N≤w4.drew.heap.size from Nat.le_of_eq hN.symm)
  have hbN:b<N:=by have:=H4.out.blk.lt;omega
  have HB:=hh_ (H4.out.blk.same KN);have HO:=hh_ (H4.out.ot.same KN);have HOb:=hh_ (show ∀k,Value.ownBlock (.slice (some ⟨g,off,none⟩) L.length tc)=some k→k<N from fun k hk=>by have:=(H4.out.ot.lt k hk).2;omega);obtain⟨P,hP⟩:∃P:List Int→Prop,P=fun U=>U <+: T.take K++T.drop (K+1):=⟨_,rfl⟩;have HP0:=hh_ (show P [] by rw[hP];exact List.nil_prefix);have HP1:=hh_ (show P (T.take K) by rw[hP];exact List.prefix_append _ _);have HPF:=hh_ (show P (T.take K++T.drop (K+1)) by rw[hP];exact List.prefix_refl _);have HP2:=hh_ (show ∀U,P U→U.length≤(T.take K).length∨U <+: T.take K++T.drop (K+1)∨T.take K++T.drop (K+1) <+: U by rw[hP];exact fun U h=>.inr (.inl h));clear hP;have Hb1:=hh_ (show K =(T.take K).length by rw[lk_];omega);have Hb7:=hh_ (show L.length-(K+1) =(T.drop (K+1)).length by rw[List.length_drop];omega)
  have hb2 :(T.take K).length*8≤140737488355328:=by rw[←Hb1.out];omega
  have hb3 :(T.take K).length≤9223372036854775807:=by rw[←Hb1.out];omega
  have hb8 :((T.take K).length+(T.drop (K+1)).length)*8≤140737488355328:=by rw[←Hb1.out,←Hb7.out];omega
  have hb9 :(T.take K).length+(T.drop (K+1)).length≤9223372036854775807:=by rw[←Hb1.out,←Hb7.out];omega
  have hcap:=H4.out.ot.cap
  have hKc :(K:Int)≤(tc:Int):=by omega
  have hKc1 :(K:Int)+1≤(tc:Int):=by omega
  have hLc :(L.length:Int)≤(tc:Int):=by omega
  have HRD:=HO.out.rd.drop1 Bf_ hKl1 hcap (tc-(K+1));rw[hlen2] at HRD;replace HRD:=hh_ HRD;have hgN:=HOb.out g rfl;have HRb:=hh_ (show ∀(a:Addr) (n' c':Nat),Value.slice (if tc=K+1 then (some ⟨g,off,none⟩:Option Addr) else some ⟨g,off+(K+1),none⟩) (L.length-(K+1)) (tc-(K+1))=.slice (some a) n' c'→a.block<N from fun a n' c' e=>by split at e <;> (cases e;exact hgN))
  (refine Rg.wp_region_rgZ 19 #[] (Keep wordF 1 22 N P) (fun _ _ _ _ _=>False) (by kernel_rfl) (by kernel_rfl) (Keep.refl _ _ _ _ _) (fun _ _ _ h k=>h.trans k) (fun _ _ _ _ _ h=>h) ?_;simp only[List.take,List.drop])
  generalize w4.drew=wd at *
  (refine tq_ 1 ?_;(repeat(go_big_quiet_step (fail)));refine wn_ ?_)
  (refine to_ ?_;intro y1 my1 dy1)
  clear dy1;have z1:=lt_ HN2.out my1.grown.size
  go_wp2_with fail
  refine⟨Keep.of (ga_ _ _ _),?_⟩;have N1:=A0_ (e:=22) wordF 1 z1;generalize y1.alloc _=e1 at *;generalize y1.heap.size=g1 at *
  (refine tq_ 3 ?_;(repeat(go_big_quiet_step (fail)));refine wn_ ?_)
  (refine to_ ?_;intro y5 my5 dy5)
  clear dy5;have ax:=(my5.blk HB.out hbN).cell
  (try unfold Bu_ at ax)
  go_wp2_with fail
  refine⟨Keep.refl _ _ _ _ _ _,?_⟩;clear ax
  (refine tq_ 2 ?_;(repeat(go_big_quiet_step (fail)));refine wn_ ?_)
  (refine to_ ?_;intro y8 my8 dy8)
  have N8:=(dy8.out 1 (by omega) (by kernel_rfl)).own [] _ HP0.out N1;have R8:=my8.rd (HO.out.rd.take Bf_ hKl tc) (fun _ a n c e=>by cases e;exact HOb.out _ rfl);have z8:=lt_ HN2.out my8.grown.size;clear dy8
  go_wp2_with (at_builtin;refine A5_ Dk_ Dm_ N8 R8 Hb1.out hb2 hb3 z8 ?_;intro v8 e8 o8 g8 l8;have Hg8:=hh_ g8;clear g8 l8)
  refine⟨Keep.of Hg8.out,?_⟩;clear N8 R8 z8 N1 my5 my1 z1
  (refine tq_ 3 ?_;(repeat(go_big_quiet_step (fail)));refine wn_ ?_)
  (refine to_ ?_;intro y12 my12 dy12)
  clear dy12;have ax:=(my12.blk HB.out hbN).cell
  (try unfold Bu_ at ax)
  go_wp2_with fail
  refine⟨Keep.refl _ _ _ _ _ _,?_⟩;clear ax
  (refine tq_ 3 ?_;(repeat(go_big_quiet_step (fail)));refine wn_ ?_)
  generalize (if tc=K+1 then (some ⟨g,off,none⟩:Option Addr) else some ⟨g,off+(K+1),none⟩)=od at *
  (refine to_ ?_;intro y16 my16 dy16)
  have N16:=(dy16.out 8 (by omega) (by kernel_rfl)).own _ _ HP1.out o8;have R16:=my16.rd HRD.out (fun _ a n c e=>HRb.out a n c e);have z16:=lt_ HN2.out my16.grown.size;clear dy16
  go_wp2_with (at_builtin;refine Bh_ Dk_ Dm_ (fun _=>rfl) N16 R16 Hb7.out hb8 hb9 z16 HP2.out ?_;intro v16 e16 o16 k16;have Hk16:=hh_ k16;clear k16)
  refine⟨Hk16.out,?_⟩;clear N16 R16 z16 o8 my12 my16
  (refine tq_ 2 ?_;(repeat(go_big_quiet_step (fail)));refine wn_ ?_)
  (refine Rg.tree_nil ?_;intro z mz dz cz)
  have OZ:=(dz.out 16 (by omega)).own _ _ HPF.out o16;have AZ:=mz.blk HB.out hbN;have GZ:=mz.grown;clear dz cz o16 Hg8 Hk16 mz;generalize T.take K++T.drop (K+1)=LF at *;obtain⟨a18,c18,rfl⟩:=OZ.shape;generalize LF.length=nF at *;have az:=AZ.cell;unfold Bu_ at az;have fz:=AZ.free;obtain⟨H5,G5⟩:=H4.out.setT hN.symm (fun i hi=>hS4.out i (by omega)) ((GrownS.none_ KN).trans GZ (fun _ hi _=>hi)) OZ;rw[←hm1.out,←hm2.out,←HP.out] at H5;replace H5:=hh_ H5;have G5h:=hh_ (G4h.out.trans G5 (fun _ hi _=>hi))
  go_wp2_with fail
  go_ret2
  exact⟨rfl,⟨⟨_,_,_,H5.out⟩,HAL.out,HKL.out,HVL.out,H.out.len,H.out.rw⟩,G5h.out⟩
theorem Wh_ {α:Type} {l:List α} {k:Nat} (hk:k<l.length) (i:Nat) :(l.take k++l.drop (k+1))[i]?=if i<k then l[i]? else l[i+1]?:=by
 have hl :(l.take k).length=k:=by simp;omega
 by_cases h1:i<k
 ·rw[if_pos h1,List.getElem?_append_left (by omega),List.getElem?_take_of_lt h1]
 ·rw[if_neg h1,List.getElem?_append_right (by omega),hl,List.getElem?_drop]
  congr 1;omega
theorem Hx_ {α:Type} {l:List α} {k:Nat} {y:α} (h:y∈l.take k++l.drop (k+1)):y∈l:=by
 rcases ma_ h with h|h
 ·exact List.mem_of_mem_take h
 ·exact List.mem_of_mem_drop h
theorem RSh.del {G:RshG} {c:Cfg} {S:ShM} (h:RSh w G c t S) (k:GrownS (oneF G.g) w w') {K:Nat} (hK:K<S.ts.length) {vw' vt':Value}
  (hb:Blk w' G.g (rshA c G.vq vw' vt')) (ow:Own intF 1 3 0 w' vw' (S.ws.take K++S.ws.drop (K+1))) (ot:Own ptrF 1 181 0 w' vt' ((G.ts.map (·.g)).take K++(G.ts.map (·.g)).drop (K+1)))
  (h1:∀i,ownF vw' i→w.heap.size≤i) (h2:∀i,ownF vt' i→w.heap.size≤i) :
  RSh w' ⟨G.g,G.vq,vw',vt',G.ts.take K++G.ts.drop (K+1)⟩ c t ⟨S.queue,S.ts.take K++S.ts.drop (K+1)⟩∧Mov G.F (RshG.F ⟨G.g,G.vq,vw',vt',G.ts.take K++G.ts.drop (K+1)⟩) w w':=by
 have hlow:=h.low
 have hlw:∀U∈G.ts,∀i,U.F i→i<w.heap.size:=fun U hU i hi=>hlow i (.inr (.inr (.inr (.inr ⟨U,hU,hi⟩))))
 have hgl:=h.blk.lt
 have hgt:∀T∈G.ts,Off T.F (oneF G.g):=fun T hT i hi e=>h.n4 T hT (by rw[←show i=G.g from e];exact hi)
 have hKG:K<G.ts.length:=by have:=h.len;omega
 refine⟨⟨hb,Br_ h.q k fun i hi e=>h.n1 (by rw[←show i=G.g from e];exact hi),h.qc,h.ql.up k.size,?_,?_,?_,?_,?_,h.n1,fun hi=>Nat.lt_irrefl _ (ll_ hgl (h1 _ hi)),fun hi=>Nat.lt_irrefl _ (ll_ hgl (h2 _ hi)),fun U hU=>h.n4 U (Hx_ hU),fun U hU=>h.m1 U (Hx_ hU),fun U hU i hi hf=>?_,fun U hU i hi hf=>?_⟩,⟨k.mono fun i e _=>.inl e,fun i hi=>?_⟩⟩
 ·have:ShM.ws ⟨S.queue,S.ts.take K++S.ts.drop (K+1)⟩=S.ws.take K++S.ws.drop (K+1):=by simp[ShM.ws,List.map_take,List.map_drop]
  rw[this];exact ow
 ·have :(G.ts.take K++G.ts.drop (K+1)).map (·.g) =(G.ts.map (·.g)).take K++(G.ts.map (·.g)).drop (K+1):=by simp[List.map_take,List.map_drop]
  show Own ptrF 1 _ 0 w' vt' ((G.ts.take K++G.ts.drop (K+1)).map (·.g))
  rw[this];exact ot
 ·have:=h.len;simp only[la_,lk_,List.length_drop];omega
 ·intro i T p e1 e2
  dsimp only at e1 e2;rw[Wh_ hKG] at e1;rw[Wh_ hK] at e2
  by_cases hi:i<K
  ·rw[if_pos hi] at e1 e2
   exact(h.tier i T p e1 e2).keptS k (hgt T (mo_ e1))
  ·rw[if_neg hi] at e1 e2
   exact(h.tier _ T p e1 e2).keptS k (hgt T (mo_ e1))
 ·have h3:=h.ap
  rw[←List.take_append_drop K G.ts] at h3;obtain⟨a,b,c'⟩:=List.pairwise_append.1 h3
  have hd:G.ts.drop (K+1) =(G.ts.drop K).drop 1:=by rw[List.drop_drop]
  refine List.pairwise_append.2 ⟨a,?_,fun y hy z hz=>?_⟩
  ·rw[hd];exact b.sublist (List.drop_sublist _ _)
  ·rw[hd] at hz;exact c' y hy z (List.mem_of_mem_drop hz)
 ·have:=h1 i hi;have:=hlw U (Hx_ hU) i hf;omega
 ·have:=h2 i hi;have:=hlw U (Hx_ hU) i hf;omega
 ·rcases hi with hi|hi|hi|hi |⟨U,hU,hi⟩
  ·exact .inl (.inl hi)
  ·exact .inl (.inr (.inl hi))
  ·exact .inr (h1 i hi)
  ·exact .inr (h2 i hi)
  ·exact .inl (.inr (.inr (.inr (.inr ⟨U,Hx_ hU,hi⟩))))
theorem Z2_ (G:RshG) (c:Cfg) (t:List Int) (S:ShM) (win:Int) (w:World) (h:RSh w G c t S) (hts:S.ts.length≤1000000000) :
  Calls prog 59 #[.pointer (some ⟨G.g,0,none⟩),.int .i64 win] w (fun e w'=>e=.returned (.bool (posW S.ws win).isSome)∧∃G',RSh w' G' c t (closeS S win)∧Mov G.F G'.F w w'∧G'.g=G.g):=by
 have H:=hh_ h;have hlen:=h.len
 have hwsl:S.ws.length=S.ts.length:=by simp[ShM.ws]
 have hgsl :(G.ts.map (·.g)).length=S.ts.length:=by simp[hlen]
 obtain⟨wa,wcp,hwv⟩:=h.wn.shape;obtain⟨ta,tcp,htv⟩:=h.tp.shape;have ow0:=h.wn;have ot0:=h.tp;have bw0:=h.blk;rw[hwv,htv] at bw0;rw[hwv] at ow0;rw[htv] at ot0;rw[hwsl] at bw0 ow0;rw[hgsl] at bw0 ot0;have OW:=hh_ ow0;have OT:=hh_ ot0;have BW:=hh_ bw0;have b0:=bw0.cell;have HC:=hh_ (show ∀i,posW S.ws win=some i→closeS S win =⟨S.queue,S.ts.take i++S.ts.drop (i+1)⟩ from fun i e=>by unfold closeS;rw[e]);have HC0:=hh_ (show posW S.ws win=none→closeS S win=S from fun e=>by unfold closeS;rw[e]);have HKT:=hh_ (show ∀k,k<S.ts.length→k<S.ts.length from fun _ h=>h);obtain⟨L,hL⟩:∃L,S.ts.length=L:=⟨_,rfl⟩;rw[hL] at hwsl hgsl OW OT BW b0 hts;have HL:=hh_ hL;obtain⟨W,hW⟩:∃W,S.ws=W:=⟨_,rfl⟩;rw[hW] at hwsl OW HC HC0;have HW:=hh_ hW;obtain⟨gs,hgs⟩:∃gs,G.ts.map (·.g)=gs:=⟨_,rfl⟩;rw[hgs] at hgsl OT;have HGs:=hh_ hgs;rw[hW];clear hL hW hgs ow0 ot0 bw0 h hlen HKT
 go_enter func59,ntmps59
 go_upto_region 2 with fail
 clear b0
 go_loopw [12] (fun s12 wk=>∃k:Nat,k≤L∧s12=.int .i64 k∧(∀j,j<k→W[j]?≠some win)∧w.grownBy wk none) (fun s12 _=>L-(RowKit.intOf s12).toNat)
 case atStart=>exact⟨0,zl_ _,rfl,fun j hj=>absurd hj (by omega),Ab_ _ _⟩
 case round=>
  obtain⟨k,hk,rfl,hn,hg⟩:=hrel;have HN:=hh_ hn;have HG:=hh_ hg
  by_cases hlt:k<L
  ·obtain⟨gw,cw,hv,_,_,_,hc,_⟩:=(OW.out.same hg).at_ Bc_ (i:=k) (by rw[hwsl];exact hlt)
   rw[hwsl] at hv;cases hv;have ck:=hc 0 _ rfl;rw[Nat.mul_one,Nat.add_zero] at ck;have hp:W[k]?=some (W[k]'(by rw[hwsl];exact hlt)):=gq_ _;have HPk:=hh_ hp
   have hklt :(k:Int)<(L:Int):=by omega
   generalize W[k]'(by rw[hwsl];exact hlt)=x at *;clear hp hc hn
   by_cases hx:x=win
   ·subst hx
    have HPo:=hh_ (P0_ (fun j hj=>HN.out j hj) HPk.out);have HBw:=hh_ (BW.out.same hg);have OWc:=hh_ (OW.out.same hg);have OTc:=hh_ (OT.out.same hg);have bb:=HBw.out.cell;clear hg BW OW OT
    go_upto_region 5 with fail
    clear bb ck
    have hKl:k≤W.length:=by omega
    have hKl1:k+1≤W.length:=by omega
    have KN:World.grownBy wr wr.drew none:=gw_;have HWD:=hh_ KN;obtain⟨N,hN⟩:∃N,wr.heap.size=N:=⟨_,rfl⟩;have HN2:=hh_ (show N≤wr.drew.heap.size from Nat.le_of_eq hN.symm)
    have hbN:G.g<N:=by have:=HBw.out.lt;omega
    have HB:=hh_ (HBw.out.same KN);have HO:=hh_ (OWc.out.same KN);have HOb:=hh_ (show ∀j,Value.ownBlock (.slice (some (⟨gw,0,none⟩:Addr)) L wcp)=some j→j<N from fun j hj=>by have:=(OWc.out.lt j hj).2;omega);obtain⟨P,hP⟩:∃P:List _→Prop,P=fun U=>U <+: W.take k++W.drop (k+1):=⟨_,rfl⟩;have HP0:=hh_ (show P [] by rw[hP];exact List.nil_prefix);have HP1:=hh_ (show P (W.take k) by rw[hP];exact List.prefix_append _ _);have HPF:=hh_ (show P (W.take k++W.drop (k+1)) by rw[hP];exact List.prefix_refl _);have HP2:=hh_ (show ∀U,P U→U.length≤(W.take k).length∨U <+: W.take k++W.drop (k+1)∨W.take k++W.drop (k+1) <+: U by rw[hP];exact fun U h=>.inr (.inl h));clear hP;have Hb1:=hh_ (show k =(W.take k).length by rw[lk_];omega);have Hb7:=hh_ (show L-(k+1) =(W.drop (k+1)).length by rw[List.length_drop];omega)
    have hb2 :(W.take k).length*8≤140737488355328:=by rw[←Hb1.out];omega
    have hb3 :(W.take k).length≤9223372036854775807:=by rw[←Hb1.out];omega
    have hb8 :((W.take k).length+(W.drop (k+1)).length)*8≤140737488355328:=by rw[←Hb1.out,←Hb7.out];omega
    have hb9 :(W.take k).length+(W.drop (k+1)).length≤9223372036854775807:=by rw[←Hb1.out,←Hb7.out];omega
    have hcap:=OWc.out.cap
    have hKc :(k:Int)≤(wcp:Int):=by omega
    have hKc1 :(k:Int)+1≤(wcp:Int):=by omega
    have hLc :(L:Int)≤(wcp:Int):=by omega
    have hLL:W.length=L:=by omega
    have HRD:=HO.out.rd.drop1 Bc_ hKl1 (by omega) (wcp-(k+1));rw[hLL,Nat.zero_add] at HRD;replace HRD:=hh_ HRD;have hgN:=HOb.out gw rfl;have HRb:=hh_ (show ∀(a:Addr) (n' c':Nat),Value.slice (if wcp=k+1 then (some ⟨gw,0,none⟩:Option Addr) else some ⟨gw,k+1,none⟩) (L-(k+1)) (wcp-(k+1))=.slice (some a) n' c'→a.block<N from fun a n' c' e=>by split at e <;> (cases e;exact hgN))
    (refine Rg.wp_region_rgZ 19 #[] (Keep intF 1 3 N P) (fun _ _ _ _ _=>False) (by kernel_rfl) (by kernel_rfl) (Keep.refl _ _ _ _ _) (fun _ _ _ h k=>h.trans k) (fun _ _ _ _ _ h=>h) ?_;simp only[List.take,List.drop])
    generalize wr.drew=wd at *
    (refine tq_ 1 ?_;(repeat(go_big_quiet_step (fail)));refine wn_ ?_)
    (refine to_ ?_;intro y1 my1 dy1)
    clear dy1;have z1:=lt_ HN2.out my1.grown.size
    go_wp2_with fail
    refine⟨Keep.of (ga_ _ _ _),?_⟩;have N1:=A0_ (e:=3) intF 1 z1;generalize y1.alloc _=e1 at *;generalize y1.heap.size=g1 at *
    (refine tq_ 3 ?_;(repeat(go_big_quiet_step (fail)));refine wn_ ?_)
    (refine to_ ?_;intro y5 my5 dy5)
    clear dy5;have ax:=(my5.blk HB.out hbN).cell
    (try unfold Bu_ at ax)
    go_wp2_with fail
    refine⟨Keep.refl _ _ _ _ _ _,?_⟩;clear ax
    (refine tq_ 2 ?_;(repeat(go_big_quiet_step (fail)));refine wn_ ?_)
    (refine to_ ?_;intro y8 my8 dy8)
    have N8:=(dy8.out 1 (by omega) (by kernel_rfl)).own [] _ HP0.out N1;have R8:=my8.rd (HO.out.rd.take Bc_ hKl wcp) (fun _ a n c e=>by cases e;exact HOb.out _ rfl);have z8:=lt_ HN2.out my8.grown.size;clear dy8
    go_wp2_with (at_builtin;refine A5_ Ca_ B9_ N8 R8 Hb1.out hb2 hb3 z8 ?_;intro v8 e8 o8 g8 l8;have Hg8:=hh_ g8;clear g8 l8)
    refine⟨Keep.of Hg8.out,?_⟩;clear N8 R8 z8 N1 my5 my1 z1
    (refine tq_ 3 ?_;(repeat(go_big_quiet_step (fail)));refine wn_ ?_)
    (refine to_ ?_;intro y12 my12 dy12)
    clear dy12;have ax:=(my12.blk HB.out hbN).cell
    (try unfold Bu_ at ax)
    go_wp2_with fail
    refine⟨Keep.refl _ _ _ _ _ _,?_⟩;clear ax
    (refine tq_ 3 ?_;(repeat(go_big_quiet_step (fail)));refine wn_ ?_)
    generalize (if wcp=k+1 then (some ⟨gw,0,none⟩:Option Addr) else some ⟨gw,k+1,none⟩)=od at *
    (refine to_ ?_;intro y16 my16 dy16)
    have N16:=(dy16.out 8 (by omega) (by kernel_rfl)).own _ _ HP1.out o8;have R16:=my16.rd HRD.out (fun _ a n c e=>HRb.out a n c e);have z16:=lt_ HN2.out my16.grown.size;clear dy16
    go_wp2_with (at_builtin;refine Bh_ Ca_ B9_ (fun _=>rfl) N16 R16 Hb7.out hb8 hb9 z16 HP2.out ?_;intro v16 e16 o16 k16;have Hk16:=hh_ k16;clear k16)
    refine⟨Hk16.out,?_⟩;clear N16 R16 z16 o8 my12 my16
    (refine tq_ 2 ?_;(repeat(go_big_quiet_step (fail)));refine wn_ ?_)
    (refine Rg.tree_nil ?_;intro z mz dz cz)
    have OZ:=(dz.out 16 (by omega)).own _ _ HPF.out o16;have AZ:=mz.blk HB.out hbN;have GZ:=mz.grown;clear dz cz o16 Hg8 Hk16 mz
    have gz:wr.grownBy z none:=((GrownS.none_ (S:=fun i=>N≤i) (show wr.grownBy wd none from HWD.out)).trans GZ (fun _ hi _=>hi)).back fun i hi=>by omega
    have hNz:wr.heap.size≤z.heap.size:=gz.size;have HOZ:=hh_ (OZ.base fun j hj=>(show wr.heap.size≤j by have:=(OZ.lt j hj).1;omega));obtain⟨az19,cz19,hvz⟩:=OZ.shape;subst hvz;have HAZ:=hh_ AZ;have hgz:=hh_ gz;clear OZ AZ GZ gz;clear hN HN2 hbN HB HO HOb HP0 HP1 HPF HP2 Hb1 Hb7 hb2 hb3 hb8 hb9 hcap hKc hKc1 hLc HRD HRb KN hLL hKl hKl1;generalize hLF:W.take k++W.drop (k+1)=LF at *;have HLF:=hh_ hLF;clear hLF;generalize LF.length=nF at *;have az:=HAZ.out.cell;have fz:=HAZ.out.free
    go_upto_region 6 with fail
    have hs8:z.grownBy (z.setCell ⟨G.g,18,none⟩ (.slice az19 nF cz19)) (some G.g):=Ac_ (Ab_ z (some G.g)) 18 _;have hgw:G.g<wr.heap.size:=HBw.out.lt
    have hTg:∀j,(Value.slice ta L tcp).ownBlock=some j→j≠G.g:=fun j hj e=>H.out.n3 (by rw[htv];rw[show(G.ts.map (·.g)).length=L by rw[HGs.out];exact hgsl];show ownF _ G.g;unfold ownF;rw[hj,e])
    have HB8:=hh_ (HAZ.out.set_ 18 (.slice az19 nF cz19) rfl);have HOW8:=hh_ (HOZ.out.kept hs8 (fun j hj e=>by cases e;have:=(HOZ.out.lt _ hj).1;omega));have HOT8:=hh_ ((OTc.out.same hgz.out).kept hs8 (fun j hj e=>by cases e;exact hTg _ hj rfl));have hG8:=hh_ ((GrownS.none_ (S:=oneF G.g) (Aa_ HG.out hgz.out)).trans (GrownS.of (S:=oneF G.g) hs8 fun j e=>by cases e;rfl) (fun _ h _=>h));have hsz8:=hs8.size;clear az fz hs8 HAZ HOZ OTc OWc HBw hgz hTg;have hwcz:wr.heap.size≤(z.setCell ⟨G.g,18,none⟩ (.slice az19 nF cz19)).heap.size:=lt_ hNz hsz8;clear hsz8 hNz;generalize z.setCell ⟨G.g,18,none⟩ (.slice az19 nF cz19)=w8 at *;clear z;have HBw:=HB8;clear HB8
    have hKl:k≤gs.length:=by omega
    have hKl1:k+1≤gs.length:=by omega
    have KN:World.grownBy w8 w8.drew none:=gw_;have HWD:=hh_ KN;obtain⟨N,hN⟩:∃N,w8.heap.size=N:=⟨_,rfl⟩;have HN2:=hh_ (show N≤w8.drew.heap.size from Nat.le_of_eq hN.symm)
    have hbN:G.g<N:=by have:=HBw.out.lt;omega
    have HB:=hh_ (HBw.out.same KN);have HO:=hh_ (HOT8.out.same KN);have HOb:=hh_ (show ∀j,Value.ownBlock (.slice ta L tcp)=some j→j<N from fun j hj=>by have:=(HOT8.out.lt j hj).2;omega);obtain⟨P,hP⟩:∃P:List _→Prop,P=fun U=>U <+: gs.take k++gs.drop (k+1):=⟨_,rfl⟩;have HP0:=hh_ (show P [] by rw[hP];exact List.nil_prefix);have HP1:=hh_ (show P (gs.take k) by rw[hP];exact List.prefix_append _ _);have HPF:=hh_ (show P (gs.take k++gs.drop (k+1)) by rw[hP];exact List.prefix_refl _);have HP2:=hh_ (show ∀U,P U→U.length≤(gs.take k).length∨U <+: gs.take k++gs.drop (k+1)∨gs.take k++gs.drop (k+1) <+: U by rw[hP];exact fun U h=>.inr (.inl h));clear hP;have Hb1:=hh_ (show k =(gs.take k).length by rw[lk_];omega);have Hb7:=hh_ (show L-(k+1) =(gs.drop (k+1)).length by rw[List.length_drop];omega)
    have hb2 :(gs.take k).length*8≤140737488355328:=by rw[←Hb1.out];omega
    have hb3 :(gs.take k).length≤9223372036854775807:=by rw[←Hb1.out];omega
    have hb8 :((gs.take k).length+(gs.drop (k+1)).length)*8≤140737488355328:=by rw[←Hb1.out,←Hb7.out];omega
    have hb9 :(gs.take k).length+(gs.drop (k+1)).length≤9223372036854775807:=by rw[←Hb1.out,←Hb7.out];omega
    have hcap:=HOT8.out.cap
    have hKc :(k:Int)≤(tcp:Int):=by omega
    have hKc1 :(k:Int)+1≤(tcp:Int):=by omega
    have hLc :(L:Int)≤(tcp:Int):=by omega
    have hLL:gs.length=L:=by omega
    have HRD:=HO.out.rd.drop Ct_ hKl1 (by omega) (tcp-(k+1));rw[hLL] at HRD;simp only[Nat.mul_one] at HRD;rw[bb_] at HRD;replace HRD:=hh_ HRD;have HRb:=Cv_ (K:=k+1) (s:=1) (m:=L-(k+1)) (q:=tcp-(k+1)) HOb.out;simp only[Nat.mul_one] at HRb;rw[bb_] at HRb;replace HRb:=hh_ HRb
    (refine Rg.wp_region_rgZ 19 #[] (Keep ptrF 1 181 N P) (fun _ _ _ _ _=>False) (by kernel_rfl) (by kernel_rfl) (Keep.refl _ _ _ _ _) (fun _ _ _ h k=>h.trans k) (fun _ _ _ _ _ h=>h) ?_;simp only[List.take,List.drop])
    generalize w8.drew=wd at *
    (refine tq_ 1 ?_;(repeat(go_big_quiet_step (fail)));refine wn_ ?_)
    (refine to_ ?_;intro y1 my1 dy1)
    clear dy1;have z1:=lt_ HN2.out my1.grown.size
    go_wp2_with fail
    refine⟨Keep.of (ga_ _ _ _),?_⟩;have N1:=A0_ (e:=181) ptrF 1 z1;generalize y1.alloc _=e1 at *;generalize y1.heap.size=g1 at *
    (refine tq_ 3 ?_;(repeat(go_big_quiet_step (fail)));refine wn_ ?_)
    (refine to_ ?_;intro y5 my5 dy5)
    clear dy5;have ax:=(my5.blk HB.out hbN).cell
    (try unfold Bu_ at ax)
    go_wp2_with fail
    refine⟨Keep.refl _ _ _ _ _ _,?_⟩;clear ax
    (refine tq_ 2 ?_;(repeat(go_big_quiet_step (fail)));refine wn_ ?_)
    (refine to_ ?_;intro y8 my8 dy8)
    have N8:=(dy8.out 1 (by omega) (by kernel_rfl)).own [] _ HP0.out N1;have R8:=my8.rd (HO.out.rd.take Ct_ hKl tcp) (fun _ a n c e=>by cases e;exact HOb.out _ rfl);have z8:=lt_ HN2.out my8.grown.size;clear dy8
    go_wp2_with (at_builtin;refine A5_ N0_ Gi_ N8 R8 Hb1.out hb2 hb3 z8 ?_;intro v8 e8 o8 g8 l8;have Hg8:=hh_ g8;clear g8 l8)
    refine⟨Keep.of Hg8.out,?_⟩;clear N8 R8 z8 N1 my5 my1 z1
    (refine tq_ 3 ?_;(repeat(go_big_quiet_step (fail)));refine wn_ ?_)
    (refine to_ ?_;intro y12 my12 dy12)
    clear dy12;have ax:=(my12.blk HB.out hbN).cell
    (try unfold Bu_ at ax)
    go_wp2_with fail
    refine⟨Keep.refl _ _ _ _ _ _,?_⟩;clear ax
    (refine tq_ 3 ?_;(repeat(go_big_quiet_step (fail)));refine wn_ ?_)
    generalize (if tcp=k+1 then ta else Option.map (fun x=>(⟨x.block,x.off+(k+1),none⟩:Addr)) ta)=od at *
    (refine to_ ?_;intro y16 my16 dy16)
    have N16:=(dy16.out 8 (by omega) (by kernel_rfl)).own _ _ HP1.out o8;have R16:=my16.rd HRD.out (fun _ a n c e=>HRb.out a n c e);have z16:=lt_ HN2.out my16.grown.size;clear dy16
    go_wp2_with (at_builtin;refine Bh_ N0_ Gi_ (fun _=>rfl) N16 R16 Hb7.out hb8 hb9 z16 HP2.out ?_;intro v16 e16 o16 k16;have Hk16:=hh_ k16;clear k16)
    refine⟨Hk16.out,?_⟩;clear N16 R16 z16 o8 my12 my16
    (refine tq_ 2 ?_;(repeat(go_big_quiet_step (fail)));refine wn_ ?_)
    (refine Rg.tree_nil ?_;intro z mz dz cz)
    have OZ:=(dz.out 16 (by omega)).own _ _ HPF.out o16;have AZ:=mz.blk HB.out hbN;have GZ:=mz.grown;clear dz cz o16 Hg8 Hk16 mz
    have gz:w8.grownBy z none:=((GrownS.none_ (S:=fun i=>N≤i) (show w8.grownBy wd none from HWD.out)).trans GZ (fun _ hi _=>hi)).back fun i hi=>by omega
    have HOZ:=hh_ (OZ.base fun j hj=>(show w8.heap.size≤j by have:=(OZ.lt j hj).1;omega));obtain⟨az2,cz2,hvz⟩:=OZ.shape;subst hvz;have HAZ:=hh_ AZ;have hgz:=hh_ gz;clear OZ AZ GZ gz;generalize hLF2:gs.take k++gs.drop (k+1)=LF2 at *;have HLF2:=hh_ hLF2;clear hLF2;generalize LF2.length=nF2 at *;have az:=HAZ.out.cell;have fz:=HAZ.out.free;have hs9:z.grownBy (z.setCell ⟨G.g,19,none⟩ (.slice az2 nF2 cz2)) (some G.g):=Ac_ (Ab_ z (some G.g)) 19 _;have hgw8:G.g<w8.heap.size:=HBw.out.lt;have OW9:=(HOW8.out.same hgz.out).kept hs9 (fun j hj e=>by cases e;have:=(HOW8.out.lt _ hj).1;omega);have OT9:=HOZ.out.kept hs9 (fun j hj e=>by cases e;have:=(HOZ.out.lt _ hj).1;omega);have k9:GrownS (oneF G.g) w (z.setCell ⟨G.g,19,none⟩ (.slice az2 nF2 cz2)):=hG8.out.trans ((GrownS.none_ (S:=oneF G.g) hgz.out).trans (GrownS.of (S:=oneF G.g) hs9 fun j e=>by cases e;rfl) (fun _ h _=>h)) (fun _ h _=>h);have hww:=HG.out.size
    obtain⟨R9,M9⟩:=H.out.del (w':=z.setCell ⟨G.g,19,none⟩ (.slice az2 nF2 cz2)) k9 (K:=k) (by rw[HL.out];exact hlt) (HAZ.out.set_ 19 (.slice az2 nF2 cz2) rfl)
     (by rw[HW.out,HLF.out];exact OW9.zero) (by rw[HGs.out,HLF2.out];exact OT9.zero)
     (fun j hj=>by have:=(HOW8.out.lt j hj).1;omega) (fun j hj=>by have:=(HOZ.out.lt j hj).1;omega)
    have HR9:=hh_ R9;have HM9:=hh_ M9;clear R9 M9 OW9 OT9 k9 hs9
    go_wp2_with fail
    go_ret
    exact⟨by rw[HPo.out];rfl,_,by rw[HC.out _ HPo.out];exact HR9.out,HM9.out,rfl⟩
   ·have hx' :(x==win)=false:=bf_ hx
    have HX:=hh_ hx;clear hx
    go_wp2_with fail
    refine⟨⟨k+1,by omega,by go_num,fun j hj=>?_,HG.out⟩,by simp[RowKit.intOf];omega⟩
    by_cases hj2:j=k
    ·subst hj2;rw[HPk.out];intro e;exact HX.out (Option.some.inj e)
    ·exact HN.out j (by omega)
  ·obtain rfl:k=L:=by omega
   have HPo:=hh_ (show posW W win=none by
    rw[C0_];intro hm;obtain⟨j,hj,e⟩:=List.getElem_of_mem hm
    exact hn j (by rw[←hwsl];exact hj) (by rw[gq_ hj,e]))
   have hnn:¬(k:Int)<(k:Int):=by omega
   clear hn hlt
   go_wp2_with fail
   go_ret
   exact⟨by rw[HPo.out];rfl,G,by rw[HC0.out HPo.out];exact H.out.same HG.out,Mov.same HG.out,rfl⟩
end
section
open Go.RowKit
structure Mi_ {α:Type} (R:World→α→Prop) (Bl:α→Fp):Prop where
 keep:∀{w w':World} {S:Fp} {x:α},R w x→GrownS S w w'→(∀i,Bl x i→¬S i)→R w' x
 low:∀{w:World} {x:α},R w x→Low w (Bl x)
structure By_ {α:Type} (f:α→List Value) (n:Nat) (e:TypeId) (R:World→α→Prop) (Bl:α→Fp) (lo:Nat) (w:World) (v:Value) (l:List α):Prop where
 own:Own f n e lo w v l
 all:∀x∈l,R w x∧(∀i,Bl x i→lo≤i)∧∀k,v.ownBlock=some k→¬Bl x k
section
variable {α:Type} {f:α→List Value} {n:Nat} {e:TypeId} {R:World→α→Prop} {Bl:α→Fp} {lo:Nat} {w w':World} {v v':Value} {l:List α} {x:α}
theorem By_.nil (lo:Nat) (w:World):By_ f n e R Bl lo w (.slice none 0 0) []:=⟨Own.nil _ _ _ _ _,by simp⟩
theorem By_.keptS {S:Fp} (K:Mi_ R Bl) (h:By_ f n e R Bl lo w v l) (hg:GrownS S w w') (hS:∀i,S i→i<lo∨w.heap.size≤i):By_ f n e R Bl lo w' v l:=by
 refine⟨h.own.keptS hg (fun k hk hs=>by have:=h.own.lt k hk;have:=hS k hs;omega),fun x hx=>?_⟩;obtain⟨h1,h2,h3⟩:=h.all x hx;exact⟨K.keep h1 hg fun i hi hs=>by have:=hS i hs;have:=h2 i hi;have:=K.low h1 i hi;omega,h2,h3⟩
theorem By_.kept (K:Mi_ R Bl) {r:Option Nat} (h:By_ f n e R Bl lo w v l) (hg:w.grownBy w' r) (hr:∀k,r=some k→k<lo):By_ f n e R Bl lo w' v l:=
 h.keptS K (GrownS.of (S:=fun i=>r=some i) hg fun k hk=>hk) fun i hi=>.inl (hr i hi)
theorem By_.same (K:Mi_ R Bl) (h:By_ f n e R Bl lo w v l) (hg:w.grownBy w' none):By_ f n e R Bl lo w' v l:=h.kept K hg (by simp)
theorem By_.base {lo':Nat} (h:By_ f n e R Bl lo w v l) (hl:lo'≤lo):By_ f n e R Bl lo' w v l:=
 ⟨h.own.base fun k hk=>lt_ hl (h.own.lt k hk).1,fun o ho=>⟨(h.all o ho).1,fun i hi=>lt_ hl ((h.all o ho).2.1 i hi),(h.all o ho).2.2⟩⟩
theorem By_.rdAll (h:By_ f n e R Bl lo w v l):RdL f n w v l∧∀x∈l,R w x:=⟨h.own.rd,fun x hx=>(h.all x hx).1⟩
theorem By_.snoc (K:Mi_ R Bl) (h:By_ f n e R Bl lo w v l) (h1:R w x) (h2:∀i,Bl x i→lo≤i) (hx:∀k,v.ownBlock=some k→¬Bl x k)
  (ho:Own f n e lo w' v' (l++[x])) (hg:w.grownBy w' v.ownBlock) (hL:Lies v v' w.heap.size):By_ f n e R Bl lo w' v' (l++[x]):=by
 have hnew:∀y,Low w (Bl y)→(∀k,v.ownBlock=some k→¬Bl y k)→∀k,v'.ownBlock=some k→¬Bl y k:=fun y hi hs k hk=>by
  rcases hL with e |⟨m,e1,e2⟩
  ·exact hs k (e▸hk)
  ·rw[e1] at hk;cases hk;intro hb;have:=hi _ hb;omega
 have hk:∀y,R w y→(∀k,v.ownBlock=some k→¬Bl y k)→R w' y:=fun y hy hs=>K.keep hy (GrownS.of (S:=fun i=>v.ownBlock=some i) hg fun k hk=>hk) fun i hi hs'=>hs i hs' hi
 refine⟨ho,fun y hy=>?_⟩
 rcases ma_ hy with hy|hy
 ·obtain⟨a1,a2,a3⟩:=h.all y hy
  exact⟨hk y a1 a3,a2,hnew y (K.low a1) a3⟩
 ·obtain rfl:=ms_ hy
  exact⟨hk y h1 hx,h2,hnew y (K.low h1) hx⟩
theorem By_.snocN (K:Mi_ R Bl) {N:Nat} (h:By_ f n e R Bl lo w v l) (h1:R w x) (hN:lo≤N) (h2:∀i,Bl x i→N≤i) (hv:∀k,v.ownBlock=some k→k<N)
  (ho:Own f n e lo w' v' (l++[x])) (hg:w.grownBy w' v.ownBlock) (hL:Lies v v' w.heap.size):By_ f n e R Bl lo w' v' (l++[x]):=
 h.snoc K h1 (fun i hi=>lt_ hN (h2 i hi)) (fun k hk hb=>by have:=hv k hk;have:=h2 k hb;omega) ho hg hL
end
end
section
open Go.RowKit Go.Sort
structure ChR where
 (vb:Value) (m:ChM)
def chF (x:ChR):List Value:=[x.vb,.int .i64 x.m.ver]
theorem Lt_ (x:ChR) :(chF x).length=2:=rfl
theorem W4_:Elt 108 112 (.agg #[.slice none 0 0,.int .i64 0]) 2 32:=⟨underlying108,by kernel_rfl,rfl,by decide⟩
def ChRd (w:World) (x:ChR):Prop:=Own byF 1 5 0 w x.vb x.m.body
theorem chK:Mi_ ChRd (fun x:ChR=>ownF x.vb):=⟨fun h k ho=>h.offS k ho,fun h=>h.low⟩
abbrev ChsG (lo:Nat) (w:World) (v:Value) (l:List ChR):Prop:=By_ chF 2 112 ChRd (fun x:ChR=>ownF x.vb) lo w v l
structure StF (w0:World) (q:Nat) (S:StrM) (vb vo:Value) (l:List ChR) (w:World):Prop where
 box:Blk w q #[vb,.int .u64 S.skip,.bool S.broken]
 res:Blk w (q+1) #[.slice none 0 0,.int .u64 0,.bool false]
 buf:Own byF 1 5 (q+2) w vb S.buf
 out:ChsG (q+2) w vo l
 a1:Gq_ vb vo
 a2:∀x∈l,∀k,vb.ownBlock=some k→¬ownF x.vb k
 G:w0.grownBy w none
 hq:w0.heap.size=q
section
variable {w0 w w':World} {q:Nat} {S:StrM} {vb vo v':Value} {l:List ChR}
theorem StF.same (h:StF w0 q S vb vo l w) (hg:w.grownBy w' none):StF w0 q S vb vo l w':=
 ⟨h.box.same hg,h.res.same hg,h.buf.same hg,h.out.same chK hg,h.a1,h.a2,Aa_ h.G hg,h.hq⟩
theorem StF.put (h:StF w0 q S vb vo l w) (hg:w.grownBy w' (some q)) (S':StrM) (hb:Blk w' q #[v',.int .u64 S'.skip,.bool S'.broken]) (hv :(v'=vb∧S'.buf=S.buf)∨(v'=.slice none 0 0∧S'.buf=[])):StF w0 q S' v' vo l w':=by
 have h1:=h.hq;refine⟨hb,h.res.kept hg (by simp),?_,h.out.kept chK hg (fun k e=>by cases e;omega),?_,?_,Af_ h.G hg (by omega),h1⟩
 ·rcases hv with⟨rfl,e⟩ |⟨rfl,e⟩
  ·rw[e];exact h.buf.kept hg (fun k hk e=>by cases e;have:=(h.buf.lt _ hk).1;omega)
  ·rw[e];exact Own.nil _ _ _ _ _
 ·rcases hv with⟨rfl,e⟩ |⟨rfl,e⟩
  ·exact h.a1
  ·exact D8_ _
 ·rcases hv with⟨rfl,e⟩ |⟨rfl,e⟩
  ·exact h.a2
  ·intro x _ k hk;simp[Value.ownBlock] at hk
theorem StF.app (h:StF w0 q S vb vo l w) {b:List UInt8} (o:Own byF 1 5 (q+2) w' v' b) (hg:w.grownBy w' vb.ownBlock) (hL:Lies vb v' w.heap.size) :
  Blk w' q #[vb,.int .u64 S.skip,.bool S.broken]∧StF w0 q { S with buf:=b } v' vo l (w'.setCell ⟨q,0,none⟩ v'):=by
 have h1:=h.hq
 have hlo:∀k,vb.ownBlock=some k→q+2≤k:=fun k hk=>(h.buf.lt k hk).1
 have hb:=h.box.kept hg (fun e=>by have:=hlo _ e;omega);have hs:w'.grownBy (w'.setCell ⟨q,0,none⟩ v') (some q):=Ac_ (Ab_ w' (some q)) 0 v'
 have hout:ChsG (q+2) w' vo l:=by
  refine⟨h.out.own.kept hg (fun k hk e=>h.a1 _ e hk),fun x hx=>?_⟩;obtain⟨a,b,c⟩:=h.out.all x hx;exact⟨Own.offS a (GrownS.of (S:=fun i=>vb.ownBlock=some i) hg fun k hk=>hk) (fun i hi hs=>h.a2 x hx i hs hi),b,c⟩
 refine⟨hb,hb.set_ 0 v' rfl,(h.res.kept hg (fun e=>by have:=hlo _ e;omega)).kept hs (by simp),o.kept hs (fun k hk e=>by cases e;have:=(o.lt _ hk).1;omega),hout.kept chK hs (fun k e=>by cases e;omega),?_,?_,Af_ (Aq_ h.G h.buf (by omega) hg) hs (by omega),h1⟩
 ·exact Gq_.app h.a1 (fun k hk=>(h.out.own.lt k hk).2) hL
 ·intro x hx k hk
  rcases hL with e |⟨m,e1,e2⟩
  ·exact h.a2 x hx k (e▸hk)
  ·rw[e1] at hk;cases hk;intro hb';have:=Own.low (h.out.all x hx).1 _ hb';omega
theorem StF.chunk (h:StF w0 q S vb vo l w) {x:ChR} (hx:ChRd w x) (hlo:∀k,ownF x.vb k→q+2≤k) (hxo:∀k,vo.ownBlock=some k→¬ownF x.vb k) (hxb:∀k,vb.ownBlock=some k→¬ownF x.vb k)
  (o:Own chF 2 112 (q+2) w' v' (l++[x])) (hg:w.grownBy w' vo.ownBlock) (hL:Lies vo v' w.heap.size):StF w0 q S vb v' (l++[x]) w':=by
 have h1:=h.hq
 have hlo2:∀k,vo.ownBlock=some k→q+2≤k:=fun k hk=>(h.out.own.lt k hk).1
 refine⟨h.box.kept hg (fun e=>by have:=hlo2 _ e;omega),h.res.kept hg (fun e=>by have:=hlo2 _ e;omega),h.buf.kept hg (fun k hk e=>h.a1 _ hk e),h.out.snoc chK hx hlo hxo o hg hL,?_,?_,Aq_ h.G h.out.own (by omega) hg,h1⟩
 ·exact(Gq_.app h.a1.symm (fun k hk=>(h.buf.lt k hk).2) hL).symm
 ·intro y hy k hk
  rcases ma_ hy with hy|hy
  ·exact h.a2 y hy k hk
  ·rw[ms_ hy];exact hxb k hk
end
def chsF (v:Value) (l:List ChR):Fp:=fun i=>ownF v i∨∃x∈l,ownF x.vb i
theorem ChsG.low {lo:Nat} {w:World} {v:Value} {l:List ChR} (h:ChsG lo w v l):Low w (chsF v l):=fun i hi=>hi.elim (h.own.low i) fun⟨x,hx,hi⟩=>Own.low (h.all x hx).1 i hi
theorem ChsG.offS {lo:Nat} {w w':World} {v:Value} {l:List ChR} {S:Fp} (h:ChsG lo w v l) (k:GrownS S w w') (ho:Off (chsF v l) S):ChsG lo w' v l:=
 ⟨h.own.offS k (ho.left fun i hi=>.inl hi),fun x hx=>⟨Own.offS (h.all x hx).1 k (ho.left fun i hi=>.inr ⟨x,hx,hi⟩),(h.all x hx).2⟩⟩
theorem ChsG.ge {lo:Nat} {w:World} {v:Value} {l:List ChR} (h:ChsG lo w v l):∀i,chsF v l i→lo≤i:=fun i hi=>hi.elim (fun e=>(h.own.lt i e).1) fun⟨x,hx,e⟩=>(h.all x hx).2.1 i e
def FeedP (S:StrM) (p:List UInt8) (w:World) (en:Ending) (w':World):Prop:=
 ∃vb vo l,en=.returned (.tuple #[.agg #[vb,.int .u64 (strF S p).1.skip,.bool (strF S p).1.broken],vo])∧Own byF 1 5 w.heap.size w' vb (strF S p).1.buf∧ChsG w.heap.size w' vo l∧l.map (·.m) =(strF S p).2∧Off (chsF vo l) (ownF vb)∧w.grownBy w' none
theorem eo_ (S0:StrM) (v0:Value) (v:Value) (p:List UInt8) (w:World) (h0:RdL byF 1 w v0 S0.buf) (hS:StrOk S0) (h:RdL byF 1 w v p) (hl:p.length≤1000000) :
  Calls prog 46 #[.agg #[v0,.int .u64 S0.skip,.bool S0.broken],v] w (FeedP S0 p w):=by
 obtain⟨a0,c0,rfl⟩:=h0.shape;obtain⟨a,c,rfl⟩:=h.shape;have H:=hh_ h;have HS:=hh_ hS
 have hb1:S0.buf.length*1≤140737488355328:=by have:=hS.len;omega
 have hb2:S0.buf.length≤9223372036854775807:=by have:=hS.len;omega
 go_enter func46,ntmps46
 go_upto_region 1 with fail
 have A1:=Blk.new w #[.slice a0 S0.buf.length c0,.int .u64 S0.skip,.bool S0.broken] 70;have A2:Blk ((w.alloc (.cells #[.slice a0 S0.buf.length c0,.int .u64 S0.skip,.bool S0.broken] 70)).alloc (.cells #[.slice none 0 0,.int .u64 0,.bool false] 70)) (w.heap.size+1) #[.slice none 0 0,.int .u64 0,.bool false]:=Blk.new' _ _ _ (by simp);have g2:=ga_ (w.alloc (.cells #[.slice a0 S0.buf.length c0,.int .u64 S0.skip,.bool S0.broken] 70)) (.cells #[.slice none 0 0,.int .u64 0,.bool false] 70) none;have g1:=ga_ w (.cells #[.slice a0 S0.buf.length c0,.int .u64 S0.skip,.bool S0.broken] 70) none
 have hz2 :((w.alloc (.cells #[.slice a0 S0.buf.length c0,.int .u64 S0.skip,.bool S0.broken] 70)).alloc (.cells #[.slice none 0 0,.int .u64 0,.bool false] 70)).heap.size=w.heap.size+2:=by simp
 have B2:=A1.same g2;have G2:=Aa_ g1 g2;have R2:=h0.same G2;clear A1 g1 g2 h0 h;generalize (w.alloc _).alloc _=w2 at *;generalize hq:w.heap.size=q at *;have HQ:=hh_ hq;clear hq;have N3:=A0_ (e:=5) byF 1 (le_ w2.heap.size);have g3:=ga_ w2 (.cells #[] 5) none;have R3:=RdL.same R2 g3;have B3:=B2.same g3;have A3:=A2.same g3;have G3:=Aa_ G2 g3;have b3:=B3.cell;have hz3:w2.heap.size≤(w2.alloc (.cells #[] 5)).heap.size:=g3.size;have f3:=B3.free;have HG3:=hh_ G3;have Hz2:=hh_ hz2;clear G3 G2 g3 R2 A2 B2 hz2
 go_upto_region 2 with(at_builtin;refine A5_ D6_ D9_ N3 R3 rfl hb1 hb2 hz3 ?_;intro v4 w4 o4 g4 l4;obtain⟨a4,c4,rfl⟩:=o4.shape;have b4:=(B3.same g4).cell;have f4:=(B3.same g4).free)
 have hs:w4.grownBy (w4.setCell ⟨q,0,none⟩ (.slice a4 S0.buf.length c4)) (some q):=Ac_ (Ab_ w4 (some q)) 0 _;have hz22:=Hz2.out
 have D0:=hh_ (show StF w q S0 (.slice a4 S0.buf.length c4) (.slice none 0 0) [] (w4.setCell ⟨q,0,none⟩ (.slice a4 S0.buf.length c4)) from
  ⟨(B3.same g4).set_ 0 _ rfl,(A3.same g4).kept hs (by simp),(o4.base fun k hk=>by have:=(o4.lt k hk).1;omega).kept hs (fun k hk e=>by cases e;have:=(o4.lt _ hk).1;omega),By_.nil _ _,(D8_ _).symm,by simp,Af_ (Aa_ HG3.out g4) hs (by have:=HQ.out;omega),HQ.out⟩)
 clear b4 f4 b3 f3 hs A3 B3 N3 R3 o4 g4 l4 hz3 HG3 hz22 Hz2;generalize w4.setCell ⟨q,0,none⟩ (.slice a4 S0.buf.length c4)=w5 at *;clear w4
 go_upto_region 4 with fail
 go_loopw [6,19] (fun s6 s19 wk=>∃(k:Nat) (vb:Value) (l:List ChR),k≤p.length∧s19=.int .i64 k∧StF w q (strF S0 (p.take k)).1 vb s6 l wk∧l.map (·.m) =(strF S0 (p.take k)).2) (fun _ s19 _=>p.length-(RowKit.intOf s19).toNat)
 case atStart=>exact⟨0,_,[],zl_ _,rfl,D0.out,rfl⟩
 case round=>
  clear D0;obtain⟨k,vb,l,hk,rfl,hD,hm⟩:=hrel
  by_cases hlt:k<p.length
  ·obtain⟨hok,hch,hcl⟩:=K2_ HS.out p k hk
   have HN:=hh_ (Jd_ S0 hlt);have HM:=hh_ hm;have HD:=hh_ hD
   have hll:l.length≤k:=by have:=congrArg List.length hm;simp at this;omega
   obtain⟨g,off,cap,hv,hgl,hc⟩:=(RdL.same H.out hD.G).at_ Bv_ hlt;cases hv;have c0:=hc 0 _ rfl;rw[Nat.mul_one,Nat.add_zero] at c0;obtain⟨b,hb⟩:∃b,p[k]=b:=⟨_,rfl⟩;rw[hb] at c0 HN;obtain⟨ba,bc,rfl⟩:=hD.buf.shape;obtain⟨oa,oc,rfl⟩:=hD.out.own.shape;obtain⟨SF,hSF⟩:∃SF,strF S0 (p.take k)=SF:=⟨_,rfl⟩;rw[hSF] at hok hch hcl HN HM HD hD;clear hb hgl hc hm hSF;obtain⟨⟨B,K,R⟩,C⟩:=SF;dsimp only at hok hch hcl HN HM HD hD;have b1:=hD.box.cell;have f1:=hD.box.free;have hK:=hok.skip;have hBl:=hok.len;dsimp only at hK hBl;clear hD hok hch;cases R
   ·by_cases hsk:0<K
    ·have HS1:=hh_ (show strS ⟨B,K,false⟩ b =(⟨B,K-1,false⟩,[]) by unfold strS;rw[if_neg (by simp),if_pos hsk])
     have hwr:IntKind.u64.wrap (K-1)=K-1:=IntWalk.u64_in _ (by omega);have hg:=Ac_ (Ab_ wr (some q)) 1 (.int .u64 (K-1));have D2:=hh_ (HD.out.put hg ⟨B,K-1,false⟩ (v':=.slice ba B.length bc) (HD.out.box.set_ 1 _ rfl) (.inl ⟨rfl,rfl⟩))
     go_wp2_with fail
     refine⟨⟨k+1,.slice ba B.length bc,l,by omega,by go_num,?_,?_⟩,by simp[RowKit.intOf];omega⟩
     ·rw[HN.out,HS1.out];exact D2.out
     ·rw[HN.out,HS1.out];simpa using HM.out
    ·obtain rfl:K=0:=by omega
     obtain⟨n,u,e,hX⟩:∃n u e,readF (B++[b]) =(n,u,e):=⟨_,_,_,rfl⟩;have hu1:=Gk_ (B++[b]);have hn1:=Fc_ (B++[b])
     have HS1:=hh_ (show strS ⟨B,0,false⟩ b =(if e=3 then (⟨[],0,true⟩,[⟨[],1⟩]) else if e=0∧4096<n then (⟨[],n,false⟩,[⟨[],2⟩]) else if e=0∧n≤(B++[b]).length-u then (⟨[],0,false⟩,[⟨((B++[b]).drop u).take n,0⟩]) else (⟨B++[b],0,false⟩,[])) by
      unfold strS;rw[if_neg (by simp),if_neg (by omega)];dsimp only
      rw[hX])
     rw[hX] at hu1 hn1;dsimp only at hu1 hn1;have CR:=hh_ (show ∀v' w',RdL byF 1 w' v' (B++[b])→Calls prog 81 #[v'] w' (fun en w2=>en=.returned (.tuple #[.int .u64 n,.int .i64 u,.int .i64 e])∧w'.grownBy w2 none) from fun v' w' h=>by have:=O1_ v' _ w' h;rw[hX] at this;exact this)
     have hb3 :(B.length+1)*1≤140737488355328:=by omega
     have hb4:B.length+1≤9223372036854775807:=by omega
     have hbs:q+2≤wr.heap.size:=HD.out.res.lt;have Hcs:=hh_ (show(#[Value.int .u8 (b.toNat:Int)]:Array Value).toList=byF b from rfl);clear hX hsk
     go_upto_region 10 with(at_builtin;refine A9_ D6_ D9_ Bv_ HD.out.buf b hb3 hb4 hbs Hcs.out ?_;intro v4 w4 o4 g4 l4;obtain⟨a4,c4,rfl⟩:=o4.shape;obtain⟨b4,D4⟩:=HD.out.app o4 g4 l4;have ac4:=b4.cell;have af4:=b4.free)
     simp only[la_,ls_] at D4;have HD4:=hh_ D4
     have hLB :(B++[b]).length=B.length+1:=by simp
     clear b4 D4 ac4 af4 o4 g4 l4 b1 f1 HD hb3 hb4 hbs Hcs c0;generalize w4.setCell ⟨q,0,none⟩ (.slice a4 (B.length+1) c4)=w5' at *;generalize B++[b]=LB at *;clear w4;have bb1:=HD4.out.box.cell
     go_upto_region 11 with(go_at_call 81;refine(CR.out _ _ HD4.out.buf.rd).mono ?_;rintro en w6 ⟨rfl,g6⟩)
     have D6:=hh_ (HD4.out.same g6);clear bb1 HD4 g6 CR;have hbs6:q+2≤w6.heap.size:=D6.out.res.lt
     have hcb3 :(l.length+1)*32≤140737488355328:=by omega
     have hcb4:l.length+1≤9223372036854775807:=by omega
     have bb1:=D6.out.box.cell;have bf1:=D6.out.box.free;have hnil:∀k,¬ownF (.slice none 0 0) k:=Ax_;have HNIL:=hh_ hnil;clear hnil
     by_cases e3:e=3
     ·subst e3
      have HS2:=hh_ (HS1.out.trans (if_pos rfl));have Hcs:=hh_ (show(#[Value.slice none 0 0,.int .i64 1]:Array Value).toList=chF ⟨.slice none 0 0,⟨[],1⟩⟩ from rfl);clear HS1
      go_upto_region 13 with(at_builtin;refine Cd_ W4_ Lt_ D6.out.out.own ⟨.slice none 0 0,⟨[],1⟩⟩ (by intro u hu;simp[chF] at hu;rcases hu with rfl|rfl <;> rfl) hcb3 hcb4 hbs6 Hcs.out (by rfl) _ _ (by rfl) (by rfl) (by rfl) ?_;intro v7 w7 o7 g7 l7;obtain⟨a7,c7,rfl⟩:=o7.shape)
      have D7:=hh_ (D6.out.chunk (x:=⟨.slice none 0 0,⟨[],1⟩⟩) (Own.nil _ _ _ _ _) (fun k h=>absurd h (HNIL.out k)) (fun k _ h=>HNIL.out k h) (fun k _ h=>HNIL.out k h) o7 g7 l7);replace D7:=D7.out;simp only[la_,ls_] at D7;replace D7:=hh_ D7;clear D6 bb1 bf1 o7 g7 l7;have bb1:=D7.out.box.cell;have bf1:=D7.out.box.free;have hg:w7.grownBy (((w7.setCell ⟨q,0,none⟩ (.slice none 0 0)).setCell ⟨q,1,none⟩ (.int .u64 0)).setCell ⟨q,2,none⟩ (.bool true)) (some q):=Ac_ (Ac_ (Ac_ (Ab_ _ _) _ _) _ _) _ _;have D8:=hh_ (D7.out.put hg ⟨[],0,true⟩ (v':=.slice none 0 0) (((D7.out.box.set_ 0 _ rfl).set_ 1 _ rfl).set_ 2 _ rfl) (.inr ⟨rfl,rfl⟩))
      go_wp2_with fail
      refine⟨⟨k+1,.slice none 0 0,l++[⟨.slice none 0 0,⟨[],1⟩⟩],by omega,by go_num,?_,?_⟩,by simp[RowKit.intOf];omega⟩
      ·rw[HN.out,HS2.out];exact D8.out
      ·rw[HN.out,HS2.out,List.map_append,HM.out];rfl
     ·have HS3:=hh_ (HS1.out.trans (if_neg e3))
      have e3' :(e==3)=false:=by simp[e3]
      clear HS1 e3
      by_cases e0:e=0
      ·subst e0
       by_cases hbig:4096<n
       ·have HS2:=hh_ (HS3.out.trans (if_pos ⟨rfl,hbig⟩))
        have Hcs:=hh_ (show(#[Value.slice none 0 0,.int .i64 2]:Array Value).toList=chF ⟨.slice none 0 0,⟨[],2⟩⟩ from rfl)
        have hbig':4096<(n:Int):=by omega
        clear HS3
        go_upto_region 16 with(at_builtin;refine Cd_ W4_ Lt_ D6.out.out.own ⟨.slice none 0 0,⟨[],2⟩⟩ (by intro u hu;simp[chF] at hu;rcases hu with rfl|rfl <;> rfl) hcb3 hcb4 hbs6 Hcs.out (by rfl) _ _ (by rfl) (by rfl) (by rfl) ?_;intro v7 w7 o7 g7 l7;obtain⟨a7,c7,rfl⟩:=o7.shape)
        have D7:=hh_ (D6.out.chunk (x:=⟨.slice none 0 0,⟨[],2⟩⟩) (Own.nil _ _ _ _ _) (fun k h=>absurd h (HNIL.out k)) (fun k _ h=>HNIL.out k h) (fun k _ h=>HNIL.out k h) o7 g7 l7);replace D7:=D7.out;simp only[la_,ls_] at D7;replace D7:=hh_ D7;clear D6 bb1 bf1 o7 g7 l7;have bb1:=D7.out.box.cell;have bf1:=D7.out.box.free;have hg:w7.grownBy (((w7.setCell ⟨q,0,none⟩ (.slice none 0 0)).setCell ⟨q,1,none⟩ (.int .u64 n)).setCell ⟨q,2,none⟩ (.bool false)) (some q):=Ac_ (Ac_ (Ac_ (Ab_ _ _) _ _) _ _) _ _;have D8:=hh_ (D7.out.put hg ⟨[],n,false⟩ (v':=.slice none 0 0) (((D7.out.box.set_ 0 _ rfl).set_ 1 _ rfl).set_ 2 _ rfl) (.inr ⟨rfl,rfl⟩))
        go_wp2_with fail
        refine⟨⟨k+1,.slice none 0 0,l++[⟨.slice none 0 0,⟨[],2⟩⟩],by omega,by go_num,?_,?_⟩,by simp[RowKit.intOf];omega⟩
        ·rw[HN.out,HS2.out];exact D8.out
        ·rw[HN.out,HS2.out,List.map_append,HM.out];rfl
       ·have hbig' :(n:Int)≤4096:=by omega
        have HS4:=hh_ (HS3.out.trans (if_neg (by omega)));have hwr:IntKind.u64.wrap ((B.length:Int)+1-u) =(B.length:Int)+1-u:=IntWalk.u64_in _ (by omega);have hwi:IntKind.i64.wrap (n:Int)=n:=IntWalk.i64_in _ (by omega);clear HS3 hbig
        by_cases hfull:n≤LB.length-u
        ·have HS2:=hh_ (HS4.out.trans (if_pos ⟨rfl,hfull⟩))
         have hfull' :(n:Int)≤(B.length:Int)+1-u:=by omega
         clear HS4;have HB6:Own byF 1 5 (q+2) w6 (.slice a4 (B.length+1) c4) LB:=D6.out.buf
         have hcap4:B.length+1≤c4:=by have:=HB6.cap;omega
         have huB:u≤LB.length:=hu1;obtain⟨od,hod⟩:∃od,(if c4=u then a4 else Option.map (fun x=>Addr.add x u) a4)=od:=⟨_,rfl⟩;have R1:=RdL.drop Bv_ HB6.rd huB (by omega) (c4-u);rw[Nat.mul_one,hod] at R1
         have R2:RdL byF 1 w6 (.slice od (u+n-u) (c4-u)) ((LB.drop u).take n):=by rw[show u+n-u=n by omega];exact RdL.take Bv_ R1 (k:=n) (by rw[List.length_drop];omega) (c4-u)
         have g7:=ga_ w6 (.cells #[] 5) none;have N7:=A0_ (e:=5) byF 1 (le_ w6.heap.size);have R7:=RdL.same R2 g7;have hz7:w6.heap.size≤(w6.alloc (.cells #[] 5)).heap.size:=g7.size;have D7:=hh_ (D6.out.same g7)
         have hlen7:n =((LB.drop u).take n).length:=by rw[lk_,List.length_drop];omega
         have Hlen7:=hh_ (show u+n-u =((LB.drop u).take n).length by omega)
         have hcb1 :((LB.drop u).take n).length*1≤140737488355328:=by rw[←hlen7];omega
         have hcb2 :((LB.drop u).take n).length≤9223372036854775807:=by rw[←hlen7];omega
         have hob:=hh_ fun q' hq'=>(D6.out.out.own.lt q' hq').2
         have hbb:=hh_ fun q' hq'=>(HB6.lt q' hq').2
         have bb2:=D7.out.box.cell;have hwu:IntKind.i64.wrap ((u:Int)+n)=u+n:=IntWalk.i64_in _ (by omega)
         have hun :(u:Int)+n≤(c4:Int):=by omega
         have hun1 :(u:Int)≤(u:Int)+n:=by omega
         have hu00 :(0:Int)≤(u:Int):=by omega
         have HS9:=hh_ HS2.out;clear R1 R2 g7 hlen7 D6 hfull HS2 HB6 bf1;generalize (LB.drop u).take n=BD at *
         go_upto_region 19 with(first
          |(at_builtin;refine A5_ D6_ D9_ N7 R7 Hlen7.out hcb1 hcb2 hz7 ?_;intro v8 w8 o8 g8 l8;obtain⟨a8,c8,rfl⟩:=o8.shape;have D8:=hh_ (D7.out.same g8);have hbs8:q+2≤w8.heap.size:=D8.out.res.lt;have Hcs8:=hh_ (show(#[Value.slice a8 BD.length c8,.int .i64 0]:Array Value).toList=chF ⟨.slice a8 BD.length c8,⟨BD,0⟩⟩ from rfl);have Ho8:=hh_ o8;have hbs9:=g8.size;clear o8 g8 l8)
          |(at_builtin;refine Cd_ W4_ Lt_ D8.out.out.own ⟨.slice a8 BD.length c8,⟨BD,0⟩⟩ (by intro u hu;simp[chF] at hu;rcases hu with rfl|rfl <;> rfl) hcb3 hcb4 hbs8 Hcs8.out (by rfl) _ _ (by rfl) (by rfl) (by rfl) ?_;intro v9 w9 o9 g9 l9;obtain⟨a9,c9,rfl⟩:=o9.shape))
         have D9:=D8.out.chunk (x:=⟨.slice a8 BD.length c8,⟨BD,0⟩⟩) Ho8.out.zero (fun k hk=>by have:=(Ho8.out.lt k hk).1;omega) (fun k hk h=>by have:=(Ho8.out.lt k h).1;have:=hob.out k hk;omega) (fun k hk h=>by have:=(Ho8.out.lt k h).1;have:=hbb.out k hk;omega) o9 g9 l9;simp only[la_,ls_] at D9;replace D9:=hh_ D9;clear D8 D7 bb1 bb2 o9 g9 l9 N7 R7 Hlen7 hcb1 hcb2 hz7 hod;have bb1:=D9.out.box.cell;have bf1:=D9.out.box.free;have hg:w9.grownBy (w9.setCell ⟨q,0,none⟩ (.slice none 0 0)) (some q):=Ac_ (Ab_ _ _) _ _;have D10:=hh_ (D9.out.put hg ⟨[],0,false⟩ (v':=.slice none 0 0) (D9.out.box.set_ 0 _ rfl) (.inr ⟨rfl,rfl⟩))
         go_wp2_with fail
         refine⟨⟨k+1,.slice none 0 0,l++[⟨.slice a8 BD.length c8,⟨BD,0⟩⟩],by omega,by go_num,?_,?_⟩,by simp[RowKit.intOf];omega⟩
         ·rw[HN.out,HS9.out];exact D10.out
         ·rw[HN.out,HS9.out,List.map_append,HM.out];rfl
        ·have HS2:=hh_ (HS4.out.trans (if_neg (by omega)))
         have hfull' :(B.length:Int)+1-u<(n:Int):=by omega
         clear HS4 hfull
         go_wp2_with fail
         refine⟨⟨k+1,.slice a4 (B.length+1) c4,l,by omega,by go_num,?_,?_⟩,by simp[RowKit.intOf];omega⟩
         ·rw[HN.out,HS2.out];exact D6.out
         ·rw[HN.out,HS2.out];simpa using HM.out
      ·have HS2:=hh_ (HS3.out.trans ((if_neg (fun h=>e0 h.1)).trans (if_neg (fun h=>e0 h.1))))
       have e0' :(e==0)=false:=by simp[e0]
       clear HS3 e0
       go_wp2_with fail
       refine⟨⟨k+1,.slice a4 (B.length+1) c4,l,by omega,by go_num,?_,?_⟩,by simp[RowKit.intOf];omega⟩
       ·rw[HN.out,HS2.out];exact D6.out
       ·rw[HN.out,HS2.out];simpa using HM.out
   ·have HS1:=hh_ (show strS ⟨B,K,true⟩ b =(⟨B,K,true⟩,[]) by unfold strS;rw[if_pos rfl])
    go_wp2_with fail
    refine⟨⟨k+1,.slice ba B.length bc,l,by omega,by go_num,?_,?_⟩,by simp[RowKit.intOf];omega⟩
    ·rw[HN.out,HS1.out];exact HD.out
    ·rw[HN.out,HS1.out];simpa using HM.out
  ·obtain rfl:k=p.length:=by omega
   rw[List.take_length] at hD hm;obtain⟨bx,cx,rfl⟩:=hD.buf.shape;obtain⟨by',cy,rfl⟩:=hD.out.own.shape;have HD:=hh_ hD;have HM:=hh_ hm;have b1:=hD.box.cell;have r1:=hD.res.cell;have r2:=hD.res.free;have HP:=hh_ (show ∀en w' vb vo,en=.returned (.tuple #[.agg #[vb,.int .u64 (strF S0 p).1.skip,.bool (strF S0 p).1.broken],vo])→Own byF 1 5 w.heap.size w' vb (strF S0 p).1.buf→ChsG w.heap.size w' vo l→Off (chsF vo l) (ownF vb)→w.grownBy w' none→FeedP S0 p w en w' from fun en w' vb vo h1 h2 h3 h5 h4=>⟨vb,vo,l,h1,h2,h3,hm,h5,h4⟩);clear hm hlt hk;generalize strF S0 p=SF at *;obtain⟨⟨SB,SK,SR⟩,SC⟩:=SF;dsimp only at *
   go_wp2_with fail
   have rc:=(((HD.out.res.set_ 0 (.slice bx SB.length cx) rfl).set_ 1 (.int .u64 SK) rfl).set_ 2 (.bool SR) rfl).cell;have g1:wr.grownBy (((wr.setCell ⟨q+1,0,none⟩ (.slice bx SB.length cx)).setCell ⟨q+1,1,none⟩ (.int .u64 SK)).setCell ⟨q+1,2,none⟩ (.bool SR)) (some (q+1)):=Ac_ (Ac_ (Ac_ (Ab_ _ _) _ _) _ _) _ _;refine bodyPost_ret (v:=.tuple #[.agg #[.slice bx SB.length cx,.int .u64 SK,.bool SR],.slice by' l.length cy]) (by simp[results,results46,go_sem,rc]) rfl ?_;have hqq:=HQ.out
   have hbl:=fun k hk=>(HD.out.buf.lt k hk).1
   exact HP.out _ _ _ _ rfl ((HD.out.buf.kept g1 (fun k hk e=>by cases e;have:=hbl _ hk;omega)).base fun k hk=>by have:=hbl k hk;omega) ((HD.out.out.kept chK g1 (fun k e=>by cases e;omega)).base (by omega)) (fun i hi hf=>hi.elim (fun e=>HD.out.a1 i hf e) fun⟨x,hx,e⟩=>HD.out.a2 x hx i hf e) (Af_ HD.out.G g1 (by omega))
end
end Go.Proofs.YtckmgjmeanloaaaGreat
