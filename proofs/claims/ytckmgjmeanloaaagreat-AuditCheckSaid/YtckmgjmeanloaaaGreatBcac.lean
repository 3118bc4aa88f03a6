/- Contracts of functions, and laws. -/
import Derived.Test.YtckmgjmeanloaaaGreatBcab
set_option maxHeartbeats 8000000
set_option maxRecDepth 100000
namespace Go.Proofs.YtckmgjmeanloaaaGreat
open Go.Proofs.Tryz
variable {w w':World} {t:List Int} {k:ByteArray} {Q:Exit→Act→World→Prop} {ops:Array Oper} {o:Oper} {a:Act} {cs:Array Value}
section
open Go.RowKit Go.Sort
def limV (mode slots tot:Int):Int:=if slots<1∨64<slots then tot else if mode=1 then tot/slots else if mode=2 then tot/(slots+1) else tot
theorem Wo_ {t k:Int} (ht:W64 t) (hk:1≤k):W64 (t/k):=by
 unfold W64 at *;have h1:0≤t/k:=Int.ediv_nonneg ht.1 (by omega);have h2:t/k≤t:=Int.ediv_le_self _ ht.1
 omega
theorem b5_ {mode slots tot:Int} (ht:W64 tot):W64 (limV mode slots tot):=by
 unfold limV
 split
 ·exact ht
 ·split
  ·exact Wo_ ht (by omega)
  ·split
   ·exact Wo_ ht (by omega)
   ·exact ht
theorem fd_ (t k:Int) (w:World) (ht:W64 t) (hk:1≤k∧k≤100):Calls prog 63 #[.int .u64 t,.int .i64 k] w fun e w'=>e=.returned (.int .u64 (t/k))∧w'=w:=by
 have h1:¬k<1:=by omega
 have hw:IntKind.u64.wrap k=k:=IntWalk.u64_in _ (by omega);have hd:Int.tdiv t k=t/k:=Int.tdiv_eq_ediv_of_nonneg ht.1
 have hk0:k≠0:=by omega
 have hk1 :(k==0)=false:=by simpa using hk0
 have hq:=Wo_ ht hk.1;have hw2:IntKind.u64.wrap (t/k)=t/k:=IntWalk.u64_in _ (by unfold W64 at hq;omega);have HX:=hh_ (show t/k=t/k from rfl)
 go_enter func63,ntmps63
 go_wp2_with fail
 go_ret
 exact⟨rfl,rfl⟩
theorem ai_ (mode slots tot:Int) (w:World) (ht:W64 tot):Calls prog 24 #[.int .i64 mode,.int .i64 slots,.int .u64 tot] w fun e w'=>e=.returned (.int .u64 (limV mode slots tot))∧w'=w:=by
 have HL:=hh_ (show limV mode slots tot=if slots<1∨64<slots then tot else if mode=1 then tot/slots else if mode=2 then tot/(slots+1) else tot from rfl);generalize limV mode slots tot=L at *
 by_cases h1:slots<1
 ·have HF:=hh_ (HL.out.trans (if_pos (.inl h1)))
  clear HL
  go_enter func24,ntmps24
  go_wp2_with fail
  go_ret
  exact⟨by rw[HF.out];rfl,rfl⟩
 by_cases h2:64<slots
 ·have HF:=hh_ (HL.out.trans (if_pos (.inr h2)))
  clear HL
  go_enter func24,ntmps24
  go_wp2_with fail
  go_ret
  exact⟨by rw[HF.out];rfl,rfl⟩
 have HF:=hh_ (HL.out.trans (if_neg (by omega)))
 have HS:=hh_ fun k w' hk=>fd_ tot k w' ht hk
 have hw:IntKind.i64.wrap (slots+1)=slots+1:=IntWalk.i64_in _ (by omega);clear HL
 by_cases h3:mode=1
 ·have h3' :(mode==1)=true:=by simpa using h3
  have HF2:=hh_ (HF.out.trans (if_pos h3))
  go_enter func24,ntmps24
  go_wp2_with (go_at_call 63;refine(HS.out _ _ (by omega)).mono ?_;rintro e w' ⟨rfl,rfl⟩)
  go_ret
  exact⟨by rw[HF2.out];rfl,rfl⟩
 have h3' :(mode==1)=false:=by simpa using h3
 have HF2:=hh_ (HF.out.trans (if_neg h3))
 by_cases h4:mode=2
 ·have h4' :(mode==2)=true:=by simpa using h4
  have HF3:=hh_ (HF2.out.trans (if_pos h4))
  go_enter func24,ntmps24
  go_wp2_with (go_at_call 63;refine(HS.out _ _ (by omega)).mono ?_;rintro e w' ⟨rfl,rfl⟩)
  go_ret
  exact⟨by rw[HF3.out];rfl,rfl⟩
 have h4' :(mode==2)=false:=by simpa using h4
 have HF3:=hh_ (HF2.out.trans (if_neg h4))
 go_enter func24,ntmps24
 go_wp2_with fail
 go_ret
 exact⟨by rw[HF3.out];rfl,rfl⟩
def lineBad (lim:Int) (x:Ln):Bool:=decide (splitE x.key≠0)||decide (lim<x.hi-x.lo)
def audBad (c:Cfg) (r:Rep):Bool:=decide (c.Top<r.lines.length)||(decide ((r.lines.length:Int)<c.Top)&&decide ((r.lines.length:Int)<r.trk))||(decide (r.trk=r.lines.length)&&decide (limV c.Mode c.Slots r.tot<r.rest))
def auditE (c:Cfg) (r:Rep):Int:=if repErr r≠0 then repErr r else if audBad c r=true then 13 else if r.lines.any (lineBad (limV c.Mode c.Slots r.tot))=true then 13 else 0
theorem J2_ {lim:Int} {l:List Ln} {k:Nat} (hk:k<l.length) (h:lineBad lim l[k]=true):l.any (lineBad lim)=true:=List.any_eq_true.2 ⟨_,mg_ hk,h⟩
theorem Gw_ {lim:Int} {l:List Ln} (h:∀i (hi:i<l.length),lineBad lim l[i]=false):l.any (lineBad lim)=false:=by
 rw[List.any_eq_false];intro x hx;obtain⟨i,hi,rfl⟩:=List.getElem_of_mem hx
 simp[h i hi]
theorem Fq_ (c:Cfg) (r:Rep) (w:World) (hR:RepRd w r) (hW:RepW r):Calls prog 8 #[c.val,repV r.win r.tot r.vl r.over r.trk r.rest r.vr] w (RetInt (auditE c r) w):=by
 have HA:=hh_ (show auditE c r=if repErr r≠0 then repErr r else if audBad c r=true then 13 else if r.lines.any (lineBad (limV c.Mode c.Slots r.tot))=true then 13 else 0 from rfl);have HR:=hh_ hR;have HW:=hh_ hW;obtain⟨la,lc,e1⟩:=hR.lines.shape;obtain⟨ra,rc,e2⟩:=hR.rej.shape;have hlm:=hR.lines.2.1
 have CR:=hh_ fun w' (h:w.grownBy w' none)=>Sp_ r w' (hR.same h) hW
 rw[e1,e2] at CR ⊢;have E1:=hh_ e1;clear hR e1 e2;generalize auditE c r=AE at *
 go_enter func8,ntmps8
 go_upto_region 1 with(refine At_ rfl _ rfl c rfl ?_;intro w1 B1 G1 z1)
 have D2:=Blk.new w1 (repA r.win r.tot (.slice la r.lines.length lc) r.over r.trk r.rest (.slice ra r.rej.length rc)) 26;have B2:=B1.same (ga_ w1 (.cells #[.int .i64 r.win,.int .u64 r.tot,.slice la r.lines.length lc,.int .u64 r.over,.int .i64 r.trk,.int .u64 r.rest,.slice ra r.rej.length rc] 26) none);have G2:=Ad_ G1 (.cells #[.int .i64 r.win,.int .u64 r.tot,.slice la r.lines.length lc,.int .u64 r.over,.int .i64 r.trk,.int .u64 r.rest,.slice ra r.rej.length rc] 26);generalize w1.alloc _=w2 at *;generalize w1.heap.size=rb at *;clear B1 G1
 by_cases hE:repErr r=0
 case neg=>
  have HF:=hh_ (HA.out.trans (if_pos hE));have C2:=hh_ (CR.out w2 G2);generalize repErr r=E at *
  have he2 :(E != 0)=true:=by simpa using hE
  have he3 :(E==0)=false:=by simpa using hE
  clear hE HA
  go_wp2_with (first
   |(refine A2_ rfl _ rfl _ rfl D2 ?_)
   |(go_at_call 23;refine C2.out.mono ?_;rintro e w3 ⟨rfl,g3⟩))
  go_ret
  exact Aj_ HF.out (Aa_ G2 g3)
 case pos=>
  have HF:=hh_ (HA.out.trans (if_neg (by omega)));have C2:=hh_ (CR.out w2 G2);have OK:=hh_ (Vm_ hE)
  have CL:=hh_ fun w'=>ai_ c.Mode c.Slots r.tot w' HW.out.tot
  have HLw:=hh_ (b5_ (mode:=c.Mode) (slots:=c.Slots) HW.out.tot);rw[hE] at C2;have HBd:=hh_ (show audBad c r =(decide (c.Top<r.lines.length)||(decide ((r.lines.length:Int)<c.Top)&&decide ((r.lines.length:Int)<r.trk))||(decide (r.trk=r.lines.length)&&decide (limV c.Mode c.Slots r.tot<r.rest))) from rfl);generalize limV c.Mode c.Slots r.tot=lim at *;clear hE HA;have b2:=B2.cell
  go_upto_region 2 with(first
   |(refine A2_ rfl _ rfl _ rfl D2 ?_)
   |(go_at_call 23;refine C2.out.mono ?_;rintro e w3 ⟨rfl,g3⟩))
  have D3:=D2.same g3;have B3:=B2.same g3;have G3:=Aa_ G2 g3;clear b2 D2 B2 G2 g3;have b3:=B3.cell;have d3:=D3.cell
  go_upto_region 6 with(go_at_call 24;refine(CL.out _).mono ?_;rintro e w4 ⟨rfl,hw4⟩;subst w4)
  generalize audBad c r=bb at *
  go_cut [27,28,29,30,31,32,33,34,35,36,37,38,39,40,41,42,43,44,45,46,47,48,49,50,51,52,53,54] (fun _ _ _ _ _ _ _ _ _ _ _ _ _ _ _ _ _ _ _ _ _ _ _ _ _ _ _ s54 wx=>s54=.bool bb∧w3=wx)
  case first=>
   have HBe:=hh_ (show decide (r.trk =(r.lines.length:Int)) =(r.trk==(r.lines.length:Int)) by rw[Bool.eq_iff_iff];simp);have HB2:=HBd.out;rw[HBe.out] at HB2;clear HBd HBe;generalize x1e:decide (c.Top<(r.lines.length:Int))=x1 at *;generalize x2e:decide ((r.lines.length:Int)<c.Top)=x2 at *;generalize x3e:decide ((r.lines.length:Int)<r.trk)=x3 at *;generalize x4e :(r.trk==(r.lines.length:Int))=x4 at *;generalize x5e:decide (lim<r.rest)=x5 at *;have HB3:=hh_ HB2;clear HB2;cases x1
   ·cases x2
    ·cases x4
     ·go_wp2_with fail
      go_meet
      exact⟨by rw[HB3.out];rfl,rfl⟩
     ·go_wp2_with fail
      go_meet
      exact⟨by rw[HB3.out];rfl,rfl⟩
    ·cases x3
     ·cases x4
      ·go_wp2_with fail
       go_meet
       exact⟨by rw[HB3.out];rfl,rfl⟩
      ·go_wp2_with fail
       go_meet
       exact⟨by rw[HB3.out];rfl,rfl⟩
     ·go_wp2_with fail
      go_meet
      exact⟨by rw[HB3.out];rfl,rfl⟩
   ·go_wp2_with fail
    go_meet
    exact⟨by rw[HB3.out];rfl,rfl⟩
  obtain⟨rfl,rfl⟩:=hcut
  cases bb with
  | true=>
   have HF2:=hh_ (HF.out.trans (if_pos rfl));clear HF
   go_wp2_with fail
   go_ret
   exact Aj_ HF2.out G3
  | false=>
   have HF2:=hh_ (HF.out.trans (if_neg (by simp)));clear HF HBd
   go_upto_region 9 with fail
   have G3':=hh_ G3;clear D3 B3 b3 d3 G3 C2 CL
   go_loopw [58] (fun s58 wk=>∃k:Nat,k≤r.lines.length∧s58=.int .i64 k∧(∀i (hi:i<r.lines.length),i<k→lineBad lim r.lines[i]=false)∧w3.grownBy wk none) (fun s58 _=>r.lines.length-(RowKit.intOf s58).toNat)
   case atStart=>exact⟨0,zl_ _,rfl,by intro i hi h;omega,Ab_ _ _⟩
   case round=>
    obtain⟨k,hk,rfl,hall,hg⟩:=hrel;have Hall:=hh_ hall;have HG:=hh_ (Aa_ G3'.out hg);clear hall
    by_cases hlt:k<r.lines.length
    ·obtain⟨g,off,cap,hv,hgl,hc⟩:=(HR.out.lines.same HG.out).at_ Ay_ hlt
     rw[E1.out] at hv;cases hv;have c0:=hc 0 _ rfl;have c1:=hc 1 _ rfl;have c2:=hc 2 _ rfl;rw[Nat.add_zero] at c0;obtain⟨-,hks,hlh,hht⟩:=OK.out.ln hlt;have hlw:=HW.out.lines _ (mg_ hlt);have HY:=hh_ (p:=lineBad lim r.lines[k]=true→AE=13) (fun h=>HF2.out.trans (if_pos (J2_ hlt h)))
     have HN:=hh_ (p:=lineBad lim r.lines[k]=false→∀i (hi:i<r.lines.length),i<k+1→lineBad lim r.lines[i]=false) (fun h i hi hik=>by
      rcases Nat.lt_or_ge i k with h1|h1
      ·exact Hall.out i hi h1
      ·obtain rfl:i=k:=by omega
       exact h)
     have CS:=hh_ fun w'=>bq_ r.lines[k].key w' hlw.key
     have HBl:=hh_ (show lineBad lim r.lines[k] =(decide (splitE r.lines[k].key≠0)||decide (lim<r.lines[k].hi-r.lines[k].lo)) from rfl);clear hc;have hlo:=hlw.lo;have hhi:=hlw.hi;unfold W64 at hlo hhi;clear hlw;generalize lineBad lim r.lines[k]=bl at *;generalize r.lines[k]=x at *;have hwr:IntKind.u64.wrap (x.hi-x.lo)=x.hi-x.lo:=IntWalk.u64_in _ (by omega)
     by_cases hs:splitE x.key=0
     ·unfold I5_ at CS
      rw[hs] at CS
      by_cases hl:lim<x.hi-x.lo
      ·have HQ:=hh_ (HY.out (by rw[HBl.out,dt_ hl];simp))
       have hl2:decide (lim<x.hi-x.lo)=true:=dt_ hl;clear hs HY HN HBl
       go_wp2_with (go_at_call 25;refine(CS.out _).mono ?_;rintro e w5 ⟨v5,rfl,o5,g5⟩;obtain⟨a5,c5,rfl⟩:=o5.shape;have a6:=((Blk.new wr #[.string x.key,.int .u64 x.lo,.int .u64 x.hi] 46).same g5).cell)
       go_ret
       exact Aj_ HQ.out (Aa_ HG.out (Aa_ (ga_ _ _ _) g5))
      ·have HQ:=hh_ (HN.out (by rw[HBl.out,df_ hl,df_ (by simpa using hs)];rfl))
       have hl2:decide (lim<x.hi-x.lo)=false:=df_ hl;clear hs HY HN HBl
       go_wp2_with (go_at_call 25;refine(CS.out _).mono ?_;rintro e w5 ⟨v5,rfl,o5,g5⟩;obtain⟨a5,c5,rfl⟩:=o5.shape;have a6:=((Blk.new wr #[.string x.key,.int .u64 x.lo,.int .u64 x.hi] 46).same g5).cell)
       exact⟨⟨k+1,by omega,by go_num,HQ.out,Aa_ hg (Aa_ (ga_ _ _ _) g5)⟩,by simp[RowKit.intOf];omega⟩
     ·have HQ:=hh_ (HY.out (by rw[HBl.out,dt_ hs];rfl))
      unfold I5_ at CS;generalize splitE x.key=E at *
      have he2 :(E != 0)=true:=by simpa using hs
      have he3 :(E==0)=false:=by simpa using hs
      clear hs HY HN HBl
      go_wp2_with (go_at_call 25;refine(CS.out _).mono ?_;rintro e w5 ⟨v5,rfl,o5,g5⟩)
      go_ret
      exact Aj_ HQ.out (Aa_ HG.out (Aa_ (ga_ _ _ _) g5))
    ·have HQ:=hh_ (HF2.out.trans (if_neg (by rw[Gw_ fun i hi=>Hall.out i hi (by omega)];simp)))
     go_wp2_with fail
     go_ret
     exact Aj_ HQ.out HG.out
theorem Mr_ (x y:Ln) (w:World):Calls prog 35 #[lnV x,lnV y] w (Cm_ (befB x y) w):=by
 have hb:=cb_ x.key y.key;obtain⟨b,hd⟩:∃b,decide (x.key.data.toList<y.key.data.toList)=b:=⟨_,rfl⟩;rw[hd] at hb
 by_cases h1:y.hi<x.hi
 ·have HB:=hh_ (show befB x y=true by simp[befB,h1])
  clear hd;generalize befB x y=q at *
  go_enter func35,ntmps35
  go_wp2
  go_ret
  exact Be_ HB.out (Ad_ (Ad_ (Ab_ _ _) _) _)
 ·have h1':decide (y.hi<x.hi)=false:=by simpa using h1
  by_cases h2:x.hi=y.hi
  ·have h2' :((x.hi:Int)==y.hi)=true:=by simp[h2]
   have HB:=hh_ (show befB x y=b by unfold befB;rw[h1',hd,dt_ h2];rfl);clear hd h2;generalize befB x y=q at *
   go_enter func35,ntmps35
   go_wp2
   go_ret
   exact Be_ HB.out (Ad_ (Ad_ (Ab_ _ _) _) _)
  ·have h2' :((x.hi:Int)==y.hi)=false:=by simp[h2]
   have HB:=hh_ (show befB x y=false by simp[befB,h1',h2]);clear hd h2;generalize befB x y=q at *
   go_enter func35,ntmps35
   go_wp2
   go_ret
   exact Be_ HB.out (Ad_ (Ad_ (Ab_ _ _) _) _)
def insK (x:Ln) (L:List Ln):Nat→Nat
 | 0=>0
 | k+1=>if ((L[k]?).map (befB x)).getD false then insK x L k else k+1
theorem K9_ (x:Ln) (L:List Ln):∀k,insK x L k≤k
 | 0=>le_ _
 | k+1=>by
  unfold insK
  split
  ·exact Nat.le_succ_of_le (K9_ x L k)
  ·exact le_ _
def insL (L:List Ln) (x:Ln):List Ln:=L.take (insK x L L.length)++[x]++L.drop (insK x L L.length)
theorem Z6_ (L:List Ln) (x:Ln) :(insL L x).length=L.length+1:=by
 have:=K9_ x L L.length
 unfold insL
 simp;omega
def sortLn (l:List Ln):List Ln:=l.foldl insL []
theorem Og_ (l:List Ln) (x:Ln):sortLn (l++[x])=insL (sortLn l) x:=by simp[sortLn]
theorem E0_ (l:List Ln) :(sortLn l).length=l.length:=by
 have:∀(l a:List Ln),(l.foldl insL a).length=a.length+l.length:=by
  intro l
  induction l with
  | nil=>simp
  | cons x l ih=>intro a;simp only[List.foldl_cons,ih,Z6_,lc_];omega
 simpa [sortLn] using this l []
theorem f1_ (v:Value) (l:List Ln) (w:World) (h:RdL lnF 3 w v l) (hl:l.length≤1000000):Calls prog 127 #[v] w (RetOwn lnF 3 46 (sortLn l) w):=by
 obtain⟨a,c,rfl⟩:=h.shape;have hm:=h.2.1;have H:=hh_ h
 have hll :(l.length:Int)≤1000000:=by omega
 clear h
 go_enter func127,ntmps127
 go_wp2_with fail
 go_loopw [3,9] (fun s3 s9 wk=>∃(j:Nat),j≤l.length∧s9=.int .i64 j∧Own lnF 3 46 w.heap.size wk s3 (sortLn (l.take j))∧w.grownBy wk none) (fun _ s9 _=>l.length-(RowKit.intOf s9).toNat)
 case atStart=>exact⟨0,zl_ _,rfl,Own.nil _ _ _ _ _,Ab_ _ _⟩
 case round=>
  obtain⟨j,hj,rfl,hO,hg⟩:=hrel
  by_cases hjl:j<l.length
  ·obtain⟨gx,ox,cx,hv,hgx,hcx⟩:=(RdL.same H.out hg).at_ Ay_ hjl
   cases hv;have c0:=hcx 0 _ rfl;have c1:=hcx 1 _ rfl;have c2:=hcx 2 _ rfl;rw[Nat.add_zero] at c0;have HT:=hh_ (show sortLn (l.take (j+1))=insL (sortLn (l.take j)) l[j] by rw[tg_ hjl,Og_])
   have hsl :(sortLn (l.take j)).length≤1000000:=by rw[E0_,lk_];omega
   clear hcx;generalize sortLn (l.take j)=S at *;generalize l[j]=x at *;obtain⟨oa,oc,rfl⟩:=hO.shape
   go_upto_region 5 with fail
   have O2:=hO.same (ga_ wr (.cells #[.string x.key,.int .u64 x.lo,.int .u64 x.hi] 46) none);have G2:=Ad_ hg (.cells #[.string x.key,.int .u64 x.lo,.int .u64 x.hi] 46);have A2:=Blk.new wr #[.string x.key,.int .u64 x.lo,.int .u64 x.hi] 46;generalize wr.alloc _=w2 at *;generalize wr.heap.size=gk at *;clear hO hg c0 c1 c2 hgx;have HK:=hh_ (show insL S x=S.take (insK x S S.length)++[x]++S.drop (insK x S S.length) from rfl);have hKl:=K9_ x S S.length;obtain⟨P,hK⟩:∃P,insK x S S.length=P:=⟨_,rfl⟩;have Hst:=hh_ hK;rw[hK] at HK hKl;clear hK;have hsm:=O2.len
   go_cut [6] (fun s6 wx=>s6=.int .i64 S.length∧w2=wx)
   case first=>
    go_wp2_with fail
    go_meet
    exact⟨rfl,rfl⟩
   obtain⟨rfl,rfl⟩:=hcut
   rename_i hK
   refine hK _ _ ?_
   apply wp_seq_k
   intro K1 hK1
   go_cut [6,15,16,17,18,19,20,21,22,23,24,25,26,27] (fun s6 _ _ _ _ _ _ _ _ _ _ _ _ _ wx=>s6=.int .i64 P∧w2.grownBy wx none)
   case first=>
    go_wp2_with fail
    go_loopw [6] (fun s6 wk=>∃k:Nat,k≤S.length∧s6=.int .i64 k∧insK x S k=P∧w2.grownBy wk none) (fun s6 _=>(RowKit.intOf s6).toNat)
    case atStart=>exact⟨S.length,le_ _,rfl,Hst.out,Ab_ _ _⟩
    case round=>
     obtain⟨k,hk,rfl,hik,hgk⟩:=hrel;have Hik:=hh_ hik;clear hik
     by_cases hk0:0<k
     ·have hd:decide ((0:Int)<(k:Int))=true:=dt_ (by omega)
      obtain⟨k',hk'⟩:∃k',k=k'+1:=⟨k-1,by omega⟩
      have hkl:k'<S.length:=by omega
      obtain⟨gs,os,cs,hvs,hgs,hcs⟩:=(RdL.same O2.rd hgk).at_ Ay_ hkl;cases hvs;have d0:=cell_regrown (hcs 0 _ rfl);have d1:=cell_regrown (hcs 1 _ rfl);have d2:=cell_regrown (hcs 2 _ rfl);rw[Nat.add_zero] at d0;have a3:=(A2.same hgk).re;have hst:=hh_ (show insK x S k=if befB x S[k'] then insK x S k' else k by rw[hk',insK,gq_ hkl];rfl);generalize S[k']=y at *
      have r4:=Bn_ (w:=wr) fun w' hg=>Mr_ x y w'
      clear hcs
      have hs1:IntKind.i64.wrap ((k:Int)-1) =(k':Int):=by rw[IntWalk.i64_in _ (by omega)];omega
      have hs2 :(k':Int)<(S.length:Int):=by omega
      have hs3 :(0:Int)≤(k':Int):=by omega
      have hs4 :(k:Int)-1 =(k':Int):=by omega
      have Hk':=hh_ hk';clear hk';generalize befB x y=bb at *
      go_wp2_with fail
      (refine Tail.wp_region_tail_grown 11 (by kernel_rfl) (by kernel_rfl) ?_;simp only[List.take,List.drop];(repeat(go_big_quiet_step (with_reducible exact r4 _ _)));refine wn_ ?_;rintro _ ⟨⟨d5,os5⟩,rfl⟩)
      have K3:=Aa_ hgk (A3_ wr d5 os5);generalize grow (redrawn wr d5) os5=w3 at *;clear d0 d1 d2 a3 r4 hs1 hs2 hs3;cases bb
      ·go_wp2_with fail
       go_meet
       exact⟨by rw[←Hik.out,hst.out];rfl,K3⟩
      ·go_wp2_with fail
       exact⟨⟨k',by omega,rfl,by rw[←Hik.out,hst.out];rfl,K3⟩,by have:=Hk'.out;simp[RowKit.intOf];omega⟩
     ·obtain rfl:k=0:=by omega
      have hd:decide ((0:Int)<((0:Nat):Int))=false:=rfl
      go_wp2_with fail
      go_quiet (fail)
      go_wp2_with fail
      go_meet
      exact⟨by rw[←Hik.out];rfl,Ae_ hgk _⟩
   obtain⟨rfl,h3⟩:=hcut;have O3:=O2.same h3;have A3:=A2.same h3;have G3:=Aa_ G2 h3;clear O2 A2 hK;refine hK1 _ _ ?_;clear hK1;have hcap:=O3.cap
   have hP0 :(0:Int)≤(P:Int):=by omega
   have hP1 :(P:Int)≤(S.length:Int):=by omega
   have hP2 :(P:Int)≤(oc:Int):=by omega
   have hP3 :(S.length:Int)≤(oc:Int):=by omega
   have hsz:=G3.size;refine wp_region_any (by kernel_rfl) ?_
   (refine tp_ 8 36 (.slice oa S.length oc) ?_);simp only[List.setIfInBounds_toArray,List.set_cons_zero,List.set_cons_succ]
   (refine tp_ 9 37 (.int .i64 P) ?_);simp only[List.setIfInBounds_toArray,List.set_cons_zero,List.set_cons_succ]
   (refine Tail.take_put 10 38 (.slice (if oc=P then oa else oa.map (·.add (P*3))) (S.length-P) (oc-P)) rfl rfl (by kernel_rfl) (by kernel_rfl) (by kernel_rfl) (fun _ _ _ h=>h) (Or.inl ⟨by rfl,fun w=>?_⟩) ?_;· go_simp);simp only[List.setIfInBounds_toArray,List.set_cons_zero,List.set_cons_succ]
   have RD:=hh_ fun w' (h:Own lnF 3 46 w.heap.size w' (.slice oa S.length oc) S)=>h.rd.drop Ay_ hKl hcap (oc-P)
   generalize (if oc=P then oa else oa.map (·.add (P*3)))=od at *
   (refine ra_ 7 #[false,false,false,false,false,false,false,false,true,true,true,false,false] ?_;simp only[List.take,List.drop,Rg.tailL];simp (decide:=true) only[if_true,if_false])
   have Gd:wc.grownBy wc.drew none:=gw_;have Kd:=Aa_ G3 Gd
   have hb1 :(S.take P).length=P:=by simp;omega
   have hb2 :(S.take P).length*32≤140737488355328:=by rw[hb1];omega
   have hb3 :(S.take P).length≤9223372036854775807:=by rw[hb1];omega
   have hb4 :((S.take P).length+1)*32≤140737488355328:=by rw[hb1];omega
   have hb5 :(S.take P).length+1≤9223372036854775807:=by rw[hb1];omega
   have hb6 :(S.take P++[x]).length=P+1:=by rw[la_,hb1];rfl
   have hb7 :(S.drop P).length=S.length-P:=by simp
   have hb8 :((S.take P++[x]).length+(S.drop P).length)*32≤140737488355328:=by rw[hb6,hb7];omega
   have hb9 :(S.take P++[x]).length+(S.drop P).length≤9223372036854775807:=by rw[hb6,hb7];omega
   have Hb1:=hh_ hb1.symm;have Hb7:=hh_ hb7.symm;clear hb1 hb6 hb7
   (refine to_ ?_;intro y0 my0 dy0)
   clear dy0;have zy0:w.heap.size≤y0.heap.size:=(Aa_ Kd my0).size
   go_wp2_with fail
   refine⟨ga_ _ _ _,?_⟩;have N0:=A0_ (e:=46) lnF 3 zy0;have hg0:wc.heap.size≤y0.heap.size:=(Aa_ Gd my0).size;generalize y0.alloc _=e0 at *;generalize y0.heap.size=g0 at *
   (refine tq_ 3 ?_;(repeat(go_big_quiet_step (fail)));refine wn_ ?_)
   (refine to_ ?_;intro y4 my4 dy4)
   have N4:=N0.same (dy4.out 0 (by omega) (by kernel_rfl));have K4:=Aa_ Gd my4;have R4:=(O3.rd.take Ay_ hKl oc).same K4;have z4:=(Aa_ Kd my4).size
   go_wp2_with (at_builtin;refine A5_ J0_ Ki_ N4 R4 Hb1.out hb2 hb3 z4 ?_;intro v4 e4 o4 g4 l4;have Hg4:=hh_ g4;clear g4)
   refine⟨Hg4.out,?_⟩;have hv4:=Lies.ge l4 (fun k hk=>lt_ hg0 (Rz_ _ _ _ k hk)) K4.size;clear R4 N0 N4 K4 z4 dy4 l4
   (refine to_ ?_;intro y5 my5 dy5)
   clear dy5;have a5:=(A3.same (Aa_ Gd my5)).cell
   go_wp2_with fail
   refine⟨Ab_ _ _,?_⟩;clear a5
   (refine to_ ?_;intro y6 my6 dy6)
   clear dy6
   go_wp2_with fail
   refine⟨ga_ _ _ _,?_⟩;have N6:=Blk.new y6 #[.string x.key,.int .u64 x.lo,.int .u64 x.hi] 46;generalize y6.alloc _=e6 at *;generalize y6.heap.size=g6 at *
   (refine Rg.tree_nil ?_;intro z mz dz cz)
   have o5:=o4.same (dz.out 4 (by omega));have N7:=(N6.same (dz.out 6 (by omega))).one Ay_ x rfl;have Kz:=Aa_ Gd mz;have KK:=Aa_ Kd mz;have z7:=KK.size;have O7:=O3.same Kz
   have hlo:∀k,Value.ownBlock (.slice oa S.length oc)=some k→k<wc.heap.size:=fun k hk=>(O3.lt k hk).2
   have tok:=hh_ hP0;clear dz cz my0 my4 my5 my6 mz Hg4 Kz N6 o4 O3 A3 hg0 zy0 Gd Kd
   go_wp2_with (first
    |(at_builtin;have _t:=tok;refine app J0_ Ki_ o5 N7 rfl hb4 hb5 z7 ?_;intro v7 w7 o7 g7 l7;clear tok;have K7:=Aq_ KK o5 (le_ _) g7;have R8:=RD.out _ (O7.kept g7 (fun k hk e=>by have:=hlo k hk;have:=hv4 k e;omega));have z8:=K7.size)
    |(at_builtin;refine app J0_ Ki_ o7 R8 Hb7.out hb8 hb9 z8 ?_;intro v8 w8 o8 g8 l8;have K8:=Aq_ K7 o7 (le_ _) g8))
   exact⟨⟨j+1,by omega,by go_num,by rw[HT.out,HK.out];exact o8,K8⟩,by simp[RowKit.intOf];omega⟩
  ·have hke:l.take j=l:=tk_ (by omega)
   rw[hke] at hO
   go_wp2_with fail
   go_ret
   exact⟨_,rfl,hO,hg⟩
theorem Ut_ {n:Int} (h:n≤18446744073709551615):satL n=n:=by unfold satL;rw[if_pos h]
theorem Ws_ {n:Int} (h:n≤18446744073709551615):fitL n=true:=by unfold fitL;exact dt_ h
theorem Tw_ (r:Rep) (w:World) (hR:RepRd w r) (hW:RepW r) (p :(r.win<0∨1099511627776<r.win∨9223372036854775808<r.tot∨r.tot<r.rest)∨64<r.lines.length∨r.trk<r.lines.length∨768<r.trk):Calls prog 15 #[repV r.win r.tot r.vl r.over r.trk r.rest r.vr] w (RetInt (repErr r) w):=by
 have HR:=hh_ hR;have HW:=hh_ hW;obtain⟨la,lc,e1⟩:=hR.lines.shape;obtain⟨ra,rc,e2⟩:=hR.rej.shape;have hlm:=hR.lines.2.1;have hrm:=hR.rej.2.1;clear hR hW;rw[e1,e2];have E1:=hh_ e1;have E2:=hh_ e2;clear e1 e2
 by_cases p1:r.win<0∨1099511627776<r.win∨9223372036854775808<r.tot∨r.tot<r.rest
 ·have HE:=hh_ (gy_ p1)
  have hg:=hh_ (Ad_ (Ab_ w none) (.cells #[.int .i64 r.win,.int .u64 r.tot,.slice la r.lines.length lc,.int .u64 r.over,.int .i64 r.trk,.int .u64 r.rest,.slice ra r.rej.length rc] 26));generalize repErr r=q at *
  rcases p1 with h|h|h|h
  all_goals
   go_enter func15,ntmps15
   go_wp2_with fail
   all_goals
    go_ret
    exact Aj_ HE.out hg.out
 by_cases p2:64<r.lines.length∨r.trk<r.lines.length∨768<r.trk
 ·have HE:=hh_ (gx_ p1 p2)
  have hg:=hh_ (Ad_ (Ab_ w none) (.cells #[.int .i64 r.win,.int .u64 r.tot,.slice la r.lines.length lc,.int .u64 r.over,.int .i64 r.trk,.int .u64 r.rest,.slice ra r.rej.length rc] 26));generalize repErr r=q at *
  have q1:0≤r.win:=by omega
  have q2:r.win≤1099511627776:=by omega
  have q3:r.tot≤9223372036854775808:=by omega
  have q4:r.rest≤r.tot:=by omega
  clear p1
  rcases p2 with h|h|h
  ·have h' :(64:Int)<(r.lines.length:Int):=by omega
   go_enter func15,ntmps15
   go_wp2_with fail
   all_goals
    go_ret
    exact Aj_ HE.out hg.out
  all_goals
   go_enter func15,ntmps15
   go_wp2_with fail
   all_goals
    go_ret
    exact Aj_ HE.out hg.out
 exact absurd p (by simp only[not_or] at *;omega)
theorem bc_ {ls:List Ln} {j k:Nat} (hjk:j<k) (hk:k<ls.length) (h:ls[j].key.data.toList=ls[k].key.data.toList):¬(keysN ls).Nodup:=by
 intro hn;have h1:=List.pairwise_iff_getElem.1 hn j k (by simp[keysN];omega) (by simp[keysN];omega) hjk
 apply h1
 simp only[keysN,List.getElem_map];exact h
theorem Vh_ {ls:List Ln} {k:Nat} {b:List UInt8} (hn :(keysN (ls.take k)).Nodup) (h:∀i (hi:i<ls.length),i<k→ls[i].key.data.toList≠b) :(keysN (ls.take k)++[b]).Nodup:=by
 rw[List.nodup_append];refine⟨hn,by simp,fun a ha c hc e=>?_⟩;rw[List.mem_singleton] at hc;subst hc;subst e;obtain⟨x,hx,rfl⟩:=List.mem_map.1 ha;obtain⟨i,hi,rfl⟩:=List.getElem_of_mem hx;rw[lk_] at hi;rw[List.getElem_take] at h;exact h i (by omega) (by omega) rfl
theorem dq_ (r:Rep) (w:World) (hR:RepRd w r) (hW:RepW r) (p1:¬(r.win<0∨1099511627776<r.win∨9223372036854775808<r.tot∨r.tot<r.rest)) (p2:¬(64<r.lines.length∨r.trk<r.lines.length∨768<r.trk)):Calls prog 15 #[repV r.win r.tot r.vl r.over r.trk r.rest r.vr] w (RetInt (repErr r) w):=by
 have HR:=hh_ hR;have HW:=hh_ hW;obtain⟨la,lc,e1⟩:=hR.lines.shape;obtain⟨ra,rc,e2⟩:=hR.rej.shape;have hlm:=hR.lines.2.1;have hrm:=hR.rej.2.1;clear hR hW;rw[e1,e2];have E1:=hh_ e1;have E2:=hh_ e2;clear e1 e2;have HE:=hh_ (hs_ p1 p2)
 have q1:0≤r.win:=by omega
 have q2:r.win≤1099511627776:=by omega
 have q3:r.tot≤9223372036854775808:=by omega
 have q4:r.rest≤r.tot:=by omega
 have q5 :(r.lines.length:Int)≤64:=by omega
 have q6 :(r.lines.length:Int)≤r.trk:=by omega
 have q7:r.trk≤768:=by omega
 clear p1 p2
 go_enter func15,ntmps15
 go_upto_region 5 with fail
 have B1:=Blk.new w #[.int .i64 r.win,.int .u64 r.tot,.slice la r.lines.length lc,.int .u64 r.over,.int .i64 r.trk,.int .u64 r.rest,.slice ra r.rej.length rc] 26;have G1:=Ad_ (Ab_ w none) (.cells #[.int .i64 r.win,.int .u64 r.tot,.slice la r.lines.length lc,.int .u64 r.over,.int .i64 r.trk,.int .u64 r.rest,.slice ra r.rej.length rc] 26);generalize w.alloc _=w1 at *;generalize w.heap.size=b at *;clear q1 q2 q3 q4 q5 q6 q7;have b1:=B1.cell
 go_wp2_with fail
 clear b1;obtain⟨ho0,ho1⟩:=HW.out.over
 have hs0:satL (r.over+loSum (r.lines.take 0))=r.over:=by rw[show loSum (r.lines.take 0)=0 from rfl,Int.add_zero];exact Ut_ ho1
 have hf0:fitL (r.over+loSum (r.lines.take 0))=true:=by rw[show loSum (r.lines.take 0)=0 from rfl,Int.add_zero];exact Ws_ ho1
 go_loopw [3,4,54] (fun s3 s4 s54 wk=>∃k:Nat,k≤r.lines.length∧s54=.int .i64 k∧(∀i,i<k→lnErrAt r.tot r.lines i=0)∧s3=.int .u64 (satL (r.over+loSum (r.lines.take k)))∧s4=.bool (fitL (r.over+loSum (r.lines.take k)))∧w1.grownBy wk none) (fun _ _ s54 _=>r.lines.length-(RowKit.intOf s54).toNat)
 case atStart=>exact⟨0,zl_ _,rfl,by intro i h;omega,by rw[hs0],by rw[hf0],Ab_ _ _⟩
 case round=>
  clear hs0 hf0;obtain⟨k,hk,rfl,hall,rfl,rfl,hg⟩:=hrel;have Hall:=hh_ hall;clear hall;have hgw:=Aa_ G1 hg;have B3:=B1.same hg;have RR:=HR.out.same hgw
  by_cases hlt:k<r.lines.length
  ·obtain⟨g,off,cap,hv,hgl,hc⟩:=RR.lines.at_ Ay_ hlt
   rw[E1.out] at hv;cases hv;have c0:=hc 0 _ rfl;have c1:=hc 1 _ rfl;have c2:=hc 2 _ rfl;rw[Nat.add_zero] at c0;clear hc;have hxw:=HW.out.lines _ (mg_ hlt)
   have hps:0≤loSum (r.lines.take k):=loSum_pos fun x hx=>(HW.out.lines x (List.mem_of_mem_take hx)).lo.1
   have HS1:=hh_ (show satL (r.over+loSum (r.lines.take (k+1)))=satA (satL (r.over+loSum (r.lines.take k))) r.lines[k].lo by rw[tg_ hlt,Ew_,Lz_ (by omega) hxw.lo.1,Int.add_assoc]);have HS2:=hh_ (show fitL (r.over+loSum (r.lines.take (k+1))) =(fitL (r.over+loSum (r.lines.take k))&&fitA (satL (r.over+loSum (r.lines.take k))) r.lines[k].lo) by rw[tg_ hlt,Ew_,L1_ hxw.lo.1,Int.add_assoc]);have hw1:W64 (satL (r.over+loSum (r.lines.take k))):=Jr_ (by omega);have hw2:W64 r.lines[k].lo:=hxw.lo;have hkey:=hxw.key
   have hq:=hh_ fun h=>Kd_ hlt Hall.out h
   have Hnext:=hh_ (p:=lnErrAt r.tot r.lines k=0→∀i,i<k+1→lnErrAt r.tot r.lines i=0) (fun h i hi=>by
    rcases Nat.lt_or_ge i k with h2|h2
    ·exact Hall.out i h2
    ·obtain rfl:i=k:=by omega
     exact h)
   have HQ:=hh_ (p:=lnErrAt r.tot r.lines k=C2_ r.tot (Kr_ r.lines k) r.lines[k]) (by unfold lnErrAt;rw[gq_ hlt]);have HV:=hh_ (p:=lnErrAt r.tot r.lines k≠0→repErr r=lnErrAt r.tot r.lines k) (fun h=>HE.out.trans (hq.out h));have HV2:=hh_ (p:=∀v:Int,v≠0→C2_ r.tot (Kr_ r.lines k) r.lines[k]=v→repErr r=v) (fun v h1 h2=>by have h3:=HQ.out.trans h2;rw[HV.out (by omega),h3]);have Hn2:=hh_ (p:=C2_ r.tot (Kr_ r.lines k) r.lines[k]=0→∀i,i<k+1→lnErrAt r.tot r.lines i=0) (fun h=>Hnext.out (HQ.out.trans h));clear hq hxw hps HQ HV Hnext;generalize satL (r.over+loSum (r.lines.take k))=T at *;generalize fitL (r.over+loSum (r.lines.take k))=F at *;generalize r.lines[k]=x at *
   go_upto_region 9 with fail
   have B4:=B3.same (ga_ wr (.cells #[.string x.key,.int .u64 x.lo,.int .u64 x.hi] 46) none);have A3:=Blk.new wr #[.string x.key,.int .u64 x.lo,.int .u64 x.hi] 46;have g3:wr.grownBy (wr.alloc (.cells #[.string x.key,.int .u64 x.lo,.int .u64 x.hi] 46)) none:=ga_ wr _ none;generalize wr.alloc _=w3 at *;generalize wr.heap.size=lb at *;clear c0 c1 c2 B3 hgl;have b4:=B4.cell;have a4:=A3.cell;have R3:=RR.same g3;have hg3:=Aa_ hg g3;have hgw3:=Aa_ hgw g3;clear RR hg hgw g3
   have hk0 :(0:Int)≤(k:Int):=by omega
   have hk1 :(k:Int)<(r.lines.length:Int):=by omega
   go_upto_region 15 with fail
   ·go_ret
    exact Aj_ (HV2.out 3 (by decide) (Lc_ (by assumption))) hgw3
   ·go_ret
    exact Aj_ (HV2.out 4 (by decide) (Pt_ (by assumption) (by assumption))) hgw3
   ·go_ret
    exact Aj_ (HV2.out 1 (by decide) (Es_ (by assumption) (by assumption) (by assumption))) hgw3
   rotate_left
   ·go_ret
    exact Aj_ (HV2.out 1 (by decide) (Es_ (by assumption) (by assumption) (Or.inl (by assumption)))) hgw3
   have he:x.key.toList.isEmpty=false:=by assumption
   have hl :(x.key.size:Int)≤255:=by assumption
   have h3:x.lo≤x.hi:=by assumption
   have h4:x.hi≤r.tot:=And.right (show x.lo≤x.hi∧x.hi≤r.tot by assumption);have HL:=hh_ (fun p=>Oh_ (p:=p) he hl h3 h4);clear he hl h3 h4
   have hR:=fun w'=>cp_ T x.lo w' hw1 hw2
   have Hadd:=hh_ hR;clear hR
   cases k with
   | zero=>
    have HN:=hh_ (Hn2.out (HL.out _))
    go_quiet (fail)
    cases F
    ·go_wp2_with (go_at_call 31;refine(Hadd.out _).mono ?_;rintro e w' ⟨rfl,rfl⟩)
     exact⟨⟨0+1,by omega,by go_num,HN.out,by rw[HS1.out],by rw[HS2.out,Bool.false_and],Ae_ hg3 _⟩,by simp[RowKit.intOf];omega⟩
    ·go_wp2_with (go_at_call 31;refine(Hadd.out _).mono ?_;rintro e w' ⟨rfl,rfl⟩)
     exact⟨⟨0+1,by omega,by go_num,HN.out,by rw[HS1.out],by rw[HS2.out,Bool.true_and],Ae_ hg3 _⟩,by simp[RowKit.intOf];omega⟩
   | succ m=>
    obtain⟨g',off',cap',hv',hgl',hd⟩:=R3.lines.at_ Ay_ (show m<r.lines.length by omega);rw[E1.out] at hv';cases hv';have d0:=cell_regrown (hd 0 _ rfl);have d1:=cell_regrown (hd 1 _ rfl);have d2:=cell_regrown (hd 2 _ rfl);simp only[Nat.add_zero] at d0;clear hd
    have hpl:Kr_ r.lines (m+1)=some r.lines[m]:=by simp[Kr_,gq_ (show m<r.lines.length by omega)]
    rw[hpl] at HV2 Hn2;clear hpl;generalize r.lines[m]=y at *;have HL2:=hh_ (show C2_ r.tot (some y) x=if !(befB y x) then 6 else 0 from HL.out (some y))
    have hs1:IntKind.i64.wrap (((m+1:Nat):Int)-1) =(m:Int):=by rw[IntWalk.i64_in _ (by omega)];omega
    have hs2 :((m+1:Nat):Int)-1 =(m:Int):=by omega
    have hgt:decide ((0:Int)<((m+1:Nat):Int))=true:=dt_ (by omega)
    have hl2 :(0:Int)≤(m:Int):=by omega
    have hl3 :(m:Int)<(r.lines.length:Int):=by omega
    have e1:=B4.re;have e2:=A3.re
    have r4:=Bn_ (w:=w3) fun w' hg=>Mr_ y x w'
    clear b4 a4;generalize befB y x=bb at *
    (refine Tail.wp_region_tail_grown 14 (by kernel_rfl) (by kernel_rfl) ?_;simp only[List.take,List.drop];(repeat(go_big_quiet_step (with_reducible exact r4 _ _)));refine wn_ ?_;rintro _ ⟨⟨d5,os5⟩,rfl⟩)
    have K3:=A3_ w3 d5 os5;have A5:=(A3.same K3).cell;generalize grow (redrawn w3 d5) os5=w5 at *;clear d0 d1 d2 e1 e2 r4;cases bb
    ·go_wp2_with fail
     go_ret
     exact Aj_ (HV2.out 6 (by decide) HL2.out) (Aa_ hgw3 K3)
    ·have HN:=hh_ (Hn2.out HL2.out)
     cases F
     ·go_wp2_with (go_at_call 31;refine(Hadd.out _).mono ?_;rintro e w' ⟨rfl,rfl⟩)
      exact⟨⟨m+1+1,by omega,by go_num,HN.out,by rw[HS1.out],by rw[HS2.out,Bool.false_and],Aa_ hg3 K3⟩,by simp[RowKit.intOf];omega⟩
     ·go_wp2_with (go_at_call 31;refine(Hadd.out _).mono ?_;rintro e w' ⟨rfl,rfl⟩)
      exact⟨⟨m+1+1,by omega,by go_num,HN.out,by rw[HS1.out],by rw[HS2.out,Bool.true_and],Aa_ hg3 K3⟩,by simp[RowKit.intOf];omega⟩
  ·have hke:r.lines.take k=r.lines:=tk_ (by omega)
   rw[hke]
   obtain rfl:k=r.lines.length:=by omega
   clear hke hk
   have H10:=hh_ fun h=>HE.out.trans (Xa_ Hall.out h)
   have H4:=hh_ fun h=>HE.out.trans (ci_ Hall.out h)
   obtain⟨S,hS⟩:∃S,r.over+loSum r.lines=S:=⟨_,rfl⟩;have HSd:=hh_ hS;rw[hS];clear hS HE Hall;have b3:=B3.cell
   go_upto_region 22 with fail
   clear b3
   go_loopw [110] (fun s110 wk=>∃k:Nat,k≤r.lines.length∧s110=.int .i64 k∧(keysN (r.lines.take k)).Nodup∧wr.grownBy wk none) (fun s110 _=>r.lines.length-(RowKit.intOf s110).toNat)
   case atStart=>exact⟨0,zl_ _,rfl,by simp[keysN],Ab_ _ _⟩
   case round=>
    obtain⟨k,hk,rfl,hnd,hg2⟩:=hrel;have Hnd:=hh_ hnd;clear hnd;have R2:=RR.same hg2;have B2:=B3.same hg2;have hgw2:=Aa_ hgw hg2;have b2:=B2.cell
    by_cases hlt2:k<r.lines.length
    ·obtain⟨g,off,cap,hv,hgl,hc⟩:=R2.lines.at_ Ay_ hlt2
     rw[E1.out] at hv;cases hv;have c0:=hc 0 _ rfl;have c1:=hc 1 _ rfl;have c2:=hc 2 _ rfl;rw[Nat.add_zero] at c0;clear hc;have hcap:=(HR.out.lcap _ _ _ E1.out);have Hk:=hh_ (Eu_ hlt2)
     have hk0 :(0:Int)≤(k:Int):=by omega
     have hk1 :(k:Int)<(r.lines.length:Int):=by omega
     have hk2 :(k:Int)≤(lc:Int):=by omega
     obtain⟨x,hx⟩:∃x,r.lines[k]=x:=⟨_,rfl⟩;have Hx:=hh_ hx;rw[hx] at c0 c1 c2 Hk;clear hx
     go_upto_region 24 with fail
     have B4:=B2.same (ga_ wr (.cells #[.string x.key,.int .u64 x.lo,.int .u64 x.hi] 46) none);have R4:=R2.same (ga_ wr (.cells #[.string x.key,.int .u64 x.lo,.int .u64 x.hi] 46) none);have A4:=Blk.new wr #[.string x.key,.int .u64 x.lo,.int .u64 x.hi] 46;have K4:=Ad_ hg2 (.cells #[.string x.key,.int .u64 x.lo,.int .u64 x.hi] 46);generalize wr.alloc _=w4 at *;generalize wr.heap.size=lb at *;clear c0 c1 c2 b2 B2 R2 hgw2 hg2 hgl;have b4:=B4.cell
     go_upto_region 25 with fail
     clear b4
     go_loopw [120] (fun s120 wk=>∃j:Nat,j≤k∧s120=.int .i64 j∧(∀i (hi:i<r.lines.length),i<j→r.lines[i].key.data.toList≠x.key.data.toList)∧w4.grownBy wk none) (fun s120 _=>k-(RowKit.intOf s120).toNat)
     case atStart=>exact⟨0,zl_ _,rfl,by intro i _ h;omega,Ab_ _ _⟩
     case round=>
      obtain⟨j,hj,rfl,hne,hg5⟩:=hrel;have Hne:=hh_ hne;clear hne
      by_cases hjl:j<k
      ·obtain⟨g',off',cap',hv',hgl',hd⟩:=(R4.same hg5).lines.at_ Ay_ (show j<r.lines.length by omega)
       rw[E1.out] at hv';cases hv';have d0:=hd 0 _ rfl;have d1:=hd 1 _ rfl;have d2:=hd 2 _ rfl;rw[Nat.add_zero] at d0;clear hd;obtain⟨y,hy⟩:∃y,r.lines[j]=y:=⟨_,rfl⟩;have Hy:=hh_ hy;rw[hy] at d0 d1 d2;clear hy;have a5:=(A4.same (Ad_ hg5 (.cells #[.string y.key,.int .u64 y.lo,.int .u64 y.hi] 46))).cell
       have hj0 :(0:Int)≤(j:Int):=by omega
       have hj1 :(j:Int)<(k:Int):=by omega
       have G5:=Ad_ hg5 (.cells #[.string y.key,.int .u64 y.lo,.int .u64 y.hi] 46);obtain⟨eb,heb⟩:∃eb,(x.key.toList==y.key.toList)=eb:=⟨_,rfl⟩;have Heb:=hh_ heb;have KW:=Aa_ hgw (Aa_ K4 G5);clear heb;rw[ByteArray.toList_eq,ByteArray.toList_eq] at Heb;cases eb
       ·have hb :(x.key.toList==y.key.toList)=false:=by rw[ByteArray.toList_eq,ByteArray.toList_eq];exact Heb.out
        go_wp2_with fail
        exact⟨⟨j+1,by omega,by go_num,fun i hi hij=>by
         rcases Nat.lt_or_ge i j with h|h
         ·exact Hne.out i hi h
         ·obtain rfl:i=j:=by omega
          rw[Hy.out]
          exact fun e=>by have:=Heb.out;rw[e] at this;simp at this,G5⟩,by simp[RowKit.intOf];omega⟩
       ·have hb :(x.key.toList==y.key.toList)=true:=by rw[ByteArray.toList_eq,ByteArray.toList_eq];exact Heb.out
        have HZ:=hh_ (H10.out (bc_ hjl hlt2 (by rw[Hx.out,Hy.out];exact(eq_of_beq Heb.out).symm)))
        go_wp2_with fail
        go_ret
        exact Aj_ HZ.out KW
      ·obtain rfl:j=k:=by omega
       have HN:=hh_ (Vh_ Hnd.out Hne.out)
       go_wp2_with fail
       exact⟨⟨j+1,by omega,by go_num,by rw[Hk.out];exact HN.out,Aa_ K4 hg5⟩,by simp[RowKit.intOf];omega⟩
    ·obtain rfl:k=r.lines.length:=by omega
     rw[List.take_length] at Hnd;have HX:=hh_ (H4.out Hnd.out)
     have H13:=hh_ fun h=>HX.out.trans (Ux_ (r:=r) h)
     have H3:=hh_ fun h h2=>HX.out.trans (cd_ (r:=r) h h2)
     have H0:=hh_ fun h h2=>HX.out.trans (ca_ (r:=r) h h2)
     rw[HSd.out] at H13 H3 H0;clear HX H10 H4 Hnd
     by_cases hf:S≤18446744073709551615
     ·rw[Ut_ hf,Ws_ hf]
      by_cases ht:S=r.tot
      ·have htb :((S:Int) != r.tot)=false:=by rw[ht];simp
       have H3':=hh_ (H3.out (by omega));have H0':=hh_ (H0.out (by omega));clear H3 H0 H13 ht hf
       by_cases h7:r.rej.length=7
       ·obtain⟨g7,o7,c7,hv7,hg7,hc7⟩:=RdL.one Cs_ R2.rej (k:=0) (by omega)
        rw[E2.out] at hv7;cases hv7
        have h7b :((r.rej.length:Int) != 7)=false:=by rw[h7];rfl
        have h7c :(0:Int)<(r.rej.length:Int):=by omega
        rw[Nat.add_zero] at hc7;have H7:=hh_ h7;obtain⟨r0,hr0,hr1⟩:∃r0,r.rej[0]?=some r0∧wr.cell? ⟨g7,o7,none⟩=some (.int .u64 r0):=⟨r.rej[0],gq_ (by omega),hc7⟩;clear hc7;have Hr0:=hh_ hr0;clear hr0 h7
        by_cases hz:r0=0
        ·have HZ:=hh_ (H0'.out (by rw[Hr0.out,hz];have:=H7.out;simp;omega))
         subst hz;clear H3' H0' Hr0 H7
         go_wp2_with fail
         go_ret
         exact Aj_ HZ.out hgw2
        ·have hzb :((r0:Int) != 0)=true:=by simp[hz]
         have HZ:=hh_ (H3'.out (.inr (by rw[Hr0.out];simp[hz])));clear H3' H0' Hr0 hz H7
         go_wp2_with fail
         go_ret
         exact Aj_ HZ.out hgw2
       ·have h7b :((r.rej.length:Int) != 7)=true:=by simp;omega
        have HZ:=hh_ (H3'.out (.inl h7));clear H3' H0' h7
        go_wp2_with fail
        go_ret
        exact Aj_ HZ.out hgw2
      ·have htb :((S:Int) != r.tot)=true:=by simp[ht]
       have HZ:=hh_ (H13.out (.inr (by omega)));clear H3 H0 H13 ht hf
       go_wp2_with fail
       go_ret
       exact Aj_ HZ.out hgw2
     ·have f1:fitL S=false:=by unfold fitL;exact df_ hf
      rw[f1];have HZ:=hh_ (H13.out (.inl (by omega)));clear H3 H0 H13 hf f1
      go_wp2_with fail
      go_ret
      exact Aj_ HZ.out hgw2
theorem O5_ (r:Rep) (w:World) (hR:RepRd w r) (hW:RepW r):Calls prog 15 #[repV r.win r.tot r.vl r.over r.trk r.rest r.vr] w (RetInt (repErr r) w):=by
 by_cases p1:r.win<0∨1099511627776<r.win∨9223372036854775808<r.tot∨r.tot<r.rest
 ·exact Tw_ r w hR hW (.inl p1)
 by_cases p2:64<r.lines.length∨r.trk<r.lines.length∨768<r.trk
 ·exact Tw_ r w hR hW (.inr p2)
 exact dq_ r w hR hW p1 p2
theorem c3_ (k:ByteArray) (w:World) (hk:k.size≤1000000):Calls prog 66 #[.string k] w (CutP k.data.toList w):=by
 obtain⟨⟨l⟩⟩:=k
 cases l with
 | nil=>
  go_enter func66,ntmps66
  go_wp2_with fail
  go_ret3
  exact Mc_ rfl
 | cons b q=>
  have hs :(⟨(b::q).toArray⟩:ByteArray).size=q.length+1:=by simp[ByteArray.size]
  have hne :(⟨(b::q).toArray⟩:ByteArray).toList.isEmpty=false:=by rw[ByteArray.toList_eq];rfl
  have hq:q.length≤1000000:=by have :(⟨(b::q).toArray⟩:ByteArray).size≤1000000:=hk;omega
  have hw1:wrap64 (q.length:Int) =(q.length:Int):=by unfold wrap64;omega
  have hbb:=b.toNat_lt
  have hw2:wrap64 (b.toNat:Int) =(b.toNat:Int):=by unfold wrap64;omega
  have hw3:wrap64 (1+(b.toNat:Int))=1+(b.toNat:Int):=by unfold wrap64;omega
  have hx:∀h,(⟨⟨b::q⟩⟩:ByteArray)[0]'h=b:=fun _=>rfl
  by_cases hb:q.length<b.toNat
  ·have hz0 :((q.length:Int)+1==0)=false:=by rw[beq_eq_false_iff_ne];omega
   have hb2 :(q.length:Int)+1<1+(b.toNat:Int):=by omega
   have hb3 :((⟨(b::q).toArray⟩:ByteArray).size:Int)-1<(b.toNat:Int):=by rw[hs];omega
   go_enter func66,ntmps66
   go_wp2_with fail
   go_ret3
   exact Mc_ (by simp only[cutF];rw[if_pos hb])
  ·have hz0 :((q.length:Int)+1==0)=false:=by rw[beq_eq_false_iff_ne];omega
   have hb2:¬(q.length:Int)+1<1+(b.toNat:Int):=by omega
   have hb3:¬((⟨(b::q).toArray⟩:ByteArray).size:Int)-1<(b.toNat:Int):=by rw[hs];omega
   go_enter func66,ntmps66
   go_upto_region 3 with fail
   have i1 :(0:Int)≤1+(b.toNat:Int):=by omega
   have i2 :(1:Int)≤1+(b.toNat:Int):=by omega
   have i3:1+(b.toNat:Int)≤(q.length:Int)+1:=by omega
   have i4 :(1:Int)≤(q.length:Int)+1:=by omega
   go_quiet (fail)
   go_wp2_with fail
   go_ret3
   rw[Rq_,Rp_];exact Ru_ (by simp only[cutF];rw[if_neg hb]) (Ae_ (Ab_ w none) nq)
theorem W6_ {r:List UInt8} (h:cutF r=none) (hr:r.length≤1000000) (w:World):Calls prog 66 #[.string ⟨r.toArray⟩] w fun e w'=>e=.returned (.tuple #[.string ⟨#[]⟩,.string ⟨#[]⟩,.bool false])∧w.grownBy w' none:=
 (c3_ ⟨r.toArray⟩ w (by simpa [ByteArray.size] using hr)).mono fun e w' h1=>by
  unfold CutP at h1;rw[show(⟨r.toArray⟩:ByteArray).data.toList=r from rfl,h] at h1;exact⟨h1.2,h1.1⟩
theorem c0_ {r a s:List UInt8} (h:cutF r=some (a,s)) (hr:r.length≤1000000) (w:World):Calls prog 66 #[.string ⟨r.toArray⟩] w fun e w'=>e=.returned (.tuple #[.string ⟨a.toArray⟩,.string ⟨s.toArray⟩,.bool true])∧w.grownBy w' none:=
 (c3_ ⟨r.toArray⟩ w (by simpa [ByteArray.size] using hr)).mono fun e w' h1=>by
  unfold CutP at h1;rw[show(⟨r.toArray⟩:ByteArray).data.toList=r from rfl,h] at h1;exact⟨h1.2,h1.1⟩
theorem Zl_ (k:ByteArray) (w:World) (hk:k.size≤9223372036854775807):Calls prog 27 #[.string k] w (I5_ k w):=by
 by_cases hlong:255<k.size
 ·have HF:=hh_ (H0_ hlong)
  have i1 :(255:Int)<(k.size:Int):=by omega
  clear hlong
  go_enter func27,ntmps27
  go_wp2_with fail
  go_ret2
  exact Bi_ HF.out (by decide) (Ab_ _ _)
 have i1:¬(255:Int)<(k.size:Int):=by omega
 have i2 :(k.size:Int)≤255:=by omega
 have Hl:=hh_ hlong;have hkl:k.data.toList.length=k.size:=szB k;clear hlong
 go_enter func27,ntmps27
 go_upto_region 5 with fail
 go_loopw [5,4] (fun s5 s4 wk=>∃(r:List UInt8) (O:List TagR),s5=.string ⟨r.toArray⟩∧Own tagF 2 53 w.heap.size wk s4 O∧El_ O r=splitP k.data.toList∧O.length+r.length≤255∧(∀t∈O,TagW t)∧w.grownBy wk none) (fun s5 _ _=>match s5 with | .string b=>b.size | _=>0)
 case atStart=>exact⟨k.data.toList,[],rfl,Own.nil _ _ _ _ _,Rt_ _,by simp;omega,by simp,Ab_ _ _⟩
 case round=>
  obtain⟨r,O,rfl,hO,hA,hOl,hW,hg⟩:=hrel;have HA:=hh_ hA;have HW:=hh_ hW;clear hA hW;obtain⟨oa,oc,rfl⟩:=hO.shape
  by_cases hr:r=[]
  ·subst hr
   have HA2:=hh_ (show splitP k.data.toList=some O by rw[←HA.out,Kc_]);have CK:=hh_ (Hu_ _ O wr hO.rd HW.out);have HO:=hh_ hO;have HG:=hh_ hg;clear hO hg HA
   by_cases hE:keyE O=0
   ·have hbe:=Mv_ (keyY O) k
    by_cases hY:keyY O=k
    ·obtain⟨HF1,HF2⟩:=F1_ Hl.out HA2.out hE hY
     have HF1:=hh_ HF1;have HF2:=hh_ HF2;rw[dt_ (by rw[hY])] at hbe;unfold KeyP at CK;rw[hE] at CK;generalize keyY O=ky at *;clear hE hY
     go_wp2_with (go_at_call 16;refine CK.out.mono ?_;rintro e w2 ⟨rfl,g2⟩)
     go_ret2
     exact⟨_,by rw[HF1.out];rfl,by rw[HF2.out];exact HO.out.same g2,Aa_ HG.out g2⟩
    ·have HF:=hh_ (Ez_ Hl.out HA2.out (.inr hY))
     have hY2:¬(keyY O).data.toList=k.data.toList:=fun e=>hY (Wc_ e▸(Wc_ (a:=k) rfl).symm▸rfl)
     rw[df_ hY2] at hbe;unfold KeyP at CK;rw[hE] at CK;generalize keyY O=ky at *;clear hE hY hY2
     go_wp2_with (go_at_call 16;refine CK.out.mono ?_;rintro e w2 ⟨rfl,g2⟩)
     go_ret2
     exact Bi_ HF.out (by decide) (Aa_ HG.out g2)
   ·have HF:=hh_ (Ez_ Hl.out HA2.out (.inl hE))
    unfold KeyP at CK;generalize keyY O=ky at *;generalize keyE O=EE at *
    have he2 :(EE != 0)=true:=by simpa using hE
    have he3 :(EE==0)=false:=by simpa using hE
    clear hE
    go_wp2_with (go_at_call 16;refine CK.out.mono ?_;rintro e w2 ⟨rfl,g2⟩)
    go_ret2
    exact Bi_ HF.out (by decide) (Aa_ HG.out g2)
  ·have hre:r.isEmpty=false:=by cases r <;> simp_all
   have hrl:r.length≤1000000:=by omega
   have HN:=hh_ hr;clear hr
   go_upto_region 8 with fail
   have A2:=Blk.new wr #[.string ⟨#[]⟩,.string ⟨#[]⟩] 53;have O2:=hO.same (ga_ wr (.cells #[.string ⟨#[]⟩,.string ⟨#[]⟩] 53) none);have G2:=Ad_ hg (.cells #[.string ⟨#[]⟩,.string ⟨#[]⟩] 53)
   have hlo:=fun k hk=>(hO.lt k hk).2
   have hz:=hg.size;generalize wr.alloc _=w2 at *;generalize wr.heap.size=gk at *;clear hO hg
   cases h1:cutF r with
   | none=>
    have HF:=hh_ (Gd_ Hl.out (by rw[←HA.out];exact Fw_ HN.out (Qd_ h1)));have C1:=hh_ (W6_ h1 hrl w2)
    have AA:=hh_ fun w' h=>A2.same (w':=w') h
    go_upto_region 9 with(go_at_call 66;refine C1.out.mono ?_;rintro e w3 ⟨rfl,g3⟩;have a3:=(AA.out _ g3).cell;have f3:=(AA.out _ g3).free)
    have A4:=(A2.same g3).set_ 0 (.string ⟨#[]⟩) (cs':=#[.string ⟨#[]⟩,.string ⟨#[]⟩]) rfl;have G4:=Ai_ (p:=⟨gk,0,none⟩) (Aa_ G2 g3) hz (.string ⟨#[]⟩);clear O2 A2 AA C1 G2 a3 f3 g3;generalize w3.setCell ⟨gk,0,none⟩ (.string ⟨#[]⟩)=w4 at *;have C1:=hh_ (W6_ (r:=[]) rfl (by simp) w4)
    have AA:=hh_ fun w' h=>A4.same (w':=w') h
    go_wp2_with (go_at_call 66;refine C1.out.mono ?_;rintro e w5 ⟨rfl,g5⟩;have a5:=(AA.out _ g5).cell;have f5:=(AA.out _ g5).free)
    go_ret2
    exact Bi_ HF.out (by decide) (Ai_ (Aa_ G4 g5) hz _)
   | some p=>
    obtain⟨ta,s⟩:=p;have hsl:=Hb_ h1;have C1:=hh_ (c0_ h1 hrl w2)
    have AA:=hh_ fun w' h=>A2.same (w':=w') h
    go_upto_region 9 with(go_at_call 66;refine C1.out.mono ?_;rintro e w3 ⟨rfl,g3⟩;have a3:=(AA.out _ g3).cell;have f3:=(AA.out _ g3).free)
    have A4:=(A2.same g3).set_ 0 (.string ⟨ta.toArray⟩) (cs':=#[.string ⟨ta.toArray⟩,.string ⟨#[]⟩]) rfl;have O4:=(O2.same g3).kept (Ac_ (Ab_ w3 (some gk)) 0 (.string ⟨ta.toArray⟩)) (fun q hq e=>by have:=hlo q hq;cases e;omega);have G4:=Ai_ (p:=⟨gk,0,none⟩) (Aa_ G2 g3) hz (.string ⟨ta.toArray⟩);clear O2 A2 AA C1 G2 a3 f3 g3;generalize w3.setCell ⟨gk,0,none⟩ (.string ⟨ta.toArray⟩)=w4 at *
    cases h2:cutF s with
    | none=>
     have HF:=hh_ (Gd_ Hl.out (by rw[←HA.out];exact Fw_ HN.out (R0_ h1 h2)));have C1:=hh_ (W6_ h2 (by omega) w4)
     have AA:=hh_ fun w' h=>A4.same (w':=w') h
     go_wp2_with (go_at_call 66;refine C1.out.mono ?_;rintro e w5 ⟨rfl,g5⟩;have a5:=(AA.out _ g5).cell;have f5:=(AA.out _ g5).free)
     go_ret2
     exact Bi_ HF.out (by decide) (Ai_ (Aa_ G4 g5) hz _)
    | some p=>
     obtain⟨tb,u⟩:=p;have hul:=Hb_ h2;have C1:=hh_ (c0_ h2 (by omega) w4)
     have AA:=hh_ fun w' h=>A4.same (w':=w') h
     have HS:=hh_ (Kb_ (L:=O) HN.out (Rj_ h1 h2))
     go_upto_region 10 with(go_at_call 66;refine C1.out.mono ?_;rintro e w5 ⟨rfl,g5⟩;have a5:=(AA.out _ g5).cell;have f5:=(AA.out _ g5).free)
     have A6:=(A4.same g5).set_ 1 (.string ⟨tb.toArray⟩) (cs':=#[.string ⟨ta.toArray⟩,.string ⟨tb.toArray⟩]) rfl;have O6:=(O4.same g5).kept (Ac_ (Ab_ w5 (some gk)) 1 (.string ⟨tb.toArray⟩)) (fun q hq e=>by have:=hlo q hq;cases e;omega);have G6:=Ai_ (p:=⟨gk,1,none⟩) (Aa_ G4 g5) hz (.string ⟨tb.toArray⟩);clear O4 A4 AA C1 G4 a5 f5 g5;generalize w5.setCell ⟨gk,1,none⟩ (.string ⟨tb.toArray⟩)=w6 at *;have a6:=A6.cell
     have hb1 :(O.length+1)*32≤140737488355328:=by omega
     have hb2:O.length+1≤9223372036854775807:=by omega
     have hz6:=G6.size
     have hta:ta.length≤255:=by omega
     have htb:tb.length≤255:=by omega
     have HTw:=hh_ (show TagW ⟨⟨ta.toArray⟩,⟨tb.toArray⟩⟩ from⟨by show ta.toArray.size≤_;simp;omega,by show tb.toArray.size≤_;simp;omega⟩);have HOl:=hh_ (show(O++[(⟨⟨ta.toArray⟩,⟨tb.toArray⟩⟩:TagR)]).length+u.length≤255 by simp;omega);have HUl:=hh_ (show u.length<r.length by omega)
     go_wp2_with (at_builtin;refine A9_ Co_ Dc_ Au_ O6 ⟨⟨ta.toArray⟩,⟨tb.toArray⟩⟩ hb1 hb2 hz6 (by rfl) ?_;intro v7 w7 o7 g7 l7)
     refine⟨⟨u,_,rfl,o7,by rw[←HS.out,HA.out],HOl.out,?_,Aq_ G6 O6 (le_ _) g7⟩,?_⟩
     ·intro t ht
      rcases ma_ ht with ht|ht
      ·exact HW.out t ht
      ·rw[ms_ ht];exact HTw.out
     ·show u.toArray.size<r.toArray.size
      simpa using HUl.out
theorem h4_ (mode slots tot:Int) (w:World) (ht:W64 tot):Calls prog 26 #[.int .i64 mode,.int .i64 slots,.int .u64 tot] w fun e w'=>e=.returned (.int .u64 (limV mode slots tot))∧w'=w:=by
 have HL:=hh_ (show limV mode slots tot=if slots<1∨64<slots then tot else if mode=1 then tot/slots else if mode=2 then tot/(slots+1) else tot from rfl);generalize limV mode slots tot=L at *
 by_cases h1:slots<1
 ·have HF:=hh_ (HL.out.trans (if_pos (.inl h1)))
  clear HL
  go_enter func26,ntmps26
  go_wp2_with fail
  go_ret
  exact⟨by rw[HF.out];rfl,rfl⟩
 by_cases h2:64<slots
 ·have HF:=hh_ (HL.out.trans (if_pos (.inr h2)))
  clear HL
  go_enter func26,ntmps26
  go_wp2_with fail
  go_ret
  exact⟨by rw[HF.out];rfl,rfl⟩
 have HF:=hh_ (HL.out.trans (if_neg (by omega)));have hw:IntKind.i64.wrap (slots+1)=slots+1:=IntWalk.i64_in _ (by omega);have hu1:IntKind.u64.wrap slots=slots:=IntWalk.u64_in _ (by omega);have hu2:IntKind.u64.wrap (slots+1)=slots+1:=IntWalk.u64_in _ (by omega);have hd1:Int.tdiv tot slots=tot/slots:=Int.tdiv_eq_ediv_of_nonneg ht.1;have hd2:Int.tdiv tot (slots+1)=tot/(slots+1):=Int.tdiv_eq_ediv_of_nonneg ht.1;have hq1:=Wo_ (k:=slots) ht (by omega);have hq2:=Wo_ (k:=slots+1) ht (by omega);have hv1:IntKind.u64.wrap (tot/slots)=tot/slots:=IntWalk.u64_in _ (by unfold W64 at hq1;omega);have hv2:IntKind.u64.wrap (tot/(slots+1))=tot/(slots+1):=IntWalk.u64_in _ (by unfold W64 at hq2;omega)
 have hz1 :(slots==0)=false:=by simp;omega
 have hz2 :(slots+1==0)=false:=by simp;omega
 have hz3:slots≠0:=by omega
 have hz4:slots+1≠0:=by omega
 clear HL
 by_cases h3:mode=1
 ·have h3' :(mode==1)=true:=by simpa using h3
  have HF2:=hh_ (HF.out.trans (if_pos h3))
  go_enter func26,ntmps26
  go_wp2_with fail
  go_ret
  exact⟨by rw[HF2.out];rfl,rfl⟩
 have h3' :(mode==1)=false:=by simpa using h3
 have HF2:=hh_ (HF.out.trans (if_neg h3))
 by_cases h4:mode=2
 ·have h4' :(mode==2)=true:=by simpa using h4
  have HF3:=hh_ (HF2.out.trans (if_pos h4))
  go_enter func26,ntmps26
  go_wp2_with fail
  go_ret
  exact⟨by rw[HF3.out];rfl,rfl⟩
 have h4' :(mode==2)=false:=by simpa using h4
 have HF3:=hh_ (HF2.out.trans (if_neg h4))
 go_enter func26,ntmps26
 go_wp2_with fail
 go_ret
 exact⟨by rw[HF3.out];rfl,rfl⟩
theorem Ql_ (c:Cfg) (r:Rep) (w:World) (hR:RepRd w r) (hW:RepW r):Calls prog 9 #[c.val,repV r.win r.tot r.vl r.over r.trk r.rest r.vr] w (RetInt (auditE c r) w):=by
 have HA:=hh_ (show auditE c r=if repErr r≠0 then repErr r else if audBad c r=true then 13 else if r.lines.any (lineBad (limV c.Mode c.Slots r.tot))=true then 13 else 0 from rfl);have HR:=hh_ hR;have HW:=hh_ hW;obtain⟨la,lc,e1⟩:=hR.lines.shape;obtain⟨ra,rc,e2⟩:=hR.rej.shape;have hlm:=hR.lines.2.1
 have CR:=hh_ fun w' (h:w.grownBy w' none)=>O5_ r w' (hR.same h) hW
 rw[e1,e2] at CR ⊢;have E1:=hh_ e1;clear hR e1 e2;generalize auditE c r=AE at *
 go_enter func9,ntmps9
 go_upto_region 1 with(refine At_ rfl _ rfl c rfl ?_;intro w1 B1 G1 z1)
 have D2:=Blk.new w1 (repA r.win r.tot (.slice la r.lines.length lc) r.over r.trk r.rest (.slice ra r.rej.length rc)) 26;have B2:=B1.same (ga_ w1 (.cells #[.int .i64 r.win,.int .u64 r.tot,.slice la r.lines.length lc,.int .u64 r.over,.int .i64 r.trk,.int .u64 r.rest,.slice ra r.rej.length rc] 26) none);have G2:=Ad_ G1 (.cells #[.int .i64 r.win,.int .u64 r.tot,.slice la r.lines.length lc,.int .u64 r.over,.int .i64 r.trk,.int .u64 r.rest,.slice ra r.rej.length rc] 26);generalize w1.alloc _=w2 at *;generalize w1.heap.size=rb at *;clear B1 G1
 by_cases hE:repErr r=0
 case neg=>
  have HF:=hh_ (HA.out.trans (if_pos hE));have C2:=hh_ (CR.out w2 G2);generalize repErr r=E at *
  have he2 :(E != 0)=true:=by simpa using hE
  have he3 :(E==0)=false:=by simpa using hE
  clear hE HA
  go_wp2_with (first
   |(refine A2_ rfl _ rfl _ rfl D2 ?_)
   |(go_at_call 15;refine C2.out.mono ?_;rintro e w3 ⟨rfl,g3⟩))
  go_ret
  exact Aj_ HF.out (Aa_ G2 g3)
 case pos=>
  have HF:=hh_ (HA.out.trans (if_neg (by omega)));have C2:=hh_ (CR.out w2 G2);have OK:=hh_ (Vm_ hE)
  have CL:=hh_ fun w'=>h4_ c.Mode c.Slots r.tot w' HW.out.tot
  have HLw:=hh_ (b5_ (mode:=c.Mode) (slots:=c.Slots) HW.out.tot);rw[hE] at C2;have HBd:=hh_ (show audBad c r =(decide (c.Top<r.lines.length)||(decide ((r.lines.length:Int)<c.Top)&&decide ((r.lines.length:Int)<r.trk))||(decide (r.trk=r.lines.length)&&decide (limV c.Mode c.Slots r.tot<r.rest))) from rfl);generalize limV c.Mode c.Slots r.tot=lim at *;clear hE HA;have b2:=B2.cell
  go_upto_region 2 with(first
   |(refine A2_ rfl _ rfl _ rfl D2 ?_)
   |(go_at_call 15;refine C2.out.mono ?_;rintro e w3 ⟨rfl,g3⟩))
  have D3:=D2.same g3;have B3:=B2.same g3;have G3:=Aa_ G2 g3;clear b2 D2 B2 G2 g3;have b3:=B3.cell;have d3:=D3.cell
  go_upto_region 5 with(go_at_call 26;refine(CL.out _).mono ?_;rintro e w4 ⟨rfl,hw4⟩;subst w4)
  generalize audBad c r=bb at *
  go_cut [23,24,25,26,27,28,29,30,31,32,33,34,35,36,37,38,39,40,41,42,43,44,45,46,47,48,49,50,51,52,53,54,55,56,57,58] (fun _ _ _ _ _ _ _ _ _ _ _ _ _ _ _ _ _ _ _ _ _ _ _ _ _ _ _ _ _ _ _ _ _ _ _ s58 wx=>s58=.bool bb∧w3=wx)
  case first=>
   have HBe:=hh_ (show decide (r.trk =(r.lines.length:Int)) =(r.trk==(r.lines.length:Int)) by rw[Bool.eq_iff_iff];simp);have HB2:=HBd.out;rw[HBe.out] at HB2;clear HBd HBe;generalize x1e:decide (c.Top<(r.lines.length:Int))=x1 at *;generalize x2e:decide ((r.lines.length:Int)<c.Top)=x2 at *;generalize x3e:decide ((r.lines.length:Int)<r.trk)=x3 at *;generalize x4e :(r.trk==(r.lines.length:Int))=x4 at *;generalize x5e:decide (lim<r.rest)=x5 at *;have HB3:=hh_ HB2;clear HB2;cases x1
   ·cases x2
    ·cases x4
     ·go_wp2_with fail
      go_meet
      exact⟨by rw[HB3.out];rfl,rfl⟩
     ·go_wp2_with fail
      go_meet
      exact⟨by rw[HB3.out];rfl,rfl⟩
    ·cases x3
     ·cases x4
      ·go_wp2_with fail
       go_meet
       exact⟨by rw[HB3.out];rfl,rfl⟩
      ·go_wp2_with fail
       go_meet
       exact⟨by rw[HB3.out];rfl,rfl⟩
     ·go_wp2_with fail
      go_meet
      exact⟨by rw[HB3.out];rfl,rfl⟩
   ·go_wp2_with fail
    go_meet
    exact⟨by rw[HB3.out];rfl,rfl⟩
  obtain⟨rfl,rfl⟩:=hcut
  cases bb with
  | true=>
   have HF2:=hh_ (HF.out.trans (if_pos rfl));clear HF
   go_wp2_with fail
   go_ret
   exact Aj_ HF2.out G3
  | false=>
   have HF2:=hh_ (HF.out.trans (if_neg (by simp)));clear HF HBd
   go_upto_region 8 with fail
   have G3':=hh_ G3;clear D3 B3 b3 d3 G3 C2 CL
   go_loopw [62] (fun s62 wk=>∃k:Nat,k≤r.lines.length∧s62=.int .i64 k∧(∀i (hi:i<r.lines.length),i<k→lineBad lim r.lines[i]=false)∧w3.grownBy wk none) (fun s62 _=>r.lines.length-(RowKit.intOf s62).toNat)
   case atStart=>exact⟨0,zl_ _,rfl,by intro i hi h;omega,Ab_ _ _⟩
   case round=>
    obtain⟨k,hk,rfl,hall,hg⟩:=hrel;have Hall:=hh_ hall;have HG:=hh_ (Aa_ G3'.out hg);clear hall
    by_cases hlt:k<r.lines.length
    ·obtain⟨g,off,cap,hv,hgl,hc⟩:=(HR.out.lines.same HG.out).at_ Ay_ hlt
     rw[E1.out] at hv;cases hv;have c0:=hc 0 _ rfl;have c1:=hc 1 _ rfl;have c2:=hc 2 _ rfl;rw[Nat.add_zero] at c0;obtain⟨-,hks,hlh,hht⟩:=OK.out.ln hlt;have hlw:=HW.out.lines _ (mg_ hlt);have HY:=hh_ (p:=lineBad lim r.lines[k]=true→AE=13) (fun h=>HF2.out.trans (if_pos (J2_ hlt h)))
     have HN:=hh_ (p:=lineBad lim r.lines[k]=false→∀i (hi:i<r.lines.length),i<k+1→lineBad lim r.lines[i]=false) (fun h i hi hik=>by
      rcases Nat.lt_or_ge i k with h1|h1
      ·exact Hall.out i hi h1
      ·obtain rfl:i=k:=by omega
       exact h)
     have CS:=hh_ fun w'=>Zl_ r.lines[k].key w' hlw.key
     have HBl:=hh_ (show lineBad lim r.lines[k] =(decide (splitE r.lines[k].key≠0)||decide (lim<r.lines[k].hi-r.lines[k].lo)) from rfl);clear hc;have hlo:=hlw.lo;have hhi:=hlw.hi;unfold W64 at hlo hhi;clear hlw;generalize lineBad lim r.lines[k]=bl at *;generalize r.lines[k]=x at *;have hwr:IntKind.u64.wrap (x.hi-x.lo)=x.hi-x.lo:=IntWalk.u64_in _ (by omega)
     by_cases hs:splitE x.key=0
     ·unfold I5_ at CS
      rw[hs] at CS
      by_cases hl:lim<x.hi-x.lo
      ·have HQ:=hh_ (HY.out (by rw[HBl.out,dt_ hl];simp))
       have hl2:decide (lim<x.hi-x.lo)=true:=dt_ hl;clear hs HY HN HBl
       go_wp2_with (go_at_call 27;refine(CS.out _).mono ?_;rintro e w5 ⟨v5,rfl,o5,g5⟩;obtain⟨a5,c5,rfl⟩:=o5.shape;have a6:=((Blk.new wr #[.string x.key,.int .u64 x.lo,.int .u64 x.hi] 46).same g5).cell)
       go_ret
       exact Aj_ HQ.out (Aa_ HG.out (Aa_ (ga_ _ _ _) g5))
      ·have HQ:=hh_ (HN.out (by rw[HBl.out,df_ hl,df_ (by simpa using hs)];rfl))
       have hl2:decide (lim<x.hi-x.lo)=false:=df_ hl;clear hs HY HN HBl
       go_wp2_with (go_at_call 27;refine(CS.out _).mono ?_;rintro e w5 ⟨v5,rfl,o5,g5⟩;obtain⟨a5,c5,rfl⟩:=o5.shape;have a6:=((Blk.new wr #[.string x.key,.int .u64 x.lo,.int .u64 x.hi] 46).same g5).cell)
       exact⟨⟨k+1,by omega,by go_num,HQ.out,Aa_ hg (Aa_ (ga_ _ _ _) g5)⟩,by simp[RowKit.intOf];omega⟩
     ·have HQ:=hh_ (HY.out (by rw[HBl.out,dt_ hs];rfl))
      unfold I5_ at CS;generalize splitE x.key=E at *
      have he2 :(E != 0)=true:=by simpa using hs
      have he3 :(E==0)=false:=by simpa using hs
      clear hs HY HN HBl
      go_wp2_with (go_at_call 27;refine(CS.out _).mono ?_;rintro e w5 ⟨v5,rfl,o5,g5⟩)
      go_ret
      exact Aj_ HQ.out (Aa_ HG.out (Aa_ (ga_ _ _ _) g5))
    ·have HQ:=hh_ (HF2.out.trans (if_neg (by rw[Gw_ fun i hi=>Hall.out i hi (by omega)];simp)))
     go_wp2_with fail
     go_ret
     exact Aj_ HQ.out HG.out
end
section
abbrev Ap_:=List UInt8
theorem C3_ (a:Ap_):¬a<a:=List.lt_irrefl a
theorem Fd_ {a b c:Ap_} (h:a<b) (h':b<c):a<c:=List.lt_trans h h'
theorem b_le {a b:Ap_}:a≤b↔¬b<a:=List.not_lt.symm
theorem g4_ {a b:Ap_} (h:a≤b) (h':b≤a):a=b:=List.le_antisymm h h'
theorem b_total (a b:Ap_):a≤b∨b≤a:=List.le_total a b
theorem b_lt {a b:Ap_} (h:a≤b) (hne:a≠b):a<b:=by
 rcases Decidable.em (a<b) with h1|h1
 ·exact h1
 ·exact absurd (g4_ h (b_le.2 h1)) hne
theorem Sj_ {a b c:Ap_} (h:a≤b) (h':b≤c):a≤c:=List.le_trans h h'
theorem d4_ {a b c:Ap_} (h:a≤b) (h':b<c):a<c:=by
 rcases Decidable.em (a=b) with e|e
 ·exact e▸h'
 ·exact Fd_ (b_lt h e) h'
theorem ea_ {a b:Ap_} (h:a<b):a≤b:=b_le.2 fun h'=>C3_ _ (Fd_ h h')
end
section
open Go.RowKit Go.Maps
abbrev KW:=Ap_×Int
def ctAt:List KW→Ap_→Int
 | [],_=>0
 | p::L,w=>if p.1=w then p.2 else ctAt L w
def ctHas:List KW→Ap_→Bool
 | [],_=>false
 | p::L,w=>decide (p.1=w)||ctHas L w
def ctPut:List KW→Ap_→Int→List KW
 | [],w,n=>[(w,satA 0 n)]
 | p::L,w,n=>if p.1<w then p::ctPut L w n else if p.1=w then (w,satA p.2 n)::L else (w,satA 0 n)::p::L
def AscB (L:List KW):Prop:=L.Pairwise (fun p q=>p.1<q.1)
theorem b_ne {a b:Ap_} (h:a<b):a≠b:=fun e=>C3_ a (by rw[e] at h ⊢;exact h)
theorem b_gt {a b:Ap_} (h:¬a<b) (hne:a≠b):b<a:=b_lt (b_le.2 h) fun e=>hne e.symm
theorem Rg_ {w:Ap_}:∀{L:List KW},(∀q∈L,w<q.1)→ctHas L w=false
 | [],_=>rfl
 | p::L,h=>by
  have:=b_ne (h p (by simp))
  simp only[ctHas,Rg_ fun q hq=>h q (List.mem_cons_of_mem p hq),Bool.or_false,decide_eq_false_iff_not]
  exact fun e=>this e.symm
theorem Oj_ {w:Ap_}:∀{L:List KW},ctHas L w=false→ctAt L w=0
 | [],_=>rfl
 | p::L,h=>by
  simp only[ctHas,Bool.or_eq_false_iff,decide_eq_false_iff_not] at h;simp only[ctAt];rw[if_neg h.1];exact Oj_ h.2
theorem Ij_ {w:Ap_}:∀{L:List KW},ctHas L w=true↔w∈L.map (·.1)
 | []=>by simp[ctHas]
 | p::L=>by simp only[ctHas,Bool.or_eq_true,decide_eq_true_eq,Ij_ (L:=L),List.map_cons,List.mem_cons];constructor <;> (rintro(h|h) <;> simp_all)
theorem dn_ {w:Ap_} {L:List KW} (h:∀q∈L,w<q.1):ctAt L w=0:=Oj_ (Rg_ h)
theorem Hy_ {p:KW} {L:List KW} (h:AscB (p::L)) :(∀q∈L,p.1<q.1)∧AscB L:=List.pairwise_cons.1 h
theorem cl_ {p:KW} {L:List KW} {w:Ap_} (h1:∀q∈L,p.1<q.1) (hp:w<p.1):∀q∈p::L,w<q.1:=fun q hq=>by
 rcases List.mem_cons.1 hq with rfl|hq
 ·exact hp
 ·exact Fd_ hp (h1 q hq)
theorem Q9_ {w v:Ap_} {n:Int}:∀{L:List KW},AscB L→ctAt (ctPut L w n) v=if v=w then satA (ctAt L w) n else ctAt L v
 | [],_=>by
  simp only[ctPut,ctAt]
  by_cases h:v=w
  ·rw[if_pos h,if_pos h.symm]
  ·rw[if_neg h,if_neg fun e=>h e.symm]
 | p::L,hA=>by
  obtain⟨h1,h2⟩:=Hy_ hA;simp only[ctPut]
  by_cases a:p.1<w
  ·rw[if_pos a]
   simp only[ctAt];rw[Q9_ h2]
   by_cases b:v=w
   ·rw[if_pos b,if_pos b,if_neg (fun e=>b_ne a (e.trans b)),if_neg (b_ne a)]
   ·rw[if_neg b,if_neg b]
  ·rw[if_neg a]
   by_cases c:p.1=w
   ·rw[if_pos c]
    simp only[ctAt]
    by_cases b:v=w
    ·rw[if_pos b,if_pos b.symm,if_pos c]
    ·rw[if_neg b,if_neg fun e=>b e.symm,if_neg fun e=>b (e.symm.trans c)]
   ·rw[if_neg c]
    have hz:ctAt (p::L) w=0:=dn_ (cl_ h1 (b_gt a c))
    by_cases b:v=w
    ·rw[if_pos b,hz];simp only[ctAt];rw[if_pos b.symm]
    ·rw[if_neg b]
     show(if w=v then satA 0 n else ctAt (p::L) v)=_
     rw[if_neg fun e=>b e.symm]
theorem Ms_ {w v:Ap_} {n:Int}:∀{L:List KW},ctHas (ctPut L w n) v =(decide (v=w)||ctHas L v)
 | []=>by
  have :(w=v) =(v=w):=propext ⟨Eq.symm,Eq.symm⟩;simp only[ctPut,ctHas,this]
 | p::L=>by
  have e :(w=v) =(v=w):=propext ⟨Eq.symm,Eq.symm⟩;simp only[ctPut]
  by_cases a:p.1<w
  ·rw[if_pos a];simp only[ctHas,Ms_ (L:=L)]
   cases decide (p.1=v) <;> cases decide (v=w) <;> rfl
  ·rw[if_neg a]
   by_cases c:p.1=w
   ·rw[if_pos c];simp only[ctHas,e,c]
    cases decide (v=w) <;> rfl
   ·rw[if_neg c];simp only[ctHas,e]
theorem mem_ctPut {w:Ap_} {n:Int} {q:KW}:∀{L:List KW},q∈ctPut L w n→q.1=w∨q∈L
 | [],h=>by simp[ctPut] at h;exact .inl (by rw[h])
 | p::L,h=>by
  simp only[ctPut] at h
  by_cases a:p.1<w
  ·rw[if_pos a] at h
   rcases List.mem_cons.1 h with rfl|h
   ·exact .inr (by simp)
   ·exact(mem_ctPut h).imp id fun h=>List.mem_cons_of_mem p h
  ·rw[if_neg a] at h
   by_cases c:p.1=w
   ·rw[if_pos c] at h
    rcases List.mem_cons.1 h with rfl|h
    ·exact .inl rfl
    ·exact .inr (List.mem_cons_of_mem p h)
   ·rw[if_neg c] at h
    rcases List.mem_cons.1 h with rfl|h
    ·exact .inl rfl
    ·exact .inr h
theorem Qf_ {w:Ap_} {n:Int}:∀{L:List KW},AscB L→AscB (ctPut L w n)
 | [],_=>by simp[ctPut,AscB]
 | p::L,hA=>by
  obtain⟨h1,h2⟩:=Hy_ hA;simp only[ctPut]
  by_cases a:p.1<w
  ·rw[if_pos a]
   refine List.pairwise_cons.2 ⟨fun q hq=>?_,Qf_ h2⟩
   rcases mem_ctPut hq with h|h
   ·rw[h];exact a
   ·exact h1 q h
  ·rw[if_neg a]
   by_cases c:p.1=w
   ·rw[if_pos c]
    exact List.pairwise_cons.2 ⟨fun q hq=>by rw[←c];exact h1 q hq,h2⟩
   ·rw[if_neg c]
    exact List.pairwise_cons.2 ⟨cl_ h1 (b_gt a c),hA⟩
theorem Nd_ {w:Ap_} {n:Int}:∀{L:List KW},(ctPut L w n).length≤L.length+1
 | []=>by simp[ctPut]
 | p::L=>by
  have:=Nd_ (w:=w) (n:=n) (L:=L)
  simp only[ctPut]
  split
  ·simp;omega
  ·split <;> simp
structure CntD {H:Type} (D:DataW H) (L:List KW):Prop where
 has:∀k:Ap_,Maps.has D (.string k)=ctHas L k
 at_:∀k:Ap_,D.atKey (.string k) (.lit (.int .u64 0))=.lit (.int .u64 (ctAt L k))
section
variable {H:Type} {D:DataW H} {L:List KW}
theorem CntD.nil:CntD (.map []:DataW H) []:=⟨fun _=>rfl,fun _=>rfl⟩
theorem Go_ {k v:Ap_} (h:k≠v) :(Lit.string k)≠.string v:=fun e=>by cases e;exact h rfl
theorem CntD.put (h:CntD D L) (hA:AscB L) (hD:IsMap D) {w:Ap_} {n:Int} (hk:WideAt.IsKeyLit (.string w)):CntD (D.put (.string w) (.lit (.int .u64 (satA (ctAt L w) n)))) (ctPut L w n):=by
 constructor
 ·intro k
  rw[Ms_]
  by_cases e:k=w
  ·subst e;rw[has_put_same hD hk];simp
  ·rw[has_put_other (Go_ e),h.has];simp[e]
 ·intro k
  rw[Q9_ hA]
  by_cases e:k=w
  ·subst e;rw[atKey_put_same hD hk,if_pos rfl]
  ·rw[atKey_put_other (Go_ e),h.at_,if_neg e]
theorem R2_ {L:List KW} (h:AscB L) :(L.map (·.1)).Nodup:=by
 unfold List.Nodup;rw[List.pairwise_map]
 exact h.imp fun h=>b_ne h
theorem Op_ {L:List KW} (h:AscB L) :(L.map (·.1)).Pairwise (fun x y:Ap_=>decide (x≤y)=true):=by
 rw[List.pairwise_map]
 exact h.imp fun h=>by simp[ea_ h]
end
end
section
open Go.RowKit Go.Sort
theorem al_ {α:Type} {f:α→List Value} {s:Nat} {e:TypeId} {B:Nat} {w:World} (hf:∀x,(f x).length=s) {y:α} (hcs:cs.toList=f y) (hB:B≤w.heap.size):Own f s e B (w.alloc (.cells cs e)) (.slice (some ⟨w.heap.size,0,none⟩) 1 1) [y]:=by
 have hl:cs.size=s:=by rw[←hf y,←hcs];exact Array.length_toList.symm
 refine⟨by simp[cellsOf,hf],.inr ⟨w.heap.size,1,cs,rfl,hB,heap_alloc_new w _,by simp,by unfold maxLen;omega,by simp[hl],?_⟩⟩;simp only[cellsOf,List.flatMap_cons,List.flatMap_nil,List.append_nil,ls_,Nat.one_mul];rw[←hcs,tk_ (by rw[Array.length_toList,hl];exact le_ _)]
section
variable {α:Type} {f:α→List Value} {st e:TypeId} {z:Value} {size bytes:Nat} {w:World} {B:Nat} {v:Value} {l:List α}
variable {o:Oper} {a:Act} {ops:Array Oper} {rest:List Oper} {Q:Exit→Act→World→Prop}
theorem bo_ (E:Elt st e z size bytes) (h1:OneF f) (hf:∀x,(f x).length=size) (hown:Own f size e B w v l) (y:α) (hb :(l.length+1)*bytes≤140737488355328) (h63:l.length+1≤9223372036854775807) (hbase:B≤w.heap.size) {te:TypeId} (hcs:cs.toList=f y) {g:Nat} (hg:w.heap.size=g)
  (hgd:o.guard=none) (s x:Operand) (ho:o.op=.call { callee:=.builtin .append,args:=#[s,x],argTypes:=#[st,st] }) (hs:a.eval s=v) (hx:a.eval x=.slice (some ⟨g,0,none⟩) 1 1)
  (h:∀v' w',Own f size e B w' v' (l++[y])→w.grownBy w' v.ownBlock→Lies v v' w.heap.size→wpList prog ops Q rest (a.put o.dst v') w'):wpList prog ops Q (o::rest) a (w.alloc (.cells cs te)):=by
 subst hg;exact A9_ E h1 hf hown y hb h63 hbase hcs h hgd ho hs hx
end
def dm_ (B b:Nat) (w:World) (e:Ending) (w':World):Prop:=∃r,e=.returned (.int .u64 r)∧W64 r∧Deck B w' b∧w.grownBy w' (some b)
theorem Vw_ {B b:Nat} {w w':World} {r:Int} (h:W64 r) (hd:Deck B w' b) (hg:w.grownBy w' (some b)):dm_ B b w (.returned (.int .u64 r)) w':=⟨r,rfl,h,hd,hg⟩
theorem dz_ {B:Nat} (b:Nat) (w:World) (hd:Deck B w b):Calls prog 149 #[.pointer (some ⟨b,0,none⟩)] w (dm_ B b w):=by
 go_enter func149,ntmps149
 go_wp2_with fail
 refine(Ba_ b _ w hd (by omega) (by omega)).mono ?_;rintro e w1 ⟨r1,rfl,ha1,hb1,hd1,hg1⟩;have hw:IntKind.u64.wrap (1+r1)=1+r1:=IntWalk.u64_in _ (by omega)
 go_wp2_with fail
 go_ret
 exact Vw_ ⟨by omega,by omega⟩ hd1 hg1
theorem Ti_ (x:Int):W64 (IntKind.u64.wrap x):=by
 have:=IntKind.wrap_u64 x
 unfold W64;rw[this];omega
theorem Ve_ {B:Nat} (b:Nat) (w:World) (hd:Deck B w b):Calls prog 150 #[.pointer (some ⟨b,0,none⟩)] w (dm_ B b w):=by
 go_enter func150,ntmps150
 go_wp2_with fail
 refine(Ba_ b _ w hd (by omega) (by omega)).mono ?_;rintro e w1 ⟨r1,rfl,ha1,hb1,hd1,hg1⟩
 have HN:=hh_ fun m h0 h1=>Ba_ b m w1 hd1 h0 h1
 by_cases h0:r1=0
 ·subst h0
  go_wp2_with fail
  refine(HN.out _ (by omega) (by omega)).mono ?_;rintro e w2 ⟨r2,rfl,ha2,hb2,hd2,hg2⟩;have hw:IntKind.u64.wrap (1+r2)=1+r2:=IntWalk.u64_in _ (by omega)
  go_wp2_with fail
  go_ret
  exact Vw_ ⟨by omega,by omega⟩ hd2 (Aa_ hg1 hg2)
 by_cases h1:r1=1
 ·subst h1
  go_wp2_with fail
  refine(HN.out _ (by omega) (by omega)).mono ?_;rintro e w2 ⟨r2,rfl,ha2,hb2,hd2,hg2⟩;have hw:IntKind.u64.wrap r2=r2:=IntWalk.u64_in _ (by omega);have hw2:IntKind.u64.wrap (9223372036854775808-r2)=9223372036854775808-r2:=IntWalk.u64_in _ (by omega)
  go_wp2_with fail
  go_ret
  exact Vw_ ⟨by omega,by omega⟩ hd2 (Aa_ hg1 hg2)
 have f0 :((r1:Int)==0)=false:=by simpa using h0
 have f1 :((r1:Int)==1)=false:=by simpa using h1
 by_cases h2:r1=2
 ·subst h2
  clear h0 h1 f0 f1
  go_wp2_with fail
  refine(HN.out _ (by omega) (by omega)).mono ?_;rintro e w2 ⟨r2,rfl,ha2,hb2,hd2,hg2⟩;have hw:IntKind.u64.wrap (1+r2)=1+r2:=IntWalk.u64_in _ (by omega)
  have HN2:=hh_ fun m h0 h1=>Ba_ b m w2 hd2 h0 h1
  go_wp2_with fail
  refine(HN2.out _ (by omega) (by omega)).mono ?_;rintro e w3 ⟨r3,rfl,ha3,hb3,hd3,hg3⟩;have hw3:IntKind.u64.wrap r3=r3:=IntWalk.u64_in _ (by omega)
  go_wp2_with fail
  go_ret
  exact Vw_ (Ti_ _) hd3 (Aa_ hg1 (Aa_ hg2 hg3))
 have f2 :((r1:Int)==2)=false:=by simpa using h2
 clear h0 h1 h2
 go_wp2_with fail
 refine(HN.out _ (by omega) (by omega)).mono ?_;rintro e w2 ⟨r2,rfl,ha2,hb2,hd2,hg2⟩;have hw:IntKind.u64.wrap (1+r2)=1+r2:=IntWalk.u64_in _ (by omega)
 go_wp2_with fail
 go_ret
 exact Vw_ ⟨by omega,by omega⟩ hd2 (Aa_ hg1 hg2)
structure TagsM (L:List TagR):Prop where
 few:1≤L.length∧L.length≤2
 ok:∀t∈L,tagE t=0
 size:∀t∈L,t.name.size≤6∧t.value.size≤10
 dif:Dif L
theorem nm_k (b:UInt8):tagE ⟨⟨#[107]⟩,⟨#[b]⟩⟩=0:=by
 simp[tagE,nmB,letB,ByteArray.size]
theorem h9_:tagE ⟨⟨#[97,46,98]⟩,⟨#[]⟩⟩=0:=by
 simp[tagE,nmB,letB,ByteArray.size]
def hostN (b:UInt8):ByteArray:=⟨#[104,111,115,116,45]⟩++⟨#[b]⟩
theorem En_ (b:UInt8) :(hostN b).data.toList=[104,111,115,116,45,b]:=by
 unfold hostN;rw[b8_];rfl
theorem fu_ {b:UInt8} (h:48≤b.toNat∧b.toNat≤50) (v:ByteArray) (hv:v.size=10):tagE ⟨hostN b,v⟩=0:=by
 have hs :(hostN b).size=6:=by
  have :(hostN b).data.toList.length=6:=by rw[En_];rfl
  exact this
 unfold tagE
 have hl:letB b=true:=by simp[letB];omega
 rw[if_neg (by unfold nmB;rw[En_];simp[hl];simp[letB]),if_neg (by simp only[hs];omega),if_neg (by simp only[hs,hv];omega)]
theorem hu_ (b:UInt8):TagsM [⟨⟨#[107]⟩,⟨#[b]⟩⟩]:=⟨by simp,by intro t ht;rw[ms_ ht];exact nm_k b,by intro t ht;rw[ms_ ht];simp[ByteArray.size],by simp[Dif]⟩
theorem gt_ (b:UInt8):TagsM ([⟨⟨#[107]⟩,⟨#[b]⟩⟩]++[⟨⟨#[97,46,98]⟩,⟨#[]⟩⟩]):=
 ⟨by simp,by intro t ht;simp at ht;rcases ht with rfl|rfl;exact nm_k b;exact h9_,by intro t ht;simp at ht;rcases ht with rfl|rfl <;> simp[ByteArray.size],by simp[Dif,nmB]⟩
theorem gd_ (b c:UInt8) (h:48≤c.toNat∧c.toNat≤50):TagsM ([⟨⟨#[107]⟩,⟨#[b]⟩⟩]++[⟨hostN c,⟨#[48,49,50,51,52,53,54,55,56,57]⟩⟩]):=by
 have hs :(hostN c).size=6:=by
  have :(hostN c).data.toList.length=6:=by rw[En_];rfl
  exact this
 refine⟨by simp,?_,?_,?_⟩
 ·intro t ht;simp at ht;rcases ht with rfl|rfl
  ·exact nm_k b
  ·exact fu_ h _ rfl
 ·intro t ht;simp at ht;rcases ht with rfl|rfl
  ·simp[ByteArray.size]
  ·exact⟨by show(hostN c).size≤6;omega,by show(10:Nat)≤10;omega⟩
 ·simp[Dif,nmB,En_]
def TagsD (B b:Nat) (w:World) (e:Ending) (w':World):Prop:=∃v L,e=.returned v∧Own tagF 2 53 w.heap.size w' v L∧TagsM L∧Deck B w' b∧w.grownBy w' (some b)
theorem Ts_ {B:Nat} (b:Nat) (w:World) (hd:Deck B w b) (hB:B≤w.heap.size):Calls prog 78 #[.pointer (some ⟨b,0,none⟩)] w (TagsD B b w):=by
 have hbB:=hd.below
 go_enter func78,ntmps78
 go_upto_region 2 with(go_at_call 37;refine(Ba_ b _ w hd (by omega) (by omega)).mono ?_;rintro e w1 ⟨r1,rfl,ha1,hb1,hd1,hg1⟩)
 obtain⟨k,rfl⟩:=Int.eq_ofNat_of_zero_le ha1;obtain⟨b1,hb1e⟩:∃b1:UInt8,UInt8.ofNat (97+k)=b1:=⟨_,rfl⟩
 have hw1:IntKind.u8.wrap (97+(k:Int)) =(b1.toNat:Int):=by
  have:=J9_ (n:=97+k)
  rw[hb1e] at this;rw[←this];congr 1
 have hc1:=fun w' g h=>Qw_ w' g b1 h
 clear hb1e
 go_upto_region 3 with fail
 have hz1:w.heap.size≤(w1.alloc (.cells #[.int .u8 b1.toNat] 5)).heap.size:=by have:=hg1.size;simp;omega
 have O2:=al_ (f:=tagF) (s:=2) (e:=53) (w:=w1.alloc (.cells #[.int .u8 b1.toNat] 5)) Au_ (cs:=#[.string ⟨#[107]⟩,.string ⟨#[b1]⟩]) (y:=⟨⟨#[107]⟩,⟨#[b1]⟩⟩) rfl hz1;have G2:w1.grownBy ((w1.alloc (.cells #[.int .u8 b1.toNat] 5)).alloc (.cells #[.string ⟨#[107]⟩,.string ⟨#[b1]⟩] 53)) none:=Ad_ (ga_ _ _ _) _
 have hsz :(w1.alloc (.cells #[.int .u8 b1.toNat] 5)).heap.size=w1.heap.size+1:=by simp
 have hgB:B≤(w1.alloc (.cells #[.int .u8 b1.toNat] 5)).heap.size:=by omega
 rw[hsz] at O2 hgB;clear hz1 hsz;generalize (w1.alloc _).alloc _=w2 at *;generalize w1.heap.size+1=g2 at *;have D2:=hd1.kept G2 (by simp);have K2:=hh_ (Aa_ hg1 (Ak_ G2 (some b)));have HO2:=hh_ O2;clear hc1 hw1 O2 G2 hd1 hg1
 go_upto_region 4 with(go_at_call 37;refine(Ba_ b _ w2 D2 (by omega) (by omega)).mono ?_;rintro e w3 ⟨r2,rfl,ha2,hb2,hd3,hg3⟩)
 have K3:=hh_ (Aa_ K2.out hg3);have HO3:=hh_ (HO2.out.kept hg3 (fun k hk e=>by cases e;have:=(HO2.out.lt _ hk).1;omega));have hz3:=K3.out.size
 have hbs :(([⟨⟨#[107]⟩,⟨#[b1]⟩⟩]:List TagR).length+1)*32≤140737488355328:=by simp
 have hbt :([⟨⟨#[107]⟩,⟨#[b1]⟩⟩]:List TagR).length+1≤9223372036854775807:=by simp
 have fin:∀v' w' L,Own tagF 2 53 w.heap.size w' v' L→TagsM L→∀x,World.grownBy w3 x (some b)→Deck B x b→(x.grownBy w' (Value.ownBlock (.slice (some ⟨g2,0,none⟩) 1 1)))→TagsD B b w (.returned v') w':=by
  intro v' w' L ho hm x hx hdx hg
  refine⟨v',L,rfl,ho,hm,hdx.kept hg (by
   intro k e
   have:g2=k:=by simpa [Value.ownBlock] using e
   omega),?_⟩
  have h1:=Aa_ K3.out hx;exact Af_ h1 hg (HO2.out.lt g2 rfl).1
 have Hfin:=hh_ fin;clear HO2 K2 D2 fin
 by_cases h0:r2=0
 ·subst h0
  go_wp2_with (at_builtin;refine A9_ Co_ Dc_ Au_ HO3.out ⟨⟨#[97,46,98]⟩,⟨#[]⟩⟩ hbs hbt hz3 (by rfl) ?_;intro v5 w5 o5 g5 l5)
  go_ret
  exact Hfin.out _ _ _ o5 (gt_ b1) _ (Ab_ _ _) hd3 g5
 by_cases h1:r2=1
 ·subst h1
  clear h0
  have HN:=hh_ fun m h0 h1=>Ba_ b m w3 hd3 h0 h1
  go_wp2_with fail
  refine(HN.out _ (by omega) (by omega)).mono ?_;rintro e w4 ⟨r3,rfl,ha3,hb3,hd4,hg4⟩;obtain⟨q,rfl⟩:=Int.eq_ofNat_of_zero_le ha3;obtain⟨c1,hc1e⟩:∃c1:UInt8,UInt8.ofNat (48+q)=c1:=⟨_,rfl⟩
  have hcr:48≤c1.toNat∧c1.toNat≤50:=by rw[←hc1e,UInt8.toNat_ofNat'];omega
  have hw1:IntKind.u8.wrap (48+(q:Int)) =(c1.toNat:Int):=by
   have:=J9_ (n:=48+q)
   rw[hc1e] at this;rw[←this];congr 1
  have hc1:=fun w' g h=>Qw_ w' g c1 h
  have HM:=hh_ (gd_ b1 c1 hcr);clear hc1e hcr
  have HO4:=hh_ (HO3.out.kept hg4 (by
   intro k hk e;cases e
   have:g2=b:=by simpa [Value.ownBlock] using hk
   omega))
  have hz4:=lt_ hz3 hg4.size;have O4:=HO4.out.same (ga_ w4 (.cells #[.int .u8 c1.toNat] 5) none)
  have hz5:w.heap.size≤(w4.alloc (.cells #[.int .u8 c1.toNat] 5)).heap.size:=by simp;omega
  have G4:=Aa_ hg4 (ga_ w4 (.cells #[.int .u8 c1.toNat] 5) (some b));have D4:=hd4.kept (ga_ w4 (.cells #[.int .u8 c1.toNat] 5) none) (by simp);have Hcs:=hh_ (show(#[Value.string (⟨#[104,111,115,116,45]⟩++⟨#[c1]⟩),Value.string ⟨#[48,49,50,51,52,53,54,55,56,57]⟩]:Array Value).toList=tagF ⟨hostN c1,⟨#[48,49,50,51,52,53,54,55,56,57]⟩⟩ from rfl)
  have hg6 :(w4.alloc (.cells #[.int .u8 c1.toNat] 5)).heap.size=w4.heap.size+1:=by simp
  have Hg6:=hh_ hg6;clear hg6
  go_wp2_with (at_builtin;refine bo_ Co_ Dc_ Au_ O4 ⟨hostN c1,⟨#[48,49,50,51,52,53,54,55,56,57]⟩⟩ hbs hbt hz5 Hcs.out Hg6.out rfl _ _ (by rfl) (by rfl) (by rfl) ?_;intro v5 w5 o5 g5 l5)
  go_ret
  exact Hfin.out _ _ _ o5 HM.out _ G4 D4 g5
 have f0 :((r2:Int)==0)=false:=by simpa using h0
 have f1 :((r2:Int)==1)=false:=by simpa using h1
 clear h0 h1
 go_wp2_with fail
 go_ret
 exact⟨_,_,rfl,HO3.out,hu_ b1,hd3,K3.out⟩
end
section
open Go.RowKit Go.Sort
theorem Dj_ (v:Value) (l:List UInt8) (n:Nat) (w:World) (h:RdL byF 1 w v l) (hn:n<18446744073709551616) (hl:l.length≤1000000000000):Calls prog 113 #[v,.int .u64 n] w (RetOwn byF 1 5 (l++vb n) w):=by
 obtain⟨a,c,rfl⟩:=h.shape;have H:=hh_ h
 have hn64 :(n:Int)≤18446744073709551615:=by omega
 have hb1:l.length*1≤140737488355328:=by omega
 have hb2:l.length≤9223372036854775807:=by omega
 have hten:=Dq_ hn;clear h hn
 go_enter func113,ntmps113
 go_upto_region 1 with fail
 have N:=A0_ (e:=5) byF 1 (le_ w.heap.size);have R:=H.out.same (ga_ w (.cells #[] 5) none)
 go_wp2_with (at_builtin;refine A5_ D6_ D9_ N R rfl hb1 hb2 (by simp) ?_;intro v4 w4 o4 g4 l4)
 have G4:w.grownBy w4 none:=Aa_ (ga_ w _ none) g4;clear N R g4 l4
 go_loopw [1,5] (fun s1 s5 wk=>∃(m:Nat) (L:List UInt8),s1=.int .u64 m∧(m:Int)≤18446744073709551615∧Own byF 1 5 w.heap.size wk s5 L∧L++vb m=l++vb n∧w.grownBy wk none) (fun s1 _ _=>(RowKit.intOf s1).toNat)
 case atStart=>exact⟨n,l,rfl,hn64,o4,rfl,G4⟩
 case round=>
  obtain⟨m,L,rfl,hm,hO,hLv,hg⟩:=hrel
  have hLl:L.length≤l.length+10:=by
   have h1:=congrArg List.length hLv;rw[la_,la_] at h1
   omega
  have HL:=hh_ hLv
  have hb3 :(L.length+1)*1≤140737488355328:=by omega
  have hb4:L.length+1≤9223372036854775807:=by omega
  have hsz:=hg.size;clear hLv
  by_cases hbig:m<128
  ·have Hv:=hh_ (F3_ hbig)
   have hm1 :(m:Int)<128:=by omega
   have hw:IntKind.u8.wrap (m:Int) =((UInt8.ofNat m).toNat:Int):=by rw[P4_,g6_ (by omega)];omega
   have Hcs:=hh_ (show(#[Value.int .u8 ((UInt8.ofNat m).toNat:Int)]:Array Value).toList=byF (UInt8.ofNat m) from rfl)
   go_wp2_with (at_builtin;refine A9_ D6_ D9_ Bv_ hO (UInt8.ofNat m) hb3 hb4 hsz Hcs.out ?_;intro v5 w5 o5 g5 l5)
   go_ret
   exact⟨_,rfl,by rw[←HL.out,Hv.out];exact o5,Aq_ hg hO (le_ _) g5⟩
  ·have Hv:=hh_ (c7_ hbig)
   have hm1 :(128:Int)≤(m:Int):=by omega
   have hm2:¬((m:Int)<128):=by omega
   obtain⟨b0,hb0⟩:∃b0,UInt8.ofNat (m%128+128)=b0:=⟨_,rfl⟩
   have hw2 :(b0.toNat:Int) =(m:Int)%128+128:=by rw[←hb0,g6_ (by omega)];omega
   have Hcs:=hh_ (show(#[Value.int .u8 ((m:Int)%128+128)]:Array Value).toList=byF b0 by rw[←hw2];rfl);rw[hb0] at Hv;clear hb0 hw2
   go_wp2_with (at_builtin;refine A9_ D6_ D9_ Bv_ hO b0 hb3 hb4 hsz Hcs.out ?_;intro v5 w5 o5 g5 l5)
   exact⟨⟨m/128,L++[b0],rfl,by omega,o5,by rw[List.append_assoc,List.singleton_append,←Hv.out,HL.out],Aq_ hg hO (le_ _) g5⟩,by simp[RowKit.intOf];omega⟩
structure EvR where
 (vt:Value) (time weight:Int) (tags:List TagR)
def evF (x:EvR):List Value:=[x.vt,.int .i64 x.time,.int .u64 x.weight]
theorem Wb_ (x:EvR) :(evF x).length=3:=rfl
structure EvOk (x:EvR):Prop where
 time:0≤x.time∧x.time≤1099511627776
 weight:W64 x.weight
 few:x.tags.length≤3
 size:∀t∈x.tags,t.name.size≤70∧t.value.size≤70
def tgB (t:TagR):List UInt8:=vb t.name.size++nmB t++vb t.value.size++vlB t
def tgsB (l:List TagR):List UInt8:=l.flatMap tgB
theorem U0_ (l:List TagR) (t:TagR):tgsB (l++[t])=tgsB l++tgB t:=by simp[tgsB]
def evB (x:EvR):List UInt8:=vb x.time.toNat++vb x.weight.toNat++vb x.tags.length++tgsB x.tags
def evsB (l:List EvR):List UInt8:=l.flatMap evB
theorem Wd_ (l:List EvR) (x:EvR):evsB (l++[x])=evsB l++evB x:=by simp[evsB]
def bodyB (l:List EvR):List UInt8:=vb l.length++evsB l
def frB (l:List EvR):List UInt8:=vb (bodyB l).length++bodyB l
theorem fo_ {t:TagR} (h:t.name.size≤70∧t.value.size≤70) :(tgB t).length≤142:=by
 have e1 :(vb t.name.size).length=1:=by rw[F3_ (by omega)];rfl
 have e2 :(vb t.value.size).length=1:=by rw[F3_ (by omega)];rfl
 unfold tgB;simp only[la_,J8_,Vf_];omega
theorem Rl_ {l:List TagR} (h:∀t∈l,t.name.size≤70∧t.value.size≤70) :(tgsB l).length≤142*l.length:=by
 induction l with
 | nil=>simp[tgsB]
 | cons a l ih=>
  have h1:=ih fun o ho=>h o (List.mem_cons_of_mem _ ho)
  have h2:=fo_ (h a (by simp));simp only[tgsB,List.flatMap_cons,la_,lc_] at *
  omega
theorem X8_ {x:EvR} (h:EvOk x) :(evB x).length≤456:=by
 have h1:=h.time;have h2:=h.weight;have h3:=h.few;have h4:=Rl_ h.size;unfold W64 at h2;have e1:=Dq_ (show x.time.toNat<18446744073709551616 by omega);have e2:=Dq_ (show x.weight.toNat<18446744073709551616 by omega);have e3:=Dq_ (show x.tags.length<18446744073709551616 by omega);unfold evB;simp only[la_];omega
theorem Qi_ {l:List EvR} (h:∀x∈l,EvOk x) :(evsB l).length≤456*l.length:=by
 induction l with
 | nil=>simp[evsB]
 | cons a l ih=>
  have h1:=ih fun o ho=>h o (List.mem_cons_of_mem _ ho)
  have h2:=X8_ (h a (by simp));simp only[evsB,List.flatMap_cons,la_,lc_] at *
  omega
theorem Ja_ {l:List EvR} (h:∀x∈l,EvOk x) (hl:l.length≤4) :(bodyB l).length≤1834:=by
 have h1:=Qi_ h;have e3:=Dq_ (show l.length<18446744073709551616 by omega);unfold bodyB;rw[la_];omega
theorem fg_ {l:List EvR} (h:∀x∈l,EvOk x) (hl:l.length≤4) :(frB l).length≤1844:=by
 have h1:=Ja_ h hl;have e3:=Dq_ (show(bodyB l).length<18446744073709551616 by omega);unfold frB;rw[la_];omega
def Xj_ (l:List UInt8) (w:World) (e:Ending) (w':World):Prop:=∃v,e=.returned (.tuple #[v,.int .i64 0])∧Own byF 1 5 w.heap.size w' v l∧w.grownBy w' none
theorem c6_ (v:Value) (l:List UInt8) (n:Int) (w:World) (h:RdL byF 1 w v l) (h0:0≤n) (hn:n<18446744073709551616) (hl:l.length≤1000000000000):Calls prog 113 #[v,.int .u64 n] w (RetOwn byF 1 5 (l++vb n.toNat) w):=by
 obtain⟨m,rfl⟩:=Int.eq_ofNat_of_zero_le h0;exact Dj_ v l m w h (by omega) hl
theorem Z0_ (x:EvR) (w:World) (hR:RdL tagF 2 w x.vt x.tags) (hE:EvOk x):Calls prog 148 #[.agg #[x.vt,.int .i64 x.time,.int .u64 x.weight]] w (Xj_ (evB x) w):=by
 obtain⟨va,vc,e1⟩:=hR.shape;obtain⟨vt,t,wt,tg⟩:=x;dsimp only at *;subst e1;obtain⟨⟨t0,t1⟩,hw,hfew,hsz⟩:=hE;dsimp only at *;unfold W64 at hw;obtain⟨w0,w1'⟩:=hw;have HSZ:=hh_ hsz;have HR:=hh_ hR;have HB:=hh_ (show evB ⟨.slice va tg.length vc,t,wt,tg⟩=vb t.toNat++vb wt.toNat++vb tg.length++tgsB tg from rfl);have B1:=Blk.new w #[.slice va tg.length vc,.int .i64 t,.int .u64 wt] 164;have G1:=Ad_ (Ab_ w none) (.cells #[.slice va tg.length vc,.int .i64 t,.int .u64 wt] 164)
 have hfew2 :(tg.length:Int)≤3:=by omega
 have hwt:IntKind.u64.wrap t=t:=IntWalk.u64_in _ (by omega);have hwl:IntKind.u64.wrap (tg.length:Int) =(tg.length:Int):=IntWalk.u64_in _ (by omega);clear hR hsz
 go_enter func148,ntmps148
 go_upto_region 1 with fail
 generalize w.alloc _=w1 at *;generalize w.heap.size=b at *;have HB1:=hh_ B1;have HG1:=hh_ G1;have HR1:=hh_ (HR.out.same G1);have b1:=B1.cell;have e1:=Dq_ (show t.toNat<18446744073709551616 by omega);have e2:=Dq_ (show wt.toNat<18446744073709551616 by omega);have e3:=Dq_ (show tg.length<18446744073709551616 by omega);have C1:=hh_ (c6_ (.slice none 0 0) [] t w1 (Own.nil byF 1 5 0 w1).rd t0 (by omega) (by simp));clear B1 G1 HR
 go_upto_region 6 with(go_at_call 113;refine C1.out.mono ?_;rintro e w2 ⟨v2,rfl,o2,g2⟩)
 rw[List.nil_append] at o2;have b2:=(HB1.out.same g2).cell;have C2:=hh_ (c6_ _ (vb t.toNat) wt w2 o2.rd w0 (by omega) (by omega));have HG2:=hh_ (Aa_ HG1.out g2);have HB2':=hh_ (HB1.out.same g2);have HR2:=hh_ (HR1.out.same g2);clear b1 C1 o2 g2 HB1 HR1
 go_upto_region 7 with(go_at_call 113;refine C2.out.mono ?_;rintro e w3 ⟨v3,rfl,o3,g3⟩)
 have b3:=(HB2'.out.same g3).cell;have C3:=hh_ (Dj_ _ (vb t.toNat++vb wt.toNat) tg.length w3 o3.rd (by omega) (by rw[la_];omega));have HG3:=hh_ (Aa_ HG2.out g3);have HB3':=hh_ (HB2'.out.same g3);have HR3:=hh_ (HR2.out.same g3);clear b2 C2 o3 g3 HB2' HR2
 go_upto_region 8 with(go_at_call 113;refine C3.out.mono ?_;rintro e w4 ⟨v4,rfl,o4,g4⟩)
 have b4:=(HB3'.out.same g4).cell;have HG4:=hh_ (Aa_ HG3.out g4);have HR4:=hh_ (HR3.out.same g4);obtain⟨M,hM⟩:∃M,vb t.toNat++vb wt.toNat++vb tg.length=M:=⟨_,rfl⟩
 have hMl:M.length≤30:=by rw[←hM];simp only[la_];omega
 rw[hM] at HB o4;have HO4:=hh_ (o4.base (B':=w.heap.size) fun q hq=>lt_ HG3.out.size (o4.lt q hq).1);clear b3 C3 o4 g4 HB3' HR3 hM e1 e2 e3
 go_wp2_with fail
 clear b4
 go_loopw [36,4] (fun s36 s4 wk=>∃i:Nat,i≤tg.length∧s36=.int .i64 i∧Own byF 1 5 w.heap.size wk s4 (M++tgsB (tg.take i))∧w4.grownBy wk none) (fun s36 _ _=>tg.length-(RowKit.intOf s36).toNat)
 case atStart=>exact⟨0,zl_ _,rfl,by simpa [tgsB] using HO4.out,Ab_ _ _⟩
 case round=>
  clear HO4;obtain⟨i,hi,rfl,hO,hg⟩:=hrel
  by_cases hlt:i<tg.length
  ·obtain⟨gx,ox,cx,hv,hgx,hcx⟩:=(RdL.same HR4.out hg).at_ Au_ hlt
   cases hv;have c0:=hcx 0 _ rfl;have c1:=hcx 1 _ rfl;rw[Nat.add_zero] at c0;obtain⟨hn70,hv70⟩:=HSZ.out _ (mg_ hlt);have HS:=hh_ (show M++tgsB (tg.take (i+1))=M++tgsB (tg.take i)++tgB tg[i] by rw[tg_ hlt,U0_,List.append_assoc])
   have hll :(M++tgsB (tg.take i)).length≤1000:=by
    have:=Rl_ (l:=tg.take i) fun t ht=>HSZ.out t (List.mem_of_mem_take ht)
    rw[lk_] at this;rw[la_];omega
   have HTG:=hh_ (show tgB tg[i]=vb tg[i].name.size++nmB tg[i]++vb tg[i].value.size++vlB tg[i] from rfl);clear hcx;generalize M++tgsB (tg.take i)=L at *;generalize tg[i]=x at *;obtain⟨oa,oc,rfl⟩:=hO.shape
   have j1 :(x.name.size:Int)≤70:=by omega
   have j2 :(x.value.size:Int)≤70:=by omega
   go_upto_region 13 with fail
   have A10:=Blk.new wr #[.string x.name,.string x.value] 53;have G10:=ga_ wr (.cells #[.string x.name,.string x.value] 53) none;have O10:=hh_ (hO.same G10);have K10:=hh_ (Aa_ (Aa_ HG4.out hg) G10);have Kw4:=hh_ (Aa_ hg G10);generalize wr.alloc _=w10 at *;generalize wr.heap.size=gl at *;have HB2:=hh_ A10;have hgl10:=A10.lt;clear A10 G10 hO hg c0 c1;have hwk:IntKind.u64.wrap (x.name.size:Int) =(x.name.size:Int):=IntWalk.u64_in _ (by omega);have hwv:IntKind.u64.wrap (x.value.size:Int) =(x.value.size:Int):=IntWalk.u64_in _ (by omega);have f1:=Dq_ (show x.name.size<18446744073709551616 by omega);have f2:=Dq_ (show x.value.size<18446744073709551616 by omega);have f3:=J8_ x;obtain⟨L1,hL1⟩:∃L1,L++vb x.name.size=L1:=⟨_,rfl⟩
   have hL1l:L1.length≤1010:=by rw[←hL1,la_];omega
   have Ca:=hh_ fun w' (h:World.grownBy w10 w' none)=>hL1▸Dj_ _ L x.name.size w' (O10.out.same h).rd (by omega) (by omega)
   obtain⟨L2,hL2⟩:∃L2,L1++nmB x=L2:=⟨_,rfl⟩
   have hL2l:L2.length≤1080:=by rw[←hL2,la_];omega
   have HL2:=hh_ (show L1++x.name.data.toList=L2 from hL2);obtain⟨L3,hL3⟩:∃L3,L2++vb x.value.size=L3:=⟨_,rfl⟩
   have hL3l:L3.length≤1090:=by rw[←hL3,la_];omega
   have HL4:=hh_ (show L3++x.value.data.toList=L++tgB x by rw[HTG.out,←hL3,←hL2,←hL1];simp only[List.append_assoc];rfl)
   have hb9:L1.length+x.name.size≤140737488355328:=by omega
   have K6:World.grownBy w10 (World.drew w10) none:=gw_;have hsz10 :(w10).heap.size≤(w10).heap.size:=le_ _
   (refine rn_ 8 (fun k _ w0 v w'=>match k with | 5=>Own byF 1 5 (w10).heap.size w' v L1∧World.grownBy w0 w' none | _=>False) ?_;simp only[ts_])
   generalize World.drew w10=wd at *
   (refine tq_ 2 ?_;(repeat(go_big_quiet_step (fail)));refine wn_ ?_)
   (refine to_ ?_;intro x2 mx2 dx2)
   clear dx2;have ax:=(HB2.out.same (Aa_ K6 mx2)).cell
   go_wp2_with fail
   refine⟨Ab_ _ _,?_⟩;clear ax
   (refine tq_ 2 ?_;(repeat(go_big_quiet_step (fail)));refine wn_ ?_)
   (refine tc_ ?_;intro x5 mx5 dx5;refine⟨?_,?_⟩;· (unfold Rg.callSpec;go_simp;(refine(Ca.out x5 (Aa_ K6 mx5)).mono ?_;rintro e w' ⟨v2,rfl,o2,g2⟩;exact⟨v2,rfl,o2.base (fun q hq=>lt_ (lt_ hsz10 (Aa_ K6 mx5).size) (o2.lt q hq).1),g2⟩)))
   clear dx5;rintro v5 y5 ⟨o5,g5⟩;refine⟨g5,?_⟩;obtain⟨a5,c5,rfl⟩:=o5.shape;have Ho5:=hh_ o5;clear g5 o5;simp only[pt_]
   (refine tq_ 1 ?_;(repeat(go_big_quiet_step (fail)));refine wn_ ?_)
   (refine to_ ?_;intro x7 mx7 dx7)
   clear dx7;have ax:=(HB2.out.same (Aa_ K6 mx7)).cell
   go_wp2_with fail
   refine⟨Ab_ _ _,?_⟩;clear ax
   (refine Rg.tree_nil ?_;intro z1 mz1 dz1 cz1)
   have O5':=Ho5.out.same (dz1.out 5 (by omega));have Kz:=hh_ (Aa_ K6 mz1);have hAl:=hh_ (fun q hq=>(O5'.lt q hq).1:∀q,(Value.slice a5 (L1).length c5).ownBlock=some q→(w10).heap.size≤q);clear dz1 cz1 mz1 mx2 mx5 mx7 K6 Ho5 hsz10 Ca;have hszz:=Kz.out.size
   go_upto_region 14 with(at_builtin;refine Lw_ O5' x.name hb9 hszz (by rfl) _ _ (by rfl) (by rfl) (by rfl) ?_;intro v8 w8 o8 g8;rw[HL2.out] at o8;obtain⟨a8,c8,rfl⟩:=o8.shape)
   have K8:=hh_ (Aq_ Kz.out O5' (le_ _) g8);have HB3:=hh_ ((HB2.out.same Kz.out).kept g8 (fun e=>by have:=hAl.out _ e;omega));have O8:=hh_ o8
   have Cb:=hh_ fun w' (h:World.grownBy w8 w' none)=>hL3▸Dj_ _ L2 x.value.size w' (O8.out.same h).rd (by omega) (by omega)
   have hgl8:=HB3.out.lt;clear o8 g8 O5' hAl Kz hszz HB2 hL3;have HB2:=HB3
   have hb9:L3.length+x.value.size≤140737488355328:=by omega
   have K6:World.grownBy w8 (World.drew w8) none:=gw_;have hsz10 :(w8).heap.size≤(w8).heap.size:=le_ _
   (refine rn_ 8 (fun k _ w0 v w'=>match k with | 5=>Own byF 1 5 (w8).heap.size w' v L3∧World.grownBy w0 w' none | _=>False) ?_;simp only[ts_])
   generalize World.drew w8=wd at *
   (refine tq_ 2 ?_;(repeat(go_big_quiet_step (fail)));refine wn_ ?_)
   (refine to_ ?_;intro x2 mx2 dx2)
   clear dx2;have ax:=(HB2.out.same (Aa_ K6 mx2)).cell
   go_wp2_with fail
   refine⟨Ab_ _ _,?_⟩;clear ax
   (refine tq_ 2 ?_;(repeat(go_big_quiet_step (fail)));refine wn_ ?_)
   (refine tc_ ?_;intro x5 mx5 dx5;refine⟨?_,?_⟩;· (unfold Rg.callSpec;go_simp;(refine(Cb.out x5 (Aa_ K6 mx5)).mono ?_;rintro e w' ⟨v2,rfl,o2,g2⟩;exact⟨v2,rfl,o2.base (fun q hq=>lt_ (lt_ hsz10 (Aa_ K6 mx5).size) (o2.lt q hq).1),g2⟩)))
   clear dx5;rintro v5 y5 ⟨o5,g5⟩;refine⟨g5,?_⟩;obtain⟨a5,c5,rfl⟩:=o5.shape;have Ho5:=hh_ o5;clear g5 o5;simp only[pt_]
   (refine tq_ 1 ?_;(repeat(go_big_quiet_step (fail)));refine wn_ ?_)
   (refine to_ ?_;intro x7 mx7 dx7)
   clear dx7;have ax:=(HB2.out.same (Aa_ K6 mx7)).cell
   go_wp2_with fail
   refine⟨Ab_ _ _,?_⟩;clear ax
   (refine Rg.tree_nil ?_;intro z1 mz1 dz1 cz1)
   have O5':=Ho5.out.same (dz1.out 5 (by omega));have Kz:=hh_ (Aa_ K6 mz1);have hAl:=hh_ (fun q hq=>(O5'.lt q hq).1:∀q,(Value.slice a5 (L3).length c5).ownBlock=some q→(w8).heap.size≤q);clear dz1 cz1 mz1 mx2 mx5 mx7 K6 Ho5 hsz10 Cb;have hszz:=Kz.out.size
   go_wp2_with (at_builtin;refine Lw_ O5' x.value hb9 hszz (by rfl) _ _ (by rfl) (by rfl) (by rfl) ?_;intro v9 w9 o9 g9;rw[HL4.out] at o9;obtain⟨a9,c9,rfl⟩:=o9.shape)
   have K9:=Aq_ Kz.out O5' (le_ _) g9;have hz8:=K8.out.size;have hz10:=K10.out.size;exact⟨⟨i+1,by omega,by go_num,by rw[HS.out];have h9:=o9.base (B':=w.heap.size) (fun q hq=>lt_ (lt_ hz10 hz8) (o9.lt q hq).1);rw[la_] at h9;exact h9,Aa_ Kw4.out (Aa_ K8.out K9)⟩,by simp[RowKit.intOf];omega⟩
  ·have e:tg.take i=tg:=tk_ (by omega)
   rw[e,←HB.out] at hO;clear e;obtain⟨oa,oc,rfl⟩:=hO.shape;have HO:=hh_ hO;clear hO
   go_wp2_with fail
   go_ret2
   exact⟨_,rfl,HO.out,Aa_ HG4.out hg⟩
def Ss_ (w:World) (v:Value) (l:List EvR):Prop:=RdL evF 3 w v l∧∀x∈l,RdL tagF 2 w x.vt x.tags
theorem Ss_.same {v:Value} {l:List EvR} (h:Ss_ w v l) (hg:w.grownBy w' none):Ss_ w' v l:=⟨h.1.same hg,fun x hx=>(h.2 x hx).same hg⟩
theorem eu_ (v:Value) (l:List EvR) (w:World) (h:Ss_ w v l) (hE:∀x∈l,EvOk x) (h0:0<l.length) (h4:l.length≤4):Calls prog 112 #[v] w (Xj_ (bodyB l) w):=by
 obtain⟨a,c,rfl⟩:=h.1.shape;have H:=hh_ h;have HE:=hh_ hE;have i0 :((l.length:Int)==0)=false:=bf_ (by omega)
 have i4 :(l.length:Int)≤4:=by omega
 have hwl:IntKind.u64.wrap (l.length:Int) =(l.length:Int):=IntWalk.u64_in _ (by omega);have hbl:=hh_ (Ja_ hE h4);have Hc:=hh_ (Dj_ (.slice none 0 0) [] l.length w (Own.nil byF 1 5 0 w).rd (by omega) (by simp));have e1:=Dq_ (show l.length<18446744073709551616 by omega);clear h hE
 go_enter func112,ntmps112
 go_upto_region 4 with(go_at_call 113;refine Hc.out.mono ?_;rintro e w2 ⟨v2,rfl,o2,g2⟩)
 rw[List.nil_append] at o2;have HO2:=hh_ o2;have HG2:=hh_ g2;clear Hc o2 g2 hwl
 go_wp2_with fail
 go_loopw [23,4] (fun s23 s4 wk=>∃i:Nat,i≤l.length∧s23=.int .i64 i∧Own byF 1 5 w.heap.size wk s4 (vb l.length++evsB (l.take i))∧w.grownBy wk none) (fun s23 _ _=>l.length-(RowKit.intOf s23).toNat)
 case atStart=>exact⟨0,zl_ _,rfl,by simpa [evsB] using HO2.out,HG2.out⟩
 case round=>
  clear HO2;obtain⟨i,hi,rfl,hO,hg⟩:=hrel
  by_cases hlt:i<l.length
  ·have hRr:=H.out.same hg
   obtain⟨gx,ox,cx,hv,hgx,hcx⟩:=hRr.1.at_ Wb_ hlt;cases hv;have c0:=hcx 0 _ rfl;have c1:=hcx 1 _ rfl;have c2:=hcx 2 _ rfl;rw[Nat.add_zero] at c0;have hx:=hRr.2 _ (mg_ hlt);have hx2:=HE.out _ (mg_ hlt);have HS:=hh_ (show vb l.length++evsB (l.take (i+1))=vb l.length++evsB (l.take i)++evB l[i] by rw[tg_ hlt,Wd_,List.append_assoc])
   have hll :(vb l.length++evsB (l.take i)).length≤2050:=by
    have:=Qi_ (l:=l.take i) fun t ht=>HE.out t (List.mem_of_mem_take ht)
    rw[lk_] at this;rw[la_];omega
   have hel:=X8_ hx2;have Hx:=hh_ hx;have Hx2:=hh_ hx2;obtain⟨ta,tc,ht⟩:=hx.shape;clear hcx hx hx2 hRr;generalize vb l.length++evsB (l.take i)=L at *;generalize l[i]=x at *;rw[ht] at c0
   have C:=hh_ fun w' (h:World.grownBy wr w' none)=>ht▸Z0_ x w' (Hx.out.same h) Hx2.out
   obtain⟨oa,oc,rfl⟩:=hO.shape;have HO:=hh_ hO
   have hb1 :(L.length+(evB x).length)*1≤140737488355328:=by omega
   have hb2:L.length+(evB x).length≤9223372036854775807:=by omega
   have hzw:=hg.size;clear hO ht hel;generalize evB x=X at *
   go_wp2_with (first
    |(go_at_call 148;refine(C.out _ gw_).mono ?_;rintro e w3 ⟨v3,rfl,o3,g3⟩;obtain⟨a3,c3,rfl⟩:=o3.shape;have K3:wr.grownBy w3 none:=Aa_ gw_ g3;have O4:=HO.out.same K3;have hz3:w.heap.size≤w3.heap.size:=lt_ hzw K3.size;have R3:=o3.rd)
    |(at_builtin;refine app D6_ D9_ O4 R3 rfl hb1 hb2 hz3 ?_;intro v8 w8 o8 g8 l8))
   have K8:=Aq_ (Aa_ hg K3) O4 (le_ _) g8;exact⟨⟨i+1,by omega,by go_num,by rw[HS.out];exact o8,K8⟩,by simp[RowKit.intOf];omega⟩
  ·have e:l.take i=l:=tk_ (by omega)
   rw[e,show vb l.length++evsB l=bodyB l from rfl] at hO;clear e;obtain⟨oa,oc,rfl⟩:=hO.shape;have HO:=hh_ hO
   have j1 :((bodyB l).length:Int)≤4096:=by have:=hbl.out;omega
   clear hO
   go_wp2_with fail
   go_ret2
   exact⟨_,rfl,HO.out,hg⟩
theorem Zj_ (v:Value) (l:List EvR) (w:World) (h:Ss_ w v l) (hE:∀x∈l,EvOk x) (h0:0<l.length) (h4:l.length≤4):Calls prog 79 #[v] w (Xj_ (frB l) w):=by
 have hbl:=Ja_ hE h4;have Hc:=hh_ (eu_ v l w h hE h0 h4);obtain⟨a,c,rfl⟩:=h.1.shape;have HF:=hh_ (show frB l=[]++vb (bodyB l).length++bodyB l from rfl);have e1:=Dq_ (show(bodyB l).length<18446744073709551616 by omega);have hwl:IntKind.u64.wrap ((bodyB l).length:Int) =((bodyB l).length:Int):=IntWalk.u64_in _ (by omega);clear h hE;generalize bodyB l=B at *
 have Ca:=hh_ fun w'=>Dj_ (.slice none 0 0) [] B.length w' (Own.nil byF 1 5 0 w').rd (by omega) (by simp)
 have hb1 :((([]:List UInt8)++vb B.length).length+B.length)*1≤140737488355328:=by simp only[List.nil_append];omega
 have hb2 :(([]:List UInt8)++vb B.length).length+B.length≤9223372036854775807:=by simp only[List.nil_append];omega
 rw[List.nil_append] at HF hb1 hb2
 go_enter func79,ntmps79
 go_wp2_with (first
  |(go_at_call 112;refine Hc.out.mono ?_;rintro e w2 ⟨v2,rfl,o2,g2⟩;obtain⟨a2,c2,rfl⟩:=o2.shape)
  |(go_at_call 113;refine(Ca.out _).mono ?_;rintro e w3 ⟨v3,rfl,o3,g3⟩;rw[List.nil_append] at o3;obtain⟨a3,c3,rfl⟩:=o3.shape;have R3:=(o2.same g3).rd;have hz3:w.heap.size≤w3.heap.size:=lt_ g2.size g3.size;have o4:=o3.base (B':=w.heap.size) (fun q hq=>lt_ g2.size (o3.lt q hq).1))
  |(at_builtin;refine app D6_ D9_ o4 R3 rfl hb1 hb2 hz3 ?_;intro v8 w8 o8 g8 l8;rw[←HF.out] at o8))
 go_ret2
 exact⟨_,rfl,o8,Aq_ (Aa_ g2 g3) o4 (le_ _) g8⟩
end
section
open Go.RowKit
def InB (lo hi:Nat) (v:Value):Prop:=∀a n c,v=.slice (some a) n c→lo≤a.block∧a.block<hi
theorem InB.notIn {lo hi b:Nat} {v:Value} (h:InB lo hi v) (hb:b<lo∨hi≤b):NotIn v b:=fun a n c e=>by have:=h a n c e;omega
theorem InB.wide {lo hi lo' hi':Nat} {v:Value} (h:InB lo hi v) (h1:lo'≤lo) (h2:hi≤hi'):InB lo' hi' v:=fun a n c e=>by have:=h a n c e;omega
theorem Own.inB {α:Type} {f:α→List Value} {s:Nat} {e:TypeId} {B:Nat} {v:Value} {l:List α} (h:Own f s e B w v l):InB B w.heap.size v:=by
 intro a n c hv
 rcases h.2 with⟨rfl,_⟩ |⟨g,cap,cur,rfl,_⟩
 ·cases hv
 ·cases hv;exact h.lt g rfl
theorem Cd_ {α:Type} {f:α→List Value} {st e:TypeId} {z:Value} {size bytes:Nat} {B:Nat} {v:Value} {l:List α} {rest:List Oper}
  (E:Elt st e z size bytes) (hf:∀x,(f x).length=size) (hown:Own f size e B w v l) (y:α) (h1:∀u∈f y,u.oneCell'=true) (hb :(l.length+1)*bytes≤140737488355328) (h63:l.length+1≤9223372036854775807) (hbase:B≤w.heap.size) {te:TypeId} (hcs:cs.toList=f y)
  (hgd:o.guard=none) (s x:Operand) (ho:o.op=.call { callee:=.builtin .append,args:=#[s,x],argTypes:=#[st,st] }) (hs:a.eval s=v) (hx:a.eval x=.slice (some ⟨w.heap.size,0,none⟩) 1 1)
  (h:∀v' w',Own f size e B w' v' (l++[y])→w.grownBy w' v.ownBlock→Lies v v' w.heap.size→wpList prog ops Q rest (a.put o.dst v') w'):wpList prog ops Q (o::rest) a (w.alloc (.cells cs te)):=by
 refine wpList_plain hgd fun _ hK=>?_
 have hr:=H8_ hf w y cs te hcs;obtain⟨v',w',hrun,h2,h3,h4⟩:=Gu_ (ty:=o.type) E (hown.same (ga_ w (.cells cs te) none)) hr (by simpa [cellsOf] using h1) (by unfold maxLen;exact h63) (by simpa using hb) (by simp;omega);unfold Oper.wp execOp;simp only[ho,resolve,invoke,builtin,Sem.run_bind,Sem.run_pure,Result.andThen_ok,List.map_toArray,List.map_cons,List.map_nil,hs,hx,hrun];refine hK _ _ (h v' w' ?_ (Aa_ (ga_ w _ _) h3) (h4.imp id fun⟨g,e1,e2⟩=>⟨g,e1,by simp at e2;omega⟩));unfold Own;rw[Ar_,la_];exact h2
end
section
open Go.RowKit Go.Sort
theorem e6_ {t:TagR} (h:t.name.size≤70∧t.value.size≤70):TagW t:=⟨by omega,by omega⟩
theorem TagsM.tagsW {L:List TagR} (h:TagsM L):∀t∈L,TagW t:=fun t ht=>e6_ (by have:=h.size t ht;omega)
def KeyD (B b:Nat) (w:World) (e:Ending) (w':World):Prop:=∃L,e=.returned (.string (keyY L))∧TagsM L∧Deck B w' b∧w.grownBy w' (some b)
theorem e9_ {B b:Nat} {w w':World} {L:List TagR} (h:TagsM L) (hd:Deck B w' b) (hg:w.grownBy w' (some b)):KeyD B b w (.returned (.string (keyY L))) w':=⟨L,rfl,h,hd,hg⟩
theorem gh_ {B:Nat} (b:Nat) (w:World) (hd:Deck B w b) (hB:B≤w.heap.size):Calls prog 44 #[.pointer (some ⟨b,0,none⟩)] w (KeyD B b w):=by
 have Ct:=hh_ (Ts_ b w hd hB)
 go_enter func44,ntmps44
 go_wp2_with (first
  |(go_at_call 78;refine Ct.out.mono ?_;rintro e w2 ⟨v2,L,rfl,o2,m2,d2,g2⟩;obtain⟨a2,c2,rfl⟩:=o2.shape;have Ck:=hh_ (Hu_ _ L w2 o2.rd m2.tagsW))
  |(go_at_call 16;refine Ck.out.mono ?_;rintro e w3 ⟨rfl,g3⟩))
 go_ret
 exact e9_ m2 (d2.kept g3 (by simp)) (Aa_ g2 (Ak_ g3 _))
structure EvS (B b b4 b5:Nat) (w0:World) (x:EvR) (w:World):Prop where
 deck:Deck B w b
 res:Blk w b4 #[.slice none 0 0,.int .i64 0,.int .u64 0]
 box:Blk w b5 #[x.vt,.int .i64 x.time,.int .u64 x.weight]
 own:Own tagF 2 53 (b4+1) w x.vt x.tags
 ne:∀k,x.vt.ownBlock=some k→k≠b5
 G:w0.grownBy w (some b)
 lt:b<B∧B≤b4∧b4<b5∧w0.heap.size≤b4
section
variable {B b b4 b5:Nat} {w0 w w':World} {x:EvR}
theorem EvS.next (h:EvS B b b4 b5 w0 x w) (hd:Deck B w' b) (hg:w.grownBy w' (some b)):EvS B b b4 b5 w0 x w':=by
 obtain⟨h1,h2,h3,h4⟩:=h.lt;exact⟨hd,h.res.kept hg (by simp;omega),h.box.kept hg (by simp;omega),h.own.kept hg (fun k hk e=>by cases e;have:=(h.own.lt _ hk).1;omega),h.ne,Aa_ h.G hg,h.lt⟩
theorem EvS.same (h:EvS B b b4 b5 w0 x w) (hg:w.grownBy w' none):EvS B b b4 b5 w0 x w':=
 ⟨h.deck.kept hg (by simp),h.res.same hg,h.box.same hg,h.own.same hg,h.ne,Aa_ h.G (Ak_ hg _),h.lt⟩
theorem EvS.set (h:EvS B b b4 b5 w0 x w) (y:EvR) (i:Nat) (v:Value) (he :(#[x.vt,.int .i64 x.time,.int .u64 x.weight]:Array Value).setIfInBounds i v=#[y.vt,.int .i64 y.time,.int .u64 y.weight])
  (ho:Own tagF 2 53 (b4+1) w y.vt y.tags) (hn:∀k,y.vt.ownBlock=some k→k≠b5):EvS B b b4 b5 w0 y (w.setCell ⟨b5,i,none⟩ v):=by
 obtain⟨h1,h2,h3,h4⟩:=h.lt;have hg:w.grownBy (w.setCell ⟨b5,i,none⟩ v) (some b5):=Ac_ (Ab_ w (some b5)) i v;exact⟨h.deck.kept hg (fun k e=>by cases e;omega),h.res.kept hg (by simp;omega),h.box.set_ i v he,ho.kept hg (fun k hk e=>by cases e;exact hn _ hk rfl),hn,Af_ h.G hg (by omega),h.lt⟩
theorem EvS.tag (h:EvS B b b4 b5 w0 x w) {g n c:Nat} (hv:x.vt=.slice (some ⟨g,0,none⟩) n c) (h0:0<x.tags.length) {j:Nat} (hj:j<2) (u:Value) (y:TagR) (hy:tagF y =(tagF x.tags[0]).set j u) :
  EvS B b b4 b5 w0 { x with tags:=x.tags.set 0 y } (w.setCell ⟨g,j,none⟩ u):=by
 obtain⟨h1,h2,h3,h4⟩:=h.lt;have ho:=h.own;rw[hv] at ho;have hs:=ho.stored Au_ h0 hj u y hy;rw[Nat.zero_mul,Nat.zero_add] at hs;have hlt:=ho.lt g rfl;have hne:=h.ne g (by rw[hv];rfl);refine⟨h.deck.kept hs.2 (fun k e=>by cases e;omega),h.res.kept hs.2 (by simp;omega),h.box.kept hs.2 (by simpa using hne),?_,h.ne,Af_ h.G hs.2 (by omega),h.lt⟩;rw[←hv] at hs;exact hs.1
theorem EvS.app (h:EvS B b b4 b5 w0 x w) {v':Value} {l':List TagR} (o':Own tagF 2 53 (b4+1) w' v' l') (hg:w.grownBy w' x.vt.ownBlock) (hl:Lies x.vt v' w.heap.size) :
  Blk w' b5 #[x.vt,.int .i64 x.time,.int .u64 x.weight]∧EvS B b b4 b5 w0 { x with vt:=v',tags:=l' } (w'.setCell ⟨b5,0,none⟩ v'):=by
 obtain⟨h1,h2,h3,h4⟩:=h.lt
 have hlo:∀k,x.vt.ownBlock=some k→b4+1≤k:=fun k hk=>(h.own.lt k hk).1
 have hb:=h.box.kept hg (fun e=>h.ne _ e rfl);refine⟨hb,?_⟩;have hs:w'.grownBy (w'.setCell ⟨b5,0,none⟩ v') (some b5):=Ac_ (Ab_ w' (some b5)) 0 v'
 have hn:∀k,v'.ownBlock=some k→k≠b5:=fun k hk=>by
  rcases hl with e |⟨m,e1,e2⟩
  ·exact h.ne k (e▸hk)
  ·rw[e1] at hk;cases hk;have:=h.box.lt;omega
 have hG:w0.grownBy w' (some b):=by
  cases hq:x.vt.ownBlock with
  | none=>rw[hq] at hg;exact Aa_ h.G (Ak_ hg _)
  | some k=>rw[hq] at hg;exact Af_ h.G hg (by have:=hlo k hq;omega)
 exact⟨(h.deck.kept hg (fun k e=>by have:=hlo _ e;omega)).kept hs (fun k e=>by cases e;omega),(h.res.kept hg (fun e=>by have:=hlo _ e;omega)).kept hs (by simp;omega),hb.set_ 0 v' rfl,
  o'.kept hs (fun k hk e=>by cases e;exact hn _ hk rfl),hn,Af_ hG hs (by omega),h.lt⟩
def EvD (B b:Nat) (w:World) (e:Ending) (w':World):Prop:=∃x:EvR,e=.returned (.agg #[x.vt,.int .i64 x.time,.int .u64 x.weight])∧EvOk x∧RdL tagF 2 w' x.vt x.tags∧InB w.heap.size w'.heap.size x.vt∧Deck B w' b∧w.grownBy w' (some b)
theorem EvS.fin (h:EvS B b b4 b5 w0 x w) (hE:EvOk x) (hg:w.grownBy w' (some b4)):EvD B b w0 (.returned (.agg #[x.vt,.int .i64 x.time,.int .u64 x.weight])) w':=by
 obtain⟨h1,h2,h3,h4⟩:=h.lt;have ho:=h.own.kept hg (fun k hk e=>by cases e;have:=(h.own.lt _ hk).1;omega);exact⟨x,rfl,hE,ho.rd,(h.own.inB.wide (by omega) hg.size),h.deck.kept hg (fun k e=>by cases e;omega),Af_ h.G hg h4⟩
end
theorem dr_ {B:Nat} (b:Nat) (t:Int) (w:World) (hd:Deck B w b) (hB:B≤w.heap.size) (ht:0≤t∧t≤1099511627776):Calls prog 114 #[.pointer (some ⟨b,0,none⟩),.int .i64 t] w (EvD B b w):=by
 have hbB:=hd.below
 go_enter func114,ntmps114
 go_upto_region 1 with fail
 have B4:=Blk.new w #[.slice none 0 0,.int .i64 0,.int .u64 0] 164;have G4:=ga_ w (.cells #[.slice none 0 0,.int .i64 0,.int .u64 0] 164) none
 have z4 :(w.alloc (.cells #[.slice none 0 0,.int .i64 0,.int .u64 0] 164)).heap.size=w.heap.size+1:=by simp
 generalize w.alloc _=w4 at *;have D4:=hd.kept G4 (by simp);have Ct:=hh_ (Ts_ b w4 D4 (by omega))
 go_upto_region 2 with(first
  |(go_at_call 78;refine Ct.out.mono ?_;rintro e w5 ⟨v5,L,rfl,o5,m5,d5,g5⟩;obtain⟨a5,c5,rfl⟩:=o5.shape;have Cs:=hh_ (dz_ b w5 d5))
  |(go_at_call 149;refine Cs.out.mono ?_;rintro e w6 ⟨r6,rfl,hr6,d6,g6⟩))
 have B7:=Blk.new w6 #[.slice a5 L.length c5,.int .i64 t,.int .u64 r6] 164;have G7:=ga_ w6 (.cells #[.slice a5 L.length c5,.int .i64 t,.int .u64 r6] 164) none;have z5:=g5.size;have z6:=g6.size
 have E0:=hh_ (show EvS B b w.heap.size w6.heap.size w ⟨.slice a5 L.length c5,t,r6,L⟩ (w6.alloc (.cells #[.slice a5 L.length c5,.int .i64 t,.int .u64 r6] 164)) from
  ⟨(d6.kept G7 (by simp)),((B4.kept g5 (by simp;omega)).kept g6 (by simp;omega)).same G7,B7,((o5.kept g6 (fun k hk e=>by cases e;have:=(o5.lt _ hk).1;omega)).same G7).base (fun k hk=>by have:=(o5.lt k hk).1;omega),
   fun k hk=>by have:=(o5.lt k hk).2;omega,Aa_ (Aa_ (Aa_ (Ak_ G4 _) g5) g6) (Ak_ G7 _),hbB,hB,by omega,by omega⟩)
 generalize w6.alloc _=w7 at *;clear B4 G4 z4 D4 Ct Cs o5 d5 g5 d6 g6 B7 G7 z5 z6;obtain⟨b4,hb4⟩:∃b4,w.heap.size=b4:=⟨_,rfl⟩;rw[hb4] at E0;rw[hb4];clear hb4;generalize w6.heap.size=b5 at *;have hmf:=m5.few;have hms:=m5.size;have HOk:=hh_ (show EvOk ⟨.slice a5 L.length c5,t,r6,L⟩ from⟨ht,hr6,by show L.length≤3;omega,fun u hu=>by have:=hms u hu;omega⟩);have Cn:=hh_ (Ba_ b 24 w7 E0.out.deck (by omega) (by omega))
 go_upto_region 3 with(go_at_call 37;refine Cn.out.mono ?_;rintro e w8 ⟨r,rfl,hr0,hr1,hd8,hg8⟩)
 have E1:=hh_ (E0.out.next hd8 hg8);clear E0 Cn hd8 hg8 m5;have HMs:=hh_ hms;clear hms
 by_cases h0:r=0
 ·subst h0
  have Cw:=hh_ (Ve_ b w8 E1.out.deck);have bx:=E1.out.box.cell
  go_upto_region 17 with(go_at_call 150;refine Cw.out.mono ?_;rintro e w9 ⟨r9,rfl,hr9,d9,g9⟩;have D9:=E1.out.next d9 g9;have by_:=D9.box.cell;have bf_:=D9.box.free)
  have E2:=hh_ (D9.set ⟨.slice a5 L.length c5,t,r9,L⟩ 2 (.int .u64 r9) rfl D9.own D9.ne);have HOk2:=hh_ (show EvOk ⟨.slice a5 L.length c5,t,r9,L⟩ from⟨HOk.out.time,hr9,HOk.out.few,HOk.out.size⟩);clear bx by_ bf_ D9 d9 g9 Cw E1;generalize w9.setCell ⟨b5,2,none⟩ (.int .u64 r9)=wz at *;have HBx:=(E2).out.box.cell;have HRs:=(E2).out.res.cell;have HRf:=(E2).out.res.free
  go_wp2_with fail
  have hgw:World.grownBy wz (((wz.setCell ⟨b4,0,none⟩ (.slice a5 L.length c5)).setCell ⟨b4,1,none⟩ (.int .i64 t)).setCell ⟨b4,2,none⟩ (.int .u64 r9)) (some b4):=Ac_ (Ac_ (Ac_ (Ab_ _ _) _ _) _ _) _ _;have rc:=((((E2).out.res.set_ 0 (.slice a5 L.length c5) rfl).set_ 1 (.int .i64 t) rfl).set_ 2 (.int .u64 r9) rfl).cell;refine bodyPost_ret (v:=.agg #[(.slice a5 L.length c5),(.int .i64 t),(.int .u64 r9)]) (by simp[results,results114,go_sem,rc]) rfl ?_;exact(E2).out.fin HOk2.out hgw
 by_cases h1:r=1
 ·subst h1
  clear h0
  have hL0:0<L.length:=by omega
  have Dd:=E1.out.same (w':=w8.drew) gw_;obtain⟨gv,cv,hv,-,hgv,-,hcx,-⟩:=Dd.own.at_ Au_ (i:=0) hL0
  obtain⟨rfl,-,rfl⟩:a5=some ⟨gv,0,none⟩∧L.length=L.length∧c5=cv:=by simpa only[Value.slice.injEq] using hv
  have c0:=hcx 0 _ rfl;have c1:=hcx 1 _ rfl;rw[Nat.zero_mul,Nat.zero_add] at c0 c1
  have hp :(0:Int)<(L.length:Int):=by omega
  have hbx:=E1.out.box.cell;have ac:=Dd.box.cell;have hy:=HMs.out _ (mg_ hL0);dsimp only at c0 c1;generalize L[0]=y at *;have axd:=(Dd.same (ga_ w8.drew (.cells #[.string y.name,.string y.value] 53) none)).box.cell;have axd2:=(E1.out.same (ga_ w8 (.cells #[.string y.name,.string y.value] 53) none)).box.cell
  have hbase:b4+1≤w8.drew.heap.size:=by have h1:=Dd.box.lt;have h2:=Dd.lt;omega
  have hb3 :(L.length+1)*32≤140737488355328:=by omega
  have hb4:L.length+1≤9223372036854775807:=by omega
  have Hcs:=hh_ (show(#[Value.string y.name,Value.string y.value]:Array Value).toList=tagF y from rfl);have HDd:=hh_ Dd;have Hy:=hh_ hy;clear hv hcx Dd hy;dsimp only at ac axd axd2 hbx
  go_wp2_with fail
  go_region_law (first
   |(refine N3_ Co_ Dc_ Au_ HDd.out.own y hb3 hb4 hbase Hcs.out (by rfl) _ _ (by rfl) (by rfl) (by rfl) ?_;intro v3 w3 o3 g3 l3;obtain⟨a3,c3,rfl⟩:=o3.shape;obtain⟨b3,D3⟩:=HDd.out.app o3 g3 l3;have ac3:=b3.cell;have af3:=b3.free))
  all_goals
   have HD3:=hh_ D3;clear D3 ac3 af3 b3 l3 o3 g3 axd axd2 ac hbx HDd c0 c1 E1
   have HOk2:=hh_ (show EvOk ⟨.slice a3 (L++[y]).length c3,t,r6,L++[y]⟩ from⟨HOk.out.time,HOk.out.weight,by show(L++[y]).length≤3;simp;omega,fun u hu=>by
    rcases ma_ hu with h|h
    ·exact HOk.out.size u h
    ·obtain rfl:=ms_ h;have:=Hy.out;omega⟩)
   dsimp only at HD3
   have hll :(L++[y]).length=L.length+1:=by simp
   rw[hll] at HD3 HOk2;clear hll
   (try rw[la_,ls_])
   go_upto_region 17 with fail
   generalize w3.setCell ⟨b5,0,none⟩ (.slice a3 (L.length+1) c3)=wz at *;have HBx:=(HD3).out.box.cell;have HRs:=(HD3).out.res.cell;have HRf:=(HD3).out.res.free
   go_wp2_with fail
   have hgw:World.grownBy wz (((wz.setCell ⟨b4,0,none⟩ (.slice a3 (L.length+1) c3)).setCell ⟨b4,1,none⟩ (.int .i64 t)).setCell ⟨b4,2,none⟩ (.int .u64 r6)) (some b4):=Ac_ (Ac_ (Ac_ (Ab_ _ _) _ _) _ _) _ _;have rc:=((((HD3).out.res.set_ 0 (.slice a3 (L.length+1) c3) rfl).set_ 1 (.int .i64 t) rfl).set_ 2 (.int .u64 r6) rfl).cell;refine bodyPost_ret (v:=.agg #[(.slice a3 (L.length+1) c3),(.int .i64 t),(.int .u64 r6)]) (by simp[results,results114,go_sem,rc]) rfl ?_;exact(HD3).out.fin HOk2.out hgw
 by_cases h2:r=2
 ·subst h2
  clear h0 h1
  have hL0:0<L.length:=by omega
  obtain⟨gv,cv,hv,-,hgv,-,hcx,hfz⟩:=E1.out.own.at_ Au_ (i:=0) hL0
  obtain⟨rfl,-,rfl⟩:a5=some ⟨gv,0,none⟩∧L.length=L.length∧c5=cv:=by simpa only[Value.slice.injEq] using hv
  have c0:=hcx 0 _ rfl;have c1:=hcx 1 _ rfl;rw[Nat.zero_mul,Nat.zero_add] at c0 c1
  have hp :(0:Int)<(L.length:Int):=by omega
  have hf0:=hfz 0;have hf1:=hfz 1;have bx:=E1.out.box.cell;clear hv hcx
  go_upto_region 17 with fail
  have E2:=hh_ (E1.out.tag rfl hL0 (j:=0) (by omega) (.string ⟨#[75]⟩) ⟨⟨#[75]⟩,L[0].value⟩ rfl)
  have HOk2:=hh_ (show EvOk ⟨.slice (some ⟨gv,0,none⟩) L.length c5,t,r6,L.set 0 ⟨⟨#[75]⟩,L[0].value⟩⟩ from⟨HOk.out.time,HOk.out.weight,by show(L.set 0 _).length≤3;rw[List.length_set];omega,fun u hu=>by
   rcases List.mem_or_eq_of_mem_set hu with h|h
   ·exact HOk.out.size u h
   ·subst h;exact⟨by simp[ByteArray.size],(HOk.out.size _ (mg_ hL0)).2⟩⟩)
  clear bx c0 c1 hf0 hf1 hfz E1;generalize w8.setCell ⟨gv,0,none⟩ (.string ⟨#[75]⟩)=wz at *;have HBx:=(E2).out.box.cell;have HRs:=(E2).out.res.cell;have HRf:=(E2).out.res.free
  go_wp2_with fail
  have hgw:World.grownBy wz (((wz.setCell ⟨b4,0,none⟩ (.slice (some ⟨gv,0,none⟩) L.length c5)).setCell ⟨b4,1,none⟩ (.int .i64 t)).setCell ⟨b4,2,none⟩ (.int .u64 r6)) (some b4):=Ac_ (Ac_ (Ac_ (Ab_ _ _) _ _) _ _) _ _;have rc:=((((E2).out.res.set_ 0 (.slice (some ⟨gv,0,none⟩) L.length c5) rfl).set_ 1 (.int .i64 t) rfl).set_ 2 (.int .u64 r6) rfl).cell;refine bodyPost_ret (v:=.agg #[(.slice (some ⟨gv,0,none⟩) L.length c5),(.int .i64 t),(.int .u64 r6)]) (by simp[results,results114,go_sem,rc]) rfl ?_;exact(E2).out.fin HOk2.out hgw
 by_cases h3:r=3
 ·subst h3
  clear h0 h1 h2;have bx:=E1.out.box.cell;have bf_:=E1.out.box.free
  go_upto_region 17 with fail
  have E2:=hh_ (E1.out.set ⟨.slice a5 L.length c5,t,0,L⟩ 2 (.int .u64 0) rfl E1.out.own E1.out.ne);have HOk2:=hh_ (show EvOk ⟨.slice a5 L.length c5,t,0,L⟩ from⟨HOk.out.time,(show W64 (0:Int) from b7_ (by omega) (by omega)),HOk.out.few,HOk.out.size⟩);clear bx bf_ E1;generalize w8.setCell ⟨b5,2,none⟩ (.int .u64 0)=wz at *;have HBx:=(E2).out.box.cell;have HRs:=(E2).out.res.cell;have HRf:=(E2).out.res.free
  go_wp2_with fail
  have hgw:World.grownBy wz (((wz.setCell ⟨b4,0,none⟩ (.slice a5 L.length c5)).setCell ⟨b4,1,none⟩ (.int .i64 t)).setCell ⟨b4,2,none⟩ (.int .u64 0)) (some b4):=Ac_ (Ac_ (Ac_ (Ab_ _ _) _ _) _ _) _ _;have rc:=((((E2).out.res.set_ 0 (.slice a5 L.length c5) rfl).set_ 1 (.int .i64 t) rfl).set_ 2 (.int .u64 0) rfl).cell;refine bodyPost_ret (v:=.agg #[(.slice a5 L.length c5),(.int .i64 t),(.int .u64 0)]) (by simp[results,results114,go_sem,rc]) rfl ?_;exact(E2).out.fin HOk2.out hgw
 by_cases h4:r=4
 ·subst h4
  clear h0 h1 h2 h3;have bx:=E1.out.box.cell;have bf_:=E1.out.box.free
  go_upto_region 17 with fail
  have E2:=hh_ (E1.out.set ⟨.slice none 0 0,t,r6,[]⟩ 0 (.slice none 0 0) rfl (Own.nil _ _ _ _ _) (fun k hk=>by simp[Value.ownBlock] at hk));have HOk2:=hh_ (show EvOk ⟨.slice none 0 0,t,r6,[]⟩ from⟨HOk.out.time,HOk.out.weight,by simp,by simp⟩);clear bx bf_ E1;generalize w8.setCell ⟨b5,0,none⟩ (.slice none 0 0)=wz at *;have HBx:=(E2).out.box.cell;have HRs:=(E2).out.res.cell;have HRf:=(E2).out.res.free
  go_wp2_with fail
  have hgw:World.grownBy wz (((wz.setCell ⟨b4,0,none⟩ (.slice none 0 0)).setCell ⟨b4,1,none⟩ (.int .i64 t)).setCell ⟨b4,2,none⟩ (.int .u64 r6)) (some b4):=Ac_ (Ac_ (Ac_ (Ab_ _ _) _ _) _ _) _ _;have rc:=((((E2).out.res.set_ 0 (.slice none 0 0) rfl).set_ 1 (.int .i64 t) rfl).set_ 2 (.int .u64 r6) rfl).cell;refine bodyPost_ret (v:=.agg #[(.slice none 0 0),(.int .i64 t),(.int .u64 r6)]) (by simp[results,results114,go_sem,rc]) rfl ?_;exact(E2).out.fin HOk2.out hgw
 by_cases h5:r=5
 ·subst h5
  clear h0 h1 h2 h3 h4
  have hL0:0<L.length:=by omega
  obtain⟨gv,cv,hv,-,hgv,-,hcx,hfz⟩:=E1.out.own.at_ Au_ (i:=0) hL0
  obtain⟨rfl,-,rfl⟩:a5=some ⟨gv,0,none⟩∧L.length=L.length∧c5=cv:=by simpa only[Value.slice.injEq] using hv
  have c0:=hcx 0 _ rfl;have c1:=hcx 1 _ rfl;rw[Nat.zero_mul,Nat.zero_add] at c0 c1
  have hp :(0:Int)<(L.length:Int):=by omega
  have hf0:=hfz 0;have hf1:=hfz 1;have bx:=E1.out.box.cell;clear hv hcx
  go_upto_region 17 with fail
  have E2:=hh_ (E1.out.tag rfl hL0 (j:=1) (by omega) (.string ⟨#[48,49,50,51,52,53,54,55,56,57,48,49,50,51,52,53,54,55,56,57,48,49,50,51,52,53,54,55,56,57,48,49,50,51,52,53,54,55,56,57,48,49,50,51,52,53,54,55,56,57,48,49,50,51,52,53,54,55,56,57,48,49,50,51,52,53,54,55,56,57]⟩) ⟨L[0].name,⟨#[48,49,50,51,52,53,54,55,56,57,48,49,50,51,52,53,54,55,56,57,48,49,50,51,52,53,54,55,56,57,48,49,50,51,52,53,54,55,56,57,48,49,50,51,52,53,54,55,56,57,48,49,50,51,52,53,54,55,56,57,48,49,50,51,52,53,54,55,56,57]⟩⟩ rfl)
  have HOk2:=hh_ (show EvOk ⟨.slice (some ⟨gv,0,none⟩) L.length c5,t,r6,L.set 0 ⟨L[0].name,⟨#[48,49,50,51,52,53,54,55,56,57,48,49,50,51,52,53,54,55,56,57,48,49,50,51,52,53,54,55,56,57,48,49,50,51,52,53,54,55,56,57,48,49,50,51,52,53,54,55,56,57,48,49,50,51,52,53,54,55,56,57,48,49,50,51,52,53,54,55,56,57]⟩⟩⟩ from⟨HOk.out.time,HOk.out.weight,by show(L.set 0 _).length≤3;rw[List.length_set];omega,fun u hu=>by
   rcases List.mem_or_eq_of_mem_set hu with h|h
   ·exact HOk.out.size u h
   ·subst h;exact⟨(HOk.out.size _ (mg_ hL0)).1,by show(70:Nat)≤70;omega⟩⟩)
  clear bx c0 c1 hf0 hf1 hfz E1;generalize w8.setCell ⟨gv,1,none⟩ (.string ⟨#[48,49,50,51,52,53,54,55,56,57,48,49,50,51,52,53,54,55,56,57,48,49,50,51,52,53,54,55,56,57,48,49,50,51,52,53,54,55,56,57,48,49,50,51,52,53,54,55,56,57,48,49,50,51,52,53,54,55,56,57,48,49,50,51,52,53,54,55,56,57]⟩)=wz at *;have HBx:=(E2).out.box.cell;have HRs:=(E2).out.res.cell;have HRf:=(E2).out.res.free
  go_wp2_with fail
  have hgw:World.grownBy wz (((wz.setCell ⟨b4,0,none⟩ (.slice (some ⟨gv,0,none⟩) L.length c5)).setCell ⟨b4,1,none⟩ (.int .i64 t)).setCell ⟨b4,2,none⟩ (.int .u64 r6)) (some b4):=Ac_ (Ac_ (Ac_ (Ab_ _ _) _ _) _ _) _ _;have rc:=((((E2).out.res.set_ 0 (.slice (some ⟨gv,0,none⟩) L.length c5) rfl).set_ 1 (.int .i64 t) rfl).set_ 2 (.int .u64 r6) rfl).cell;refine bodyPost_ret (v:=.agg #[(.slice (some ⟨gv,0,none⟩) L.length c5),(.int .i64 t),(.int .u64 r6)]) (by simp[results,results114,go_sem,rc]) rfl ?_;exact(E2).out.fin HOk2.out hgw
 by_cases h6:r=6
 ·subst h6
  clear h0 h1 h2 h3 h4 h5
  have HN:=hh_ fun m h0 h1=>Ba_ b m w8 E1.out.deck h0 h1
  have bx:=E1.out.box.cell
  go_wp2_with fail
  refine(HN.out _ (by omega) (by omega)).mono ?_;rintro e w9 ⟨q,rfl,hq0,hq1,d9,g9⟩;have D9:=hh_ (E1.out.next d9 g9);have hwq:IntKind.u64.wrap q=q:=IntWalk.u64_in _ (by omega);have hwq2:IntKind.u64.wrap (9223372036854775808+q)=9223372036854775808+q:=IntWalk.u64_in _ (by omega);have by_:=D9.out.box.cell;have bf_:=D9.out.box.free
  go_upto_region 17 with fail
  have E2:=hh_ (D9.out.set ⟨.slice a5 L.length c5,t,9223372036854775808+q,L⟩ 2 (.int .u64 (9223372036854775808+q)) rfl D9.out.own D9.out.ne);have HOk2:=hh_ (show EvOk ⟨.slice a5 L.length c5,t,9223372036854775808+q,L⟩ from⟨HOk.out.time,(show W64 (9223372036854775808+q) from b7_ (by omega) (by omega)),HOk.out.few,HOk.out.size⟩);clear bx by_ bf_ D9 d9 g9 E1 hwq hwq2;generalize w9.setCell ⟨b5,2,none⟩ (.int .u64 (9223372036854775808+q))=wz at *;have HBx:=(E2).out.box.cell;have HRs:=(E2).out.res.cell;have HRf:=(E2).out.res.free
  go_wp2_with fail
  have hgw:World.grownBy wz (((wz.setCell ⟨b4,0,none⟩ (.slice a5 L.length c5)).setCell ⟨b4,1,none⟩ (.int .i64 t)).setCell ⟨b4,2,none⟩ (.int .u64 (9223372036854775808+q))) (some b4):=Ac_ (Ac_ (Ac_ (Ab_ _ _) _ _) _ _) _ _;have rc:=((((E2).out.res.set_ 0 (.slice a5 L.length c5) rfl).set_ 1 (.int .i64 t) rfl).set_ 2 (.int .u64 (9223372036854775808+q)) rfl).cell;refine bodyPost_ret (v:=.agg #[(.slice a5 L.length c5),(.int .i64 t),(.int .u64 (9223372036854775808+q))]) (by simp[results,results114,go_sem,rc]) rfl ?_;exact(E2).out.fin HOk2.out hgw
 have f0 :((r:Int)==0)=false:=by simpa using h0
 have f1 :((r:Int)==1)=false:=by simpa using h1
 have f2 :((r:Int)==2)=false:=by simpa using h2
 have f3 :((r:Int)==3)=false:=by simpa using h3
 have f4 :((r:Int)==4)=false:=by simpa using h4
 have f5 :((r:Int)==5)=false:=by simpa using h5
 have f6 :((r:Int)==6)=false:=by simpa using h6
 clear h0 h1 h2 h3 h4 h5 h6;have HBx:=(E1).out.box.cell;have HRs:=(E1).out.res.cell;have HRf:=(E1).out.res.free
 go_wp2_with fail
 have hgw:World.grownBy w8 (((w8.setCell ⟨b4,0,none⟩ (.slice a5 L.length c5)).setCell ⟨b4,1,none⟩ (.int .i64 t)).setCell ⟨b4,2,none⟩ (.int .u64 r6)) (some b4):=Ac_ (Ac_ (Ac_ (Ab_ _ _) _ _) _ _) _ _;have rc:=((((E1).out.res.set_ 0 (.slice a5 L.length c5) rfl).set_ 1 (.int .i64 t) rfl).set_ 2 (.int .u64 r6) rfl).cell;refine bodyPost_ret (v:=.agg #[(.slice a5 L.length c5),(.int .i64 t),(.int .u64 r6)]) (by simp[results,results114,go_sem,rc]) rfl ?_;exact(E1).out.fin HOk.out hgw
end
section
open Go.RowKit Go.Sort
structure ItR where
 (key:ByteArray) (time weight:Int)
def itF (x:ItR):List Value:=[.string x.key,.int .i64 x.time,.int .u64 x.weight]
theorem Ip_ (x:ItR) :(itF x).length=3:=rfl
theorem hn_:OneF itF:=by intro x u hu;simp[itF] at hu;rcases hu with rfl|rfl|rfl <;> rfl
theorem c8_:Elt 33 41 (.agg #[.string ⟨#[]⟩,.int .i64 0,.int .u64 0]) 3 32:=⟨underlying33,by kernel_rfl,rfl,by decide⟩
structure ItW (x:ItR):Prop where
 time:-9223372036854775808≤x.time∧x.time≤9223372036854775807
 weight:W64 x.weight
 key:x.key.size≤9223372036854775807
end
section
open Go.RowKit
def cok (c:Cfg):Bool:=decide (1≤c.Length∧c.Length≤1048576∧0≤c.Lateness∧c.Lateness≤1048576∧1≤c.Windows∧c.Windows≤8)
def tok (n:Int):Bool:=decide (0≤n∧n≤1099511627776)
def C7_ (c:Cfg):Int:=if cok c then 0 else 11
def winV (c:Cfg) (t:Int):Int:=if cok c&&tok t then t/c.Length else 0
def lowV (c:Cfg) (m:Int):Int:=if cok c&&tok m then max (m-c.Lateness) 0/c.Length else 0
def verV (c:Cfg) (m t:Int):Int:=if cok c&&tok m&&tok t then (if winV c t<lowV c m then 3 else if lowV c m+c.Windows≤winV c t then 4 else 0) else 0
theorem Ng_ {c:Cfg} (h :(((((1≤c.Length∧c.Length≤1048576)∧0≤c.Lateness)∧c.Lateness≤1048576)∧1≤c.Windows)∧c.Windows≤8)):C7_ c=0:=by
 unfold C7_ cok;rw[if_pos];simp;omega
theorem Nz_ {c:Cfg} (h:¬(((((1≤c.Length∧c.Length≤1048576)∧0≤c.Lateness)∧c.Lateness≤1048576)∧1≤c.Windows)∧c.Windows≤8)):C7_ c=11:=by
 unfold C7_ cok;rw[if_neg];simp;omega
theorem Yz_ (c:Cfg) (w:World):Calls prog 104 #[c.val] w (RetInt (C7_ c) w):=by
 go_enter func104,ntmps104
 go_wp2
 all_goals go_ret
 all_goals first |(have hx:=Ng_ (c:=c) (by assumption);exact Aj_ hx (ga_ w _ _)) |(have hx:C7_ c=11:=Nz_ (by omega);exact Aj_ hx (ga_ w _ _))
theorem bs_ (c:Cfg) (w:World):Calls prog 109 #[c.val] w (RetInt (C7_ c) w):=by
 go_enter func109,ntmps109
 go_wp2
 all_goals go_ret
 all_goals first |(have hx:=Ng_ (c:=c) (by assumption);exact Aj_ hx (ga_ w _ _)) |(have hx:C7_ c=11:=Nz_ (by omega);exact Aj_ hx (ga_ w _ _))
theorem Je_ (c:Cfg) (n:Int) (w:World):Calls prog 89 #[c.val,.int .i64 n] w (Cm_ (cok c&&tok n) w):=by
 have key:∀r:Bool,(C7_ c==0)=r→(∃b0 b1,decide (0≤n)=b0∧decide (n≤1099511627776)=b1∧(r&&b0&&b1) =(cok c&&tok n)) →
   Calls prog 89 #[c.val,.int .i64 n] w (Cm_ (cok c&&tok n) w):=by
  intro r hr ⟨b0,b1,d0,d1,hx⟩;have Hx:=hh_ hx;clear hx;cases r <;> cases b0 <;> cases b1
  all_goals
   go_enter func89,ntmps89
   go_wp2_with (first |(refine At_ rfl _ rfl c rfl ?_;intro w1 B1 G1 z1) |(refine An_ rfl _ rfl _ rfl c (by assumption) ?_) |(go_at_call 109;refine(bs_ c _).mono ?_;rintro e w2 ⟨rfl,G2⟩))
   go_ret
   exact Be_ Hx.out.symm (Aa_ (by assumption) (by assumption))
 refine key _ rfl ⟨_,_,rfl,rfl,?_⟩
 have e1 :(C7_ c==0)=cok c:=by unfold C7_;cases cok c <;> rfl
 rw[e1,tok,Bool.and_assoc,←Bool.decide_and]
theorem Xw_ (c:Cfg) (n:Int) (w:World):Calls prog 50 #[c.val,.int .i64 n] w (RetInt (winV c n) w):=by
 cases hc :(cok c&&tok n)
 ·have hx:winV c n=0:=by simp[winV,hc]
  have Hx:=hh_ hx;clear hx
  go_enter func50,ntmps50
  go_wp2_with (first |(refine At_ rfl _ rfl c rfl ?_;intro w1 B1 G1 z1) |(refine An_ rfl _ rfl _ rfl c (by assumption) ?_) |(go_at_call 89;refine(Je_ c n _).mono ?_;rintro e w2 ⟨rfl,G2⟩))
  go_ret
  exact Aj_ Hx.out (Aa_ (by assumption) (by assumption))
 ·have hx:winV c n=n/c.Length:=by simp[winV,hc]
  have Hx:=hh_ hx
  have hl:1≤c.Length∧c.Length≤1048576:=by simp[cok,tok] at hc;omega
  have hn:0≤n∧n≤1099511627776:=by simp[cok,tok] at hc;omega
  clear hx;obtain⟨l0,l1⟩:=hl;obtain⟨n0,n1⟩:=hn
  go_enter func50,ntmps50
  go_wp2_with (first |(refine At_ rfl _ rfl c rfl ?_;intro w1 B1 G1 z1) |(refine An_ rfl _ rfl _ rfl c (by assumption) ?_) |(go_at_call 89;refine(Je_ c n _).mono ?_;rintro e w2 ⟨rfl,G2⟩;have hb2:=(BoxAt.same (by assumption) G2).cell))
  go_ret
  exact Aj_ Hx.out (Aa_ (by assumption) (by assumption))
theorem c9_ (w:World) (t:Int):RdL intF 1 (w.alloc (.cells #[.int .i64 t] 3)) (.slice (some ⟨w.heap.size,0,none⟩) 1 1) [t]:=
 OutAt.rd (w:=w.alloc (.cells (Cu_ [t]) 3)) (out:=[t]) (heap_alloc_new w _) (by simp)
theorem Kv_ {l:List Int} {k:Nat} (p:Int→Bool) (h:k<l.length) :(l.take (k+1)).all p =((l.take k).all p&&p l[k]):=by
 rw[tg_ h,List.all_append,List.all_cons,List.all_nil,Bool.and_true]
theorem Vp_ (c:Cfg) (v:Value) (l:List Int) (w:World) (h:RdL intF 1 w v l):Calls prog 69 #[c.val,v] w (Cm_ (l.all tok&&cok c) w):=by
 obtain⟨a,cap,rfl⟩:=h.shape;have hm:=h.2.1;have H:=hh_ h;clear h
 have e1 :(C7_ c==0)=cok c:=by unfold C7_;cases cok c <;> rfl
 have E1:=hh_ e1;clear e1
 go_enter func69,ntmps69
 go_wp2_with (first |(refine At_ rfl _ rfl c rfl ?_;intro w1 B1 G1 z1))
 go_loopw [9] (fun s9 wr=>∃k:Nat,k≤l.length∧s9=.int .i64 k∧(l.take k).all tok=true∧w.grownBy wr none∧BoxAt wr w.heap.size c) (fun s9 _=>l.length-(RowKit.intOf s9).toNat)
 case atStart=>exact⟨0,zl_ _,rfl,by simp,G1,B1⟩
 case round=>
  obtain⟨k,hk,rfl,hall,G2,B2⟩:=hrel
  by_cases hlt:k<l.length
  ·obtain⟨g,off,cap',hv,hgl,hc⟩:=H.out.cell Bc_ (by omega)
   cases hv
   have hcell:wr.cell? ⟨g,off+k,none⟩=some (.int .i64 l[k]):=by
    rw[(Am_ G2).1 _ _ hgl (by simp)]
    have:=hc k l[k] (gq_ hlt) 0 _ rfl
    simpa using this
   have hat:=Kv_ tok hlt;obtain⟨x,hx⟩:∃x,x=l[k]:=⟨_,rfl⟩;rw[←hx] at hat hcell;have Hx:=hh_ hx;have Hat:=hh_ hat;have Hall:=hh_ hall;clear hat hc hall hx
   by_cases h0:x<0
   ·have hf :(l.all tok&&cok c)=false:=by
     have ht:tok x=false:=df_ fun h=>by omega
     have:l.all tok=false:=by rw[List.all_eq_false];exact⟨x,by rw[Hx.out];exact mg_ hlt,by simp[ht]⟩
     rw[this];rfl
    have Hf:=hh_ hf;clear hf
    go_wp2_with fail
    go_ret
    exact Be_ Hf.out G2
   ·by_cases h1:1099511627776<x
    ·have hf :(l.all tok&&cok c)=false:=by
      have ht:tok x=false:=df_ fun h=>by omega
      have:l.all tok=false:=by rw[List.all_eq_false];exact⟨x,by rw[Hx.out];exact mg_ hlt,by simp[ht]⟩
      rw[this];rfl
     have Hf:=hh_ hf;have d0:decide (x<0)=false:=df_ h0;clear hf h0
     go_wp2_with fail
     go_ret
     exact Be_ Hf.out G2
    ·have d0:decide (x<0)=false:=df_ h0
     have d1:decide (1099511627776<x)=false:=df_ h1;have ht:tok x=true:=dt_ (by omega);have Ht:=hh_ ht;clear h0 h1 ht
     go_wp2_with fail
     exact⟨⟨k+1,by omega,by go_num,by rw[Hat.out,Hall.out,Ht.out];rfl,G2,B2⟩,by simp[RowKit.intOf];omega⟩
  ·have hl :(l.all tok&&cok c) =(C7_ c==0):=by
    rw[E1.out]
    have:l.take k=l:=tk_ (by omega)
    rw[this] at hall;rw[hall];rfl
   have Hl:=hh_ hl;clear hl hall
   go_wp2_with (first |(refine An_ rfl _ rfl _ rfl c (by assumption) ?_) |(go_at_call 104;refine(Yz_ c _).mono ?_;rintro e w3 ⟨rfl,G3⟩))
   go_ret
   exact Be_ Hl.out (Aa_ G2 G3)
theorem Si_ {c:Cfg} (h:cok c=true) :(1≤c.Length∧c.Length≤1048576)∧(0≤c.Lateness∧c.Lateness≤1048576)∧(1≤c.Windows∧c.Windows≤8):=by
 simp only[cok,decide_eq_true_eq] at h;omega
theorem tokV {n:Int} (h:tok n=true):0≤n∧n≤1099511627776:=by
 simpa [tok] using h
theorem g1_ (c:Cfg) (n:Int) (w:World):Calls prog 32 #[c.val,.int .i64 n] w (RetInt (winV c n) w):=by
 cases hc :(tok n&&cok c)
 ·have hx:winV c n=0:=by unfold winV;rw[Bool.and_comm,hc];rfl
  have Hx:=hh_ hx
  have hv :(([n]:List Int).all tok&&cok c)=false:=by simpa using hc
  have Hv:=hh_ hv;clear hx hc hv
  go_enter func32,ntmps32
  go_wp2_with (first |(refine At_ rfl _ rfl c rfl ?_;intro w1 B1 G1 z1) |(refine An_ rfl _ rfl _ rfl c (by assumption) ?_) |(go_at_call 69;refine(Vp_ c _ [n] _ (c9_ _ n)).mono ?_;rw[Hv.out];rintro e w2 ⟨rfl,G2⟩))
  go_ret
  exact Aj_ Hx.out (Aa_ G1 (Aa_ (ga_ _ _ _) G2))
 ·have hx:winV c n=n/c.Length:=by unfold winV;rw[Bool.and_comm,hc];rfl
  have Hx:=hh_ hx
  have hv :(([n]:List Int).all tok&&cok c)=true:=by simpa using hc
  have Hv:=hh_ hv;simp only[Bool.and_eq_true] at hc;obtain⟨⟨l0,l1⟩,_⟩:=Si_ hc.2;obtain⟨n0,n1⟩:=tokV hc.1;clear hx hc hv
  go_enter func32,ntmps32
  go_wp2_with (first |(refine At_ rfl _ rfl c rfl ?_;intro w1 B1 G1 z1) |(refine An_ rfl _ rfl _ rfl c (by assumption) ?_) |(go_at_call 69;refine(Vp_ c _ [n] _ (c9_ _ n)).mono ?_;rw[Hv.out];rintro e w2 ⟨rfl,G2⟩;have hb2:=((B1.same (ga_ _ _ _)).same G2).cell))
  go_ret
  exact Aj_ Hx.out (Aa_ G1 (Aa_ (ga_ _ _ _) G2))
theorem b3_ (c:Cfg) (n:Int) (w:World):Calls prog 54 #[c.val,.int .i64 n] w (RetInt (lowV c n) w):=by
 cases hc :(cok c&&tok n)
 ·have hx:lowV c n=0:=by unfold lowV;rw[hc];rfl
  have Hx:=hh_ hx;have Hc:=hh_ hc;clear hx hc
  go_enter func54,ntmps54
  go_wp2_with (first |(refine At_ rfl _ rfl c rfl ?_;intro w1 B1 G1 z1) |(refine An_ rfl _ rfl _ rfl c (by assumption) ?_) |(go_at_call 89;refine(Je_ c n _).mono ?_;rw[Hc.out];rintro e w2 ⟨rfl,G2⟩))
  go_ret
  exact Aj_ Hx.out (Aa_ G1 G2)
 ·have hx:lowV c n=max (n-c.Lateness) 0/c.Length:=by unfold lowV;rw[hc];rfl
  have Hc:=hh_ hc;simp only[Bool.and_eq_true] at hc;obtain⟨⟨l0,l1⟩,⟨l2,l3⟩,_⟩:=Si_ hc.1;obtain⟨n0,n1⟩:=tokV hc.2
  by_cases hl:n<c.Lateness
  ·have hx2:lowV c n=0:=by rw[hx,Int.max_eq_right (by omega)];simp
   have Hx:=hh_ hx2;have d1:decide (n<c.Lateness)=true:=dt_ hl;clear hx hx2 hc
   go_enter func54,ntmps54
   go_wp2_with (first |(refine At_ rfl _ rfl c rfl ?_;intro w1 B1 G1 z1) |(refine An_ rfl _ rfl _ rfl c (by assumption) ?_) |(go_at_call 89;refine(Je_ c n _).mono ?_;rw[Hc.out];rintro e w2 ⟨rfl,G2⟩;have hb2:=(B1.same G2).cell))
   go_ret
   exact Aj_ Hx.out (Aa_ G1 G2)
  ·have hx2:lowV c n =(n-c.Lateness)/c.Length:=by rw[hx,Int.max_eq_left (by omega)]
   have Hx:=hh_ hx2;have d1:decide (n<c.Lateness)=false:=df_ hl
   have hl':c.Lateness≤n:=by omega
   clear hx hx2 hc hl
   go_enter func54,ntmps54
   go_wp2_with (first |(refine At_ rfl _ rfl c rfl ?_;intro w1 B1 G1 z1) |(refine An_ rfl _ rfl _ rfl c (by assumption) ?_) |(go_at_call 89;refine(Je_ c n _).mono ?_;rw[Hc.out];rintro e w2 ⟨rfl,G2⟩;have hb2:=(B1.same G2).cell))
   go_ret
   exact Aj_ Hx.out (Aa_ G1 G2)
theorem eg_ (c:Cfg) (n:Int):0≤lowV c n∧lowV c n≤1099511627776:=by
 unfold lowV
 split
 ·rename_i h
  simp only[Bool.and_eq_true] at h;obtain⟨⟨l0,l1⟩,⟨l2,l3⟩,_⟩:=Si_ h.1;obtain⟨n0,n1⟩:=tokV h.2;have h1:max (n-c.Lateness) 0/c.Length≤max (n-c.Lateness) 0:=Int.ediv_le_self _ (by omega);exact⟨Int.ediv_nonneg (by omega) (by omega),by omega⟩
 ·omega
theorem Ks_ (c:Cfg) (n:Int):0≤winV c n∧winV c n≤1099511627776:=by
 unfold winV
 split
 ·rename_i h
  simp only[Bool.and_eq_true] at h;obtain⟨⟨l0,l1⟩,_⟩:=Si_ h.1;obtain⟨n0,n1⟩:=tokV h.2;have h1:n/c.Length≤n:=Int.ediv_le_self _ n0;exact⟨Int.ediv_nonneg n0 (by omega),by omega⟩
 ·omega
attribute [local go_sem ↓] Ag_
attribute [local go_sem] Ah_
theorem Vr_ {c:Cfg} {m t:Int} (h :(cok c&&tok m&&tok t)=false):verV c m t=0:=by unfold verV;rw[h];rfl
theorem Li_ {c:Cfg} {m t:Int} (h :(cok c&&tok m&&tok t)=true):verV c m t=if winV c t<lowV c m then 3 else if lowV c m+c.Windows≤winV c t then 4 else 0:=by unfold verV;rw[h];rfl
theorem Ml_ {c:Cfg} {m t:Int} (h :(cok c&&tok m&&tok t)=true) (h1:winV c t<lowV c m):verV c m t=3:=by rw[Li_ h,if_pos h1]
theorem S5_ {c:Cfg} {m t:Int} (h :(cok c&&tok m&&tok t)=true) (h1:¬winV c t<lowV c m) (h2:lowV c m+c.Windows≤winV c t):verV c m t=4:=by rw[Li_ h,if_neg h1,if_pos h2]
theorem fh_ {c:Cfg} {m t:Int} (h :(cok c&&tok m&&tok t)=true) (h1:¬winV c t<lowV c m) (h2:¬lowV c m+c.Windows≤winV c t):verV c m t=0:=by rw[Li_ h,if_neg h1,if_neg h2]
theorem h7_ (c:Cfg) (m n:Int) (w:World):Calls prog 85 #[c.val,.int .i64 m,.int .i64 n] w (RetInt (verV c m n) w):=by
 cases hc :(cok c&&tok n)
 ·have hx:verV c m n=0:=Vr_ (by cases h1:cok c <;> cases h2:tok n <;> simp_all)
  have Hx:=hh_ hx;have Hc:=hh_ hc;clear hx hc
  go_enter func85,ntmps85
  go_wp2_with (first |(refine At_ rfl _ rfl c rfl ?_;intro w1 B1 G1 z1) |(refine An_ rfl _ rfl _ rfl c (by assumption) ?_) |(go_at_call 89;refine(Je_ c n _).mono ?_;rw[Hc.out];rintro e w2 ⟨rfl,G2⟩))
  go_ret
  exact Aj_ Hx.out (Aa_ G1 G2)
 ·cases hd :(cok c&&tok m)
  ·have hx:verV c m n=0:=Vr_ (by rw[hd];rfl)
   have Hx:=hh_ hx;have Hc:=hh_ hc;have Hd:=hh_ hd;clear hx hc hd
   go_enter func85,ntmps85
   go_wp2_with (first |(refine At_ rfl _ rfl c rfl ?_;intro w1 B1 G1 z1) |(refine An_ rfl _ rfl _ rfl c (by assumption) ?_) |(refine Bd_ rfl _ rfl _ rfl c (by assumption) ?_) |(go_at_call_of 89 (Value.int IntKind.i64 n);refine(Je_ c n _).mono ?_;rw[Hc.out];rintro e w2 ⟨rfl,G2⟩;have B2:=B1.same G2;clear B1) |(go_at_call_of 89 (Value.int IntKind.i64 m);refine(Je_ c m _).mono ?_;rw[Hd.out];rintro e w3 ⟨rfl,G3⟩))
   go_ret
   exact Aj_ Hx.out (Aa_ G1 (Aa_ G2 G3))
  ·have hcc:cok c=true:=by simp only[Bool.and_eq_true] at hc;exact hc.1
   have hall :(cok c&&tok m&&tok n)=true:=by
    simp only[Bool.and_eq_true] at hc hd ⊢;exact⟨hd,hc.2⟩
   have Ha:=hh_ hall;have Hc:=hh_ hc;have Hd:=hh_ hd;obtain⟨b1,b2⟩:=eg_ c m;obtain⟨b3,b4⟩:=Ks_ c n;obtain⟨_,_,l0,l1⟩:=Si_ hcc;clear hc hd hcc hall
   go_enter func85,ntmps85
   go_upto_region 3 with(first |(refine At_ rfl _ rfl c rfl ?_;intro w1 B1 G1 z1) |(refine An_ rfl _ rfl _ rfl c (by assumption) ?_) |(refine Bd_ rfl _ rfl _ rfl c (by assumption) ?_) |(go_at_call_of 89 (Value.int IntKind.i64 n);refine(Je_ c n _).mono ?_;rw[Hc.out];rintro e w2 ⟨rfl,G2⟩;have B2:=B1.same G2;clear B1) |(go_at_call_of 89 (Value.int IntKind.i64 m);refine(Je_ c m _).mono ?_;rw[Hd.out];rintro e w3 ⟨rfl,G3⟩;have B3:=B2.same G3;clear B2;have G4:=Aa_ G1 (Aa_ G2 G3)))
   obtain⟨r1,r2,r3⟩:=B3.re
   have r4:=Bn_ (w:=w3) fun w' _=>b3_ c m w'
   have r5:=Bn_ (w:=w3) fun w' _=>Xw_ c n w'
   refine Tail.wp_region_tail_grown 8 (by kernel_rfl) (by kernel_rfl) ?_;simp only[List.take,List.drop]
   repeat(go_big_quiet_step (first |(with_reducible exact r4 _ _) |(with_reducible exact r5 _ _)))
   refine wn_ ?_;rintro _ ⟨⟨d5,os5⟩,rfl⟩;have B5:=(B3.same (A3_ w3 d5 os5)).cell;have G5:=Aa_ G4 (A3_ w3 d5 os5);clear r1 r2 r3 r4 r5;generalize Go.Sort.grow (redrawn w3 d5) os5=w5 at *
   by_cases h1:winV c n<lowV c m
   ·have Hy:=hh_ (Ml_ Ha.out h1)
    go_wp2_with fail
    go_ret
    exact Aj_ Hy.out G5
   ·have d1:decide (winV c n<lowV c m)=false:=df_ h1
    by_cases h2:lowV c m+c.Windows≤winV c n
    ·have Hy:=hh_ (S5_ Ha.out h1 h2)
     clear h1
     go_wp2_with fail
     go_ret
     exact Aj_ Hy.out G5
    ·have Hy:=hh_ (fh_ Ha.out h1 h2)
     have d2:decide (lowV c m+c.Windows≤winV c n)=false:=df_ h2;clear h2 h1
     go_wp2_with fail
     go_ret
     exact Aj_ Hy.out G5
end
section
open Go.RowKit Go.Sort
def inWin (c:Cfg) (win:Int) (x:ItR):Bool:=decide (0≤x.time)&&decide (x.time≤1099511627776)&&decide (winV c x.time=win)
def cntS (c:Cfg) (win:Int) (L:List KW) (x:ItR):List KW:=if inWin c win x=true then ctPut L x.key.data.toList x.weight else L
def cntL (c:Cfg) (win:Int) (l:List ItR):List KW:=l.foldl (cntS c win) []
theorem Hz_ (c:Cfg) (win:Int) (l:List ItR) (x:ItR):cntL c win (l++[x])=cntS c win (cntL c win l) x:=by simp[cntL]
theorem av_ {c:Cfg} {win:Int} {L:List KW} (h:AscB L) (x:ItR):AscB (cntS c win L x):=by
 unfold cntS;split
 ·exact Qf_ h
 ·exact h
theorem H1_ (P:List KW→Prop) (c:Cfg) (win:Int) (l:List ItR) (h0:P []) (h:∀L x,x∈l→P L→P (cntS c win L x)):P (cntL c win l):=by
 have key:∀k,k≤l.length→P (cntL c win (l.take k)):=by
  intro k
  induction k with
  | zero=>intro _;simpa [cntL] using h0
  | succ k ih=>
   intro hk;rw[tg_ (by omega),Hz_];exact h _ _ (mg_ _) (ih (by omega))
 have:=key l.length (le_ _)
 rwa [tk_ (le_ _)] at this
theorem Qy_ (c:Cfg) (win:Int) (l:List ItR):AscB (cntL c win l):=H1_ AscB c win l (by simp[AscB]) fun _ x _ h=>av_ h x
theorem Kp_ (c:Cfg) (win:Int) (l:List ItR) :(cntL c win l).length≤l.length:=by
 have key:∀k,k≤l.length→(cntL c win (l.take k)).length≤k:=by
  intro k
  induction k with
  | zero=>intro _;simp[cntL]
  | succ k ih=>
   intro hk;rw[tg_ (by omega),Hz_];have h1:=ih (by omega);unfold cntS;split
   ·have:=Nd_ (w:=(l[k]'(by omega)).key.data.toList) (n:=(l[k]'(by omega)).weight) (L:=cntL c win (l.take k))
    omega
   ·omega
 have:=key l.length (le_ _)
 rwa [tk_ (le_ _)] at this
theorem b2_ {w:Ap_}:∀{L:List KW},(∀p∈L,W64 p.2)→W64 (ctAt L w)
 | [],_=>by simp[ctAt,W64]
 | p::L,h=>by
  simp only[ctAt];split
  ·exact h p (by simp)
  ·exact b2_ fun q hq=>h q (List.mem_cons_of_mem p hq)
theorem Tx_ {w:Ap_} {n:Int} (hn:W64 n):∀{L:List KW},(∀p∈L,W64 p.2)→∀p∈ctPut L w n,W64 p.2
 | [],_=>by
  intro p hp;simp only[ctPut,List.mem_singleton] at hp;subst hp;exact Cr_ (by simp[W64]) hn
 | q::L,h=>by
  intro p hp;simp only[ctPut] at hp;have hq:=h q (by simp)
  have hL:∀p∈L,W64 p.2:=fun p hp=>h p (List.mem_cons_of_mem q hp)
  split at hp
  ·rcases List.mem_cons.1 hp with rfl|hp
   ·exact hq
   ·exact Tx_ hn hL p hp
  ·split at hp
   ·rcases List.mem_cons.1 hp with rfl|hp
    ·exact Cr_ hq hn
    ·exact hL p hp
   ·rcases List.mem_cons.1 hp with rfl|hp
    ·exact Cr_ (by simp[W64]) hn
    ·exact h p hp
theorem cf_ (c:Cfg) (win:Int) (l:List ItR) (h:∀x∈l,ItW x):∀p∈cntL c win l,W64 p.2:=H1_ (fun L=>∀p∈L,W64 p.2) c win l (by simp) fun L x hx hL=>by
 unfold cntS;split
 ·exact Tx_ (h x hx).weight hL
 ·exact hL
def kwLn (p:KW):Ln:=⟨⟨p.1.toArray⟩,p.2,p.2⟩
section
variable {L:List KW} {w:Ap_} {n:Int}
end
attribute [local go_sem ↓] Ag_
attribute [local go_sem] Ah_
end
section
open Go.RowKit Go.Maps
def agT (L:List KW):Int×Bool:=L.foldl (fun a p=>(satA a.1 p.2,a.2&&fitA a.1 p.2)) (0,true)
theorem Rd_ (L:List KW) (p:KW):agT (L++[p]) =(satA (agT L).1 p.2,(agT L).2&&fitA (agT L).1 p.2):=by simp[agT]
theorem hg_ {L:List KW} (h:∀p∈L,W64 p.2):W64 (agT L).1:=by
 have key:∀k,k≤L.length→W64 (agT (L.take k)).1:=by
  intro k
  induction k with
  | zero=>intro _;simp[agT,W64]
  | succ k ih=>
   intro hk;rw[tg_ (by omega),Rd_];exact Cr_ (ih (by omega)) (h _ (mg_ _))
 have:=key L.length (le_ _)
 rwa [tk_ (le_ _)] at this
def Iu_ (L:List KW) (w:Ap_):List KW:=L.filter fun p=>!decide (p.1=w)
theorem Zk_ {L:List KW} {w:Ap_} (h:AscB L):AscB (Iu_ L w):=List.Pairwise.sublist List.filter_sublist h
theorem Oc_ {w v:Ap_}:∀{L:List KW},ctHas (Iu_ L w) v =(!decide (v=w)&&ctHas L v)
 | []=>by simp[Iu_,ctHas]
 | p::L=>by
  have ih:=Oc_ (w:=w) (v:=v) (L:=L);unfold Iu_ at ih ⊢
  by_cases h:p.1=w
  ·rw[List.filter_cons_of_neg (by simp[h]),ih]
   simp only[ctHas]
   by_cases e:v=w
   ·simp[e]
   ·have:¬p.1=v:=fun e2=>e (e2.symm.trans h)
    simp[this]
  ·rw[List.filter_cons_of_pos (by simp[h])]
   simp only[ctHas,ih]
   by_cases e:v=w
   ·have:¬p.1=v:=fun e2=>h (e2.trans e)
    simp[e,show ¬p.1=w from h]
   ·simp[e]
theorem Lo_ {w v:Ap_}:∀{L:List KW},ctAt (Iu_ L w) v=if v=w then 0 else ctAt L v
 | []=>by simp[Iu_,ctAt]
 | p::L=>by
  have ih:=Lo_ (w:=w) (v:=v) (L:=L);unfold Iu_ at ih ⊢
  by_cases h:p.1=w
  ·rw[List.filter_cons_of_neg (by simp[h]),ih]
   simp only[ctAt]
   by_cases e:v=w
   ·simp[e]
   ·have:¬p.1=v:=fun e2=>e (e2.symm.trans h)
    simp[e,this]
  ·rw[List.filter_cons_of_pos (by simp[h])]
   simp only[ctAt,ih]
   by_cases e:v=w
   ·have:¬p.1=v:=fun e2=>h (e2.trans e)
    simp[e,show ¬p.1=w from h]
   ·simp[e]
def delAll (L:List KW) (ks:List Ap_):List KW:=ks.foldl Iu_ L
theorem P2_ (L:List KW) (ks:List Ap_) (w:Ap_):delAll L (ks++[w])=Iu_ (delAll L ks) w:=by simp[delAll]
theorem Sn_ {L:List KW} (h:AscB L):∀ks,AscB (delAll L ks):=by
 intro ks
 induction ks generalizing L with
 | nil=>exact h
 | cons k ks ih=>exact ih (Zk_ h)
theorem P6_ {L:List KW} {ks:List Ap_} {w:Ap_} (h:w∉ks):ctAt (delAll L ks) w=ctAt L w:=by
 induction ks generalizing L with
 | nil=>rfl
 | cons k ks ih=>
  have h1:w≠k:=fun e=>h (e▸List.mem_cons_self)
  show ctAt (delAll (Iu_ L k) ks) w=_
  rw[ih fun hm=>h (List.mem_cons_of_mem k hm),Lo_,if_neg h1]
theorem O3_:∀{L:List KW} {w:Ap_},ctHas L w=true→(w,ctAt L w)∈L
 | [],w,h=>by simp[ctHas] at h
 | p::L,w,h=>by
  simp only[ctAt]
  by_cases e:p.1=w
  ·rw[if_pos e,←e];simp
  ·rw[if_neg e]
   simp only[ctHas,df_ e,Bool.false_or] at h;exact List.mem_cons_of_mem p (O3_ h)
theorem Jn_ {p:KW} {v:Ap_}:∀{L:List KW},ctHas (L++[p]) v =(ctHas L v||decide (p.1=v))
 | []=>by simp[ctHas]
 | q::L=>by simp only[List.cons_append,ctHas,Jn_ (L:=L),Bool.or_assoc]
theorem Nc_ {p:KW} {v:Ap_}:∀{L:List KW},ctHas L p.1=false→ctAt (L++[p]) v=if v=p.1 then p.2 else ctAt L v
 | [],_=>by
  simp only[List.nil_append,ctAt]
  by_cases e:v=p.1
  ·rw[if_pos e.symm,if_pos e]
  ·rw[if_neg (fun e2=>e e2.symm),if_neg e]
 | q::L,h=>by
  simp only[ctHas,Bool.or_eq_false_iff,decide_eq_false_iff_not] at h;simp only[List.cons_append,ctAt,Nc_ h.2]
  by_cases e:q.1=v
  ·rw[if_pos e,if_pos e,if_neg]
   exact fun e2=>h.1 (e.trans e2)
  ·rw[if_neg e,if_neg e]
section
variable {H:Type} {D:DataW H} {L:List KW}
theorem CntD.snoc (h:CntD D L) (hD:IsMap D) {p:KW} (hp:ctHas L p.1=false) (hk:WideAt.IsKeyLit (.string p.1)):CntD (D.put (.string p.1) (.lit (.int .u64 p.2))) (L++[p]):=by
 constructor
 ·intro k
  rw[Jn_]
  by_cases e:k=p.1
  ·subst e;rw[has_put_same hD hk];simp
  ·rw[has_put_other (Go_ e),h.has];simp[show ¬p.1=k from fun e2=>e e2.symm]
 ·intro k
  rw[Nc_ hp]
  by_cases e:k=p.1
  ·subst e;rw[atKey_put_same hD hk,if_pos rfl]
  ·rw[atKey_put_other (Go_ e),h.at_,if_neg e]
theorem CntD.del (h:CntD D L) {w:Ap_}:CntD (D.del (.string w)) (Iu_ L w):=by
 constructor
 ·intro k
  rw[Oc_]
  by_cases e:k=w
  ·subst e;rw[has_del_same];simp
  ·rw[has_del_other (Go_ e),h.has];simp[e]
 ·intro k
  rw[Lo_]
  by_cases e:k=w
  ·subst e;rw[atKey_del_same,if_pos rfl]
  ·rw[atKey_del_other (Go_ e),h.at_,if_neg e]
end
theorem ez_ {L:List KW} {p:KW} (h:AscB (L++[p])):ctHas L p.1=false:=by
 cases hh:ctHas L p.1 with
 | false=>rfl
 | true=>
  have h1:=O3_ hh;have h2:=(List.pairwise_append.1 h).2.2 _ h1 p (by simp);exact absurd h2 (C3_ _)
def lineOff (L:List KW) (x:Ln):Bool:=!(decide (x.lo≤ctAt L x.key.data.toList)&&decide (ctAt L x.key.data.toList≤x.hi))
def agE (c:Cfg) (r:Rep) (l:List ItR):Int:=if auditE c r≠0 then auditE c r
 else if (agT (cntL c r.win l)).2=false∨(agT (cntL c r.win l)).1≠r.tot then 13
 else if r.lines.any (lineOff (cntL c r.win l))=true then 13
 else if (delAll (cntL c r.win l) (keysN r.lines)).any (fun p=>decide (r.rest<p.2))=true then 13 else 0
end
section
open Go.RowKit Go.Sort
theorem fi_ (a b:ByteArray) :(a.toList==b.toList)=decide (a=b):=by
 rw[ByteArray.toList_eq,ByteArray.toList_eq,Bool.eq_iff_iff];simp only[beq_iff_eq,decide_eq_true_eq]
 constructor
 ·intro h
  cases a;cases b;simp only[ByteArray.mk.injEq];exact Array.ext' h
 ·rintro rfl;rfl
end
section
open Go.RowKit Go.Maps Go.Sort Go.Shelf
def stF (s:Ap_):List Value:=[encStr s]
theorem fp_ (s:Ap_) :(stF s).length=1:=rfl
theorem ag_ (l:List Ap_):cellsOf stF l=l.map encStr:=by
 induction l with
 | nil=>rfl
 | cons x l ih=>simp only[cellsOf,List.flatMap_cons,List.map_cons] at *;rw[ih];rfl
theorem h6_ (m : Nat) : AnyZ.SortsIn prog Tryz.sortedS_ren Fence.wide m :=
  ⟨fun blk off cap ss W hH hblk hsz => callsIn_wide.2 (Tryz.slices_Sort_string blk off cap ss W hH hblk hsz),
   fun p cap W => callsIn_wide.2 (Tryz.slices_Sort_string_none p cap W)⟩
theorem Ib_ {a b:World} (h:Below a.heap.size a b):a.grownBy b none:=⟨h.os,h.tape,h.output,h.size,fun i hi _=>h.block i hi⟩
theorem CntD.sorted {H:Type} {D:DataW H} {L:List KW} (h:CntD D L) (hA:AscB L) {P:Program} {k:TypeId} {R:Value→Option (DataW H×List MemPlace)} {b n:Nat} (hown:w.ownsMap P k R b n D) (hk:P.underlying k=some .string) {ss:List Ap_} (hp:ss.Perm (strKeys D)) :
  ss.mergeSort (fun x y=>decide (x≤y))=L.map (·.1):=by
 have h2 :(L.map (·.1)).Perm (strKeys D):=Collected.perm (left:=fun _=>false) ⟨R2_ hA,fun x=>by rw[h.has,Ij_];simp⟩ hown (string_keyed hk) hk (fun _=>rfl);have h3 :(ss.mergeSort (fun x y=>decide (x≤y))).Perm (L.map (·.1)):=(List.mergeSort_perm _ _).trans (hp.trans h2.symm);refine List.Perm.eq_of_pairwise (le:=fun x y:Ap_=>decide (x≤y)=true) (fun a b _ _ h1 h2=>?_) (List.pairwise_mergeSort (fun a b c h1 h2=>?_) (fun a b=>?_) ss) (Op_ hA) h3
 ·simp only[decide_eq_true_eq] at h1 h2;exact List.le_antisymm h1 h2
 ·simp only[decide_eq_true_eq] at *;exact List.le_trans h1 h2
 ·simp only[Bool.or_eq_true,decide_eq_true_eq];exact List.le_total a b
theorem e5_ (mb:Nat) (W:World):Calls prog 34 #[.map (some mb)] W fun e w'=>
  e=.returned (.func (.func 72) #[] #[.pointer (some ⟨W.heap.size,0,none⟩)])∧w'=W.alloc (.cells #[.map (some mb)] 79):=
 (callsIn_wide (n:=5)).1 (AnyZ.keys_in Tryz.keysS Fence.wide 5 trivial rfl (some mb) W)
theorem Uq_ (g mb n:Nat) (D:DataW Unit) (L:List KW) (w:World) (hg:g<w.heap.size) (hc:w.cell? ⟨g,0,none⟩=some (.map (some mb))) (hown:w.ownsMap prog 9 (plainElem prog 22) mb n D) (hD:CntD D L) (hA:AscB L) (hn:n≤1000000000) :
  Calls prog 33 #[.func (.func 72) #[] #[.pointer (some ⟨g,0,none⟩)]] w (RetOwn stF 1 9 (L.map (·.1)) w):=by
 have HS:=hh_ fun(ss:List Ap_) (hp:ss.Perm (strKeys D))=>hD.sorted hA hown underlying9 hp
 have hsz:=hown.size_le
 have hmax:Maps.size D≤maxLen:=by unfold maxLen;omega
 have hbytes:Maps.size D*16≤140737488355328:=by omega
 have hseq:SeqGives Fence.wide 2 prog 72 #[.pointer (some ⟨g,0,none⟩)] encStr (fun ss=>ss.Perm (strKeys D)) (Maps.size D) w:=
  AnyZ.keys_gives (ρ:=Tryz.keysS_ren) { Tryz.keysS with } Fence.wide _ trivial rfl (by omega) g mb n D w hg hc hown
 have cS:=AnyZ.sorted_in Tryz.sortedS Fence.wide 5 trivial trivial trivial trivial rfl (by omega) (h6_ _) (enters_of func71 (by kernel_rfl) rfl) 72 #[.pointer (some ⟨g,0,none⟩)] trivial (enters_of func72 (by kernel_rfl) rfl) _ _ hmax hbytes _ hseq
 change CallsIn _ _ prog 33 _ _ _ at cS
 refine((callsIn_wide (n:=5)).1 cS).mono ?_;rintro e w' ⟨v,ss,rfl,hS,hrow,hnil,hb⟩;have hss:=HS.out ss hS;rw[hss] at hrow
 have hl:ss.length =(L.map (·.1)).length:=by rw[←hss,List.length_mergeSort]
 rw[hl] at hrow;refine⟨v,rfl,?_,Ib_ hb⟩;unfold Own;rw[ag_];exact hrow
end
section
open Go.RowKit Go.Sort Go.Maps Go.WideMaps
theorem strKeyed:Keyed prog 9:=string_keyed underlying9
theorem zeroU (w:World) :(zeroValue 22).run prog w=.ok (.int .u64 0) w:=by kernel_rfl
theorem Lv_:∀{L:List KW} {p:KW},AscB L→p∈L→ctAt L p.1=p.2
 | [],p,_,h=>by simp at h
 | q::L,p,hA,h=>by
  obtain⟨h1,h2⟩:=Hy_ hA;simp only[ctAt]
  rcases List.mem_cons.1 h with rfl|h
  ·rw[if_pos rfl]
  ·rw[if_neg (b_ne (h1 p h)),Lv_ h2 h]
theorem Rr_ (c:Cfg) (win:Int) (l:List ItR) {N:Nat} (h:∀x∈l,x.key.size≤N):∀p∈cntL c win l,p.1.length≤N:=H1_ (fun L=>∀p∈L,p.1.length≤N) c win l (by simp) fun L x hx hL=>by
 unfold cntS;split
 ·intro p hp
  rcases mem_ctPut hp with e|hp
  ·rw[e];exact(Array.length_toList (xs:=x.key.data)).symm▸h x hx
  ·exact hL p hp
 ·exact hL
attribute [local go_sem ↓] Ag_
attribute [local go_sem] Ah_
theorem af_ (c:Cfg) (win:Int) (v:Value) (l:List ItR) (w:World) (h:RdL itF 3 w v l) (hW:∀x∈l,ItW x) (hl:l.length≤1000000000) :
  Calls prog 13 #[c.val,.int .i64 win,v] w (RetOwn lnF 3 46 ((cntL c win l).map kwLn) w):=by
 obtain⟨a,cp,rfl⟩:=h.shape;have hm:=h.2.1;have H:=hh_ h;have HW:=hh_ hW;have HAsc:=hh_ (fun k=>Qy_ c win (l.take k));have HLen:=hh_ (fun k=>Kp_ c win (l.take k));have HCw:=hh_ (fun k=>cf_ c win (l.take k) fun x hx=>hW x (List.mem_of_mem_take hx));clear h hW;have hmm:=@run_makeMap prog
 go_enter func13,ntmps13
 go_upto_region 1 with(refine At_ rfl _ rfl c rfl ?_;intro w1 B1 G1 z1)
 go_upto_region 2 with fail
 have M2:=World.ownsMap_made w1 prog 9 (plainElem (H:=Unit) prog 22);have B2:=B1.same (ga_ w1 (.map #[] 0) none);have G2:=Ad_ G1 (.map #[] 0)
 have hmb:w1.heap.size<(w1.alloc (.map #[] 0)).heap.size:=by simp
 have hmw:w.heap.size<w1.heap.size:=z1;generalize w1.alloc _=w2 at *;generalize w1.heap.size=mb at *;have B2':=hh_ B2;have HG2:=hh_ G2;clear B1 G1 hmm B2 G2
 go_upto_region 3 with fail
 go_loopw [16] (fun s16 wk=>∃j:Nat,j≤l.length∧s16=.int .i64 j∧(∃D n,wk.ownsMap prog 9 (plainElem (H:=Unit) prog 22) mb n D∧n≤j∧CntD D (cntL c win (l.take j)))∧w2.grownBy wk (some mb)) (fun s16 _=>l.length-(RowKit.intOf s16).toNat)
 case atStart=>exact⟨0,zl_ _,rfl,⟨_,0,M2,le_ _,CntD.nil⟩,Ab_ _ _⟩
 case round=>
  clear M2;obtain⟨j,hj,rfl,⟨D,n,hM,hnj,hD⟩,hg⟩:=hrel
  by_cases hjl:j<l.length
  ·have hgw:=Af_ HG2.out hg (by omega)
   obtain⟨gx,ox,cx,hv,hgx,hcx⟩:=(RdL.same H.out hgw).at_ Ip_ hjl;cases hv;have c0:=hcx 0 _ rfl;have c1:=hcx 1 _ rfl;have c2:=hcx 2 _ rfl;rw[Nat.add_zero] at c0;have HT:=hh_ (show cntL c win (l.take (j+1))=cntS c win (cntL c win (l.take j)) l[j] by rw[tg_ hjl,Hz_]);have hwx:=HW.out _ (mg_ hjl);have hA:=HAsc.out j;have hCw:=HCw.out j;clear hcx;generalize cntL c win (l.take j)=L at *;generalize l[j]=it at *;have HS0:=hh_ (show inWin c win it=false→cntS c win L it=L from fun h=>by unfold cntS;rw[h];rfl);have HS1:=hh_ (show inWin c win it=true→cntS c win L it=ctPut L it.key.data.toList it.weight from fun h=>by unfold cntS;rw[h];rfl);have HIn:=hh_ (show inWin c win it =(decide (0≤it.time)&&decide (it.time≤1099511627776)&&decide (winV c it.time=win)) from rfl);generalize inWin c win it=iw at *
   go_upto_region 5 with fail
   have M3:=hM.alloc (.cells #[.string it.key,.int .i64 it.time,.int .u64 it.weight] 41);have A3:=Blk.new wr #[.string it.key,.int .i64 it.time,.int .u64 it.weight] 41;have G3:=Ad_ hg (.cells #[.string it.key,.int .i64 it.time,.int .u64 it.weight] 41);have hmk:=hM.lt;generalize wr.alloc _=w3 at *;generalize wr.heap.size=gk at *;have B3:=B2'.out.kept G3 (by simp;omega);clear hM hg hgw c0 c1 c2 hgx;have a3:=A3.cell
   have CW:=hh_ fun w'=>g1_ c it.time w'
   by_cases t0:0≤it.time
   case neg=>
    have HF:=hh_ (HT.out.trans (HS0.out (by rw[HIn.out,df_ t0];rfl)));have d0:decide (0≤it.time)=false:=df_ t0
    go_wp2_with fail
    exact⟨⟨j+1,by omega,by go_num,⟨D,n,M3,by omega,by rw[HF.out];exact hD⟩,G3⟩,by simp[RowKit.intOf];omega⟩
   have d0:decide (0≤it.time)=true:=dt_ t0
   by_cases t1:it.time≤1099511627776
   case neg=>
    have HF:=hh_ (HT.out.trans (HS0.out (by rw[HIn.out,df_ t1];simp)));have d1:decide (it.time≤1099511627776)=false:=df_ t1
    go_wp2_with fail
    exact⟨⟨j+1,by omega,by go_num,⟨D,n,M3,by omega,by rw[HF.out];exact hD⟩,G3⟩,by simp[RowKit.intOf];omega⟩
   have d1:decide (it.time≤1099511627776)=true:=dt_ t1
   by_cases t2:winV c it.time=win
   case neg=>
    have HF:=hh_ (HT.out.trans (HS0.out (by rw[HIn.out,df_ t2];simp)))
    have d2 :(winV c it.time != win)=true:=by simpa using t2
    have d3 :(winV c it.time==win)=false:=by simpa using t2
    generalize winV c it.time=q at *;clear HIn HS0 HS1
    go_wp2_with (first
     |(refine Bd_ rfl _ rfl _ rfl c (by assumption) ?_)
     |(go_at_call 32;refine(CW.out _).mono ?_;rintro e w4 ⟨rfl,g4⟩))
    exact⟨⟨j+1,by omega,by go_num,⟨D,n,M3.kept g4 (by simp),by omega,by rw[HF.out];exact hD⟩,Aa_ G3 (Ak_ g4 _)⟩,by simp[RowKit.intOf];omega⟩
   case pos=>
    have HF:=hh_ (HT.out.trans (HS1.out (by rw[HIn.out,d0,d1,dt_ t2];rfl)))
    have d2 :(winV c it.time != win)=false:=by simpa using t2
    have d3 :(winV c it.time==win)=true:=by simpa using t2
    generalize winV c it.time=qw at *;have hkey:=keyOf_string_mk underlying9 (s:=it.key) (by unfold maxLen;exact hwx.key);have HK:=hh_ (show WideAt.IsKeyLit (.string it.key.data.toList) from trivial)
    have hnm:n<maxLen:=by unfold maxLen;omega
    have hat:=hh_ (hD.at_ it.key.data.toList);have hq:W64 (ctAt L it.key.data.toList):=b2_ hCw;have hsw:=Cr_ hq hwx.weight;have hwf :(Lit.int .u64 (satA (ctAt L it.key.data.toList) it.weight)).wf=true:=WalkArith.wf_u64 (by unfold W64 at hsw;omega);have HP:=hh_ (p:=∀D',D'=D.put (.string it.key.data.toList) (.lit (.int .u64 (satA (ctAt L it.key.data.toList) it.weight)))→CntD D' (cntL c win (l.take (j+1)))) (fun D' e=>by rw[e,HF.out];exact hD.put hA M3.isMap HK.out);have Hwx:=hh_ hwx.weight;have Hq:=hh_ hq
    have CA:=hh_ fun w'=>E2_ (ctAt L it.key.data.toList) it.weight w' hq hwx.weight
    clear HIn HS0 HS1 HF HT hA hCw hwx hq hsw hD;generalize satA (ctAt L it.key.data.toList) it.weight=sa at *;generalize fitA (ctAt L it.key.data.toList) it.weight=fa at *;generalize ctAt L it.key.data.toList=qa at *
    go_upto_region 6 with(first
     |(refine Bd_ rfl _ rfl _ rfl c (by assumption) ?_)
     |(go_at_call 32;refine(CW.out _).mono ?_;rintro e w4 ⟨rfl,g4⟩))
    have M4:=M3.kept g4 (by simp);have A4:=A3.same g4;have G4:=Aa_ G3 (Ak_ g4 (some mb));clear M3 A3 a3 G3 g4 B3 CW d0 d1 d2 d3 t0 t1 t2;have Gd:w4.grownBy w4.drew none:=gw_
    (refine rz_ 13 #[false,false,false,false,false,false,false,false,false,false,false,false,true] (fun k _ w v w'=>match k with | 9=>v=.tuple #[.int .u64 sa,.bool fa]∧World.grownBy w w' none | _=>False) ?_;simp only[ts_])
    (refine tq_ 2 ?_;(repeat(go_big_quiet_step (fail)));refine wn_ ?_)
    (refine to_ ?_;intro y2 my2 dy2)
    clear dy2;have a2:=(A4.same (Aa_ Gd my2)).cell
    go_wp2_with fail
    refine⟨Ab_ _ _,?_⟩;clear a2
    (refine tq_ 2 ?_;(repeat(go_big_quiet_step (fail)));refine wn_ ?_)
    (refine to_ ?_;intro y5 my5 dy5)
    clear dy5;have a2:=(A4.same (Aa_ Gd my5)).cell
    go_wp2_with fail
    refine⟨Ab_ _ _,?_⟩;clear a2
    (refine to_ ?_;intro y6 my6 dy6)
    clear dy6;have M6:=M4.kept (Aa_ Gd my6) (by simp)
    go_wp2_with (at_lookup;refine wpList_lookup_own_int _ rfl _ _ 79 rfl 9 22 .u64 strKeyed underlying79 underlying22 (zeroU _) mb n D rfl M6 _ _ rfl hkey ?_;intro c hc hwc;rw[hat.out] at hc;cases hc;clear hwc)
    refine⟨Ab_ _ _,?_⟩;clear M6
    (refine tq_ 1 ?_;(repeat(go_big_quiet_step (fail)));refine wn_ ?_)
    (refine to_ ?_;intro y8 my8 dy8)
    clear dy8;have a2:=(A4.same (Aa_ Gd my8)).cell
    go_wp2_with fail
    refine⟨Ab_ _ _,?_⟩;clear a2
    (refine tc_ ?_;intro x9 mx9 dx9;refine⟨?_,?_⟩;· (unfold Rg.callSpec;go_simp;(refine(CA.out x9).mono ?_;rintro e w' ⟨rfl,rfl⟩;exact⟨_,rfl,rfl,Ab_ _ _⟩)))
    clear dx9;rintro v y ⟨rfl,g⟩;refine⟨g,?_⟩;clear g;simp only[pt_]
    (refine tq_ 3 ?_;(repeat(go_big_quiet_step (fail)));refine wn_ ?_)
    (refine Rg.tree_nil ?_;intro z mz dz cz)
    clear dz cz;have M5:=M4.kept (Aa_ Gd mz) (by simp)
    go_wp2_with (at_mapUpdate;refine wpList_mapUpdate_own _ rfl _ _ _ 79 rfl 9 22 strKeyed underlying79 _ mb n D rfl M5 hnm _ _ _ rfl rfl hkey _ [] (plainElem_int underlying22 hwf) ?_;intro w7 M7 g7)
    exact⟨⟨j+1,by omega,by go_num,⟨_,n+1,M7,by omega,HP.out _ rfl⟩,Aa_ (Aa_ G4 (Ak_ (Aa_ Gd mz) _)) g7⟩,by simp[RowKit.intOf];omega⟩
  ·have hke:l.take j=l:=tk_ (by omega)
   have hA:=HAsc.out j;rw[hke] at hD hA;have HWl:=hh_ (show(cntL c win l).length≤l.length from Kp_ c win l);have hgw:=hh_ (Af_ HG2.out hg (by omega));have HKs:=hh_ (Rr_ c win l (N:=9223372036854775807) fun x hx=>(HW.out x hx).key);generalize cntL c win l=L at *;have HM:=hh_ hM;have HD:=hh_ hD;have HA:=hh_ hA;have HB:=hh_ (Aa_ hg (ga_ wr (.cells #[.map (some mb)] 79) (some mb)));have hml:=hM.lt;have HC:=hh_ (show(wr.alloc (.cells #[.map (some mb)] 79)).cell? ⟨wr.heap.size,0,none⟩=some (.map (some mb)) by rw[(Blk.new wr #[.map (some mb)] 79).cell];rfl);have CS:=hh_ (Uq_ wr.heap.size mb n D L _ (by simp) HC.out (hM.alloc (.cells #[.map (some mb)] 79)) hD hA (by omega));clear hM hD hA hke hg
   go_upto_region 10 with(first
    |(go_at_call 34;refine(e5_ mb _).mono ?_;rintro e w3 ⟨rfl,rfl⟩)
    |(go_at_call 33;refine CS.out.mono ?_;rintro e w4 ⟨v4,rfl,o4,g4⟩;obtain⟨a4,c4,rfl⟩:=o4.shape))
   have M4:=hh_ ((HM.out.alloc (.cells #[.map (some mb)] 79)).kept g4 (by simp));have G4:=hh_ (Aa_ (Ad_ hgw.out (.cells #[.map (some mb)] 79)) g4);have hz4:=g4.size;have hz5:wr.heap.size<w4.heap.size:=ll_ (by simp) hz4;have HO:=hh_ o4
   have hLl :(L.map (·.1)).length=L.length:=by simp
   clear o4 g4 CS HB HC HM hz4
   go_loopw [54,10] (fun s54 s10 wk=>∃k:Nat,k≤L.length∧s54=.int .i64 k∧Own lnF 3 46 w4.heap.size wk s10 ((L.take k).map kwLn)∧w4.grownBy wk none) (fun s54 _ _=>L.length-(RowKit.intOf s54).toNat)
   case atStart=>exact⟨0,zl_ _,rfl,Own.nil _ _ _ _ _,Ab_ _ _⟩
   case round=>
    obtain⟨k,hk,rfl,hOk,hg⟩:=hrel
    by_cases hkl:k<L.length
    ·obtain⟨gx,ox,cx,hv,hgx,hcx⟩:=(RdL.same HO.out.rd hg).at_ fp_ (show k<(L.map (·.1)).length by omega)
     obtain⟨rfl,-,rfl⟩:a4=some ⟨gx,ox,none⟩∧(L.map (·.1)).length =(L.map (·.1)).length∧c4=cx:=by simpa only[Value.slice.injEq] using hv
     have c0:=hcx 0 _ rfl;rw[List.getElem_map,Nat.mul_one,Nat.add_zero] at c0;have M5:=M4.out.kept hg (by simp);have hat:=HD.out.at_ L[k].1;rw[Lv_ HA.out (mg_ hkl)] at hat;have hks:=HKs.out _ (mg_ hkl);have HT:=hh_ (show(L.take (k+1)).map kwLn =(L.take k).map kwLn++[kwLn L[k]] by rw[tg_ hkl,List.map_append];rfl)
     have hSl :((L.take k).map kwLn).length≤1000000000:=by rw[List.length_map,lk_];have:=HWl.out;omega
     obtain⟨S,hS⟩:∃S,(L.take k).map kwLn=S:=⟨_,rfl⟩;rw[hS] at hOk hSl HT;have Hk1:=hh_ (show k+1≤L.length from hkl);clear hcx hv hS;obtain⟨oa,oc,rfl⟩:=hOk.shape;generalize L[k]=p at *;obtain⟨kb,kn⟩:=p;have c0:wr.cell? ⟨gx,ox+k,none⟩=some (.string ⟨kb.toArray⟩):=c0;have Hat:=hh_ hat;have hkey:=keyOf_string_mk (P:=prog) underlying9 (s:=⟨kb.toArray⟩) (show kb.toArray.size≤_ by unfold maxLen;simpa using hks)
     have hb1 :(S.length+1)*32≤140737488355328:=by omega
     have hb2:S.length+1≤9223372036854775807:=by omega
     have hz:=hg.size;clear hat hks;have hk1:=Hk1.out;have hLb:=lt_ HWl.out hl
     go_wp2_with (first
      |(at_lookup;refine wpList_lookup_own_int _ rfl _ _ 79 rfl 9 22 .u64 strKeyed underlying79 underlying22 (zeroU _) mb n D rfl M5 _ _ rfl hkey ?_;intro c hc hwc;rw[Hat.out] at hc;cases hc;clear hwc)
      |(at_builtin;refine A9_ J0_ Ki_ Ay_ hOk (kwLn (kb,kn)) hb1 hb2 hz (by rfl) ?_;intro v7 w7 o7 g7 l7))
     exact⟨⟨k+1,hk1,by go_num,by rw[HT.out];exact o7,Aq_ hg hOk (le_ _) g7⟩,by simp[RowKit.intOf];omega⟩
    ·have hke:L.take k=L:=tk_ (by omega)
     rw[hke] at hOk;generalize L.map kwLn=S at *;obtain⟨oa,oc,rfl⟩:=hOk.shape
     go_wp2_with fail
     go_ret
     have hzz:=G4.out.size;exact⟨_,rfl,hOk.base (fun q hq=>lt_ hzz (hOk.lt q hq).1),Aa_ G4.out hg⟩
end
section
open Go.RowKit Go.Sort Go.Maps Go.WideMaps
theorem fk_ (lo hi n:Int) (w:World):Calls prog 29 #[bndV lo hi,.int .u64 n] w (Cm_ (decide (lo≤n)&&decide (n≤hi)) w):=by
 have HB:=hh_ (show(decide (lo≤n)&&decide (n≤hi)) =(decide (lo≤n)&&decide (n≤hi)) from rfl);generalize hb :(decide (lo≤n)&&decide (n≤hi))=bb at *;have HB:=hh_ hb;clear hb
 by_cases h1:lo≤n
 ·by_cases h2:n≤hi
  ·have d1:decide (lo≤n)=true:=dt_ h1
   have d2:decide (n≤hi)=true:=dt_ h2;have HF:=hh_ (show true=bb by rw[←HB.out,d1,d2];rfl)
   go_enter func29,ntmps29
   go_wp2_with fail
   go_ret
   exact Be_ HF.out.symm gw_
  ·have d1:decide (lo≤n)=true:=dt_ h1
   have d2:decide (n≤hi)=false:=df_ h2;have HF:=hh_ (show false=bb by rw[←HB.out,d1,d2];rfl)
   go_enter func29,ntmps29
   go_wp2_with fail
   go_ret
   exact Be_ HF.out.symm gw_
 ·have d1:decide (lo≤n)=false:=df_ h1
  have HF:=hh_ (show false=bb by rw[←HB.out,d1];rfl)
  go_enter func29,ntmps29
  go_wp2_with fail
  go_ret
  exact Be_ HF.out.symm gw_
attribute [local go_sem ↓] Ag_
attribute [local go_sem] Ah_
theorem M7_ (c:Cfg) (r:Rep) (v:Value) (l:List ItR) (w:World) (hR:RepRd w r) (hW:RepW r) (h:RdL itF 3 w v l) (hI:∀x∈l,ItW x) (hl:l.length≤1000000000) :
  Calls prog 11 #[c.val,repV r.win r.tot r.vl r.over r.trk r.rest r.vr,v] w (RetInt (agE c r l) w):=by
 have HA:=hh_ (show agE c r l=if auditE c r≠0 then auditE c r
 else if (agT (cntL c r.win l)).2=false∨(agT (cntL c r.win l)).1≠r.tot then 13
 else if r.lines.any (lineOff (cntL c r.win l))=true then 13
 else if (delAll (cntL c r.win l) (keysN r.lines)).any (fun p=>decide (r.rest<p.2))=true then 13 else 0 from rfl)
 have HR:=hh_ hR;have HW:=hh_ hW;obtain⟨a,cp,rfl⟩:=h.shape;have H:=hh_ h;obtain⟨la,lc,e1⟩:=hR.lines.shape;obtain⟨ra,rc,e2⟩:=hR.rej.shape;have hlm:=hR.lines.2.1
 have CR:=hh_ fun w' (h:w.grownBy w' none)=>Fq_ c r w' (hR.same h) hW
 have CC:=hh_ fun w' (g:w.grownBy w' none)=>af_ c r.win (.slice a l.length cp) l w' (h.same g) hI hl
 have hLl:=hh_ (Kp_ c r.win l);have HAs:=hh_ (Qy_ c r.win l);have HLw:=hh_ (cf_ c r.win l hI);have HLk:=hh_ (Rr_ c r.win l (N:=9223372036854775807) fun x hx=>(hI x hx).key);rw[e1,e2] at CR ⊢;have E1:=hh_ e1;clear hR e1 e2 h hI;generalize agE c r l=AE at *;have hmm:=@run_makeMap prog
 go_enter func11,ntmps11
 go_upto_region 1 with(refine At_ rfl _ rfl c rfl ?_;intro w1 B1 G1 z1)
 have D2:=Blk.new w1 (repA r.win r.tot (.slice la r.lines.length lc) r.over r.trk r.rest (.slice ra r.rej.length rc)) 26;have B2:=B1.same (ga_ w1 (.cells #[.int .i64 r.win,.int .u64 r.tot,.slice la r.lines.length lc,.int .u64 r.over,.int .i64 r.trk,.int .u64 r.rest,.slice ra r.rej.length rc] 26) none);have G2:=Ad_ G1 (.cells #[.int .i64 r.win,.int .u64 r.tot,.slice la r.lines.length lc,.int .u64 r.over,.int .i64 r.trk,.int .u64 r.rest,.slice ra r.rej.length rc] 26);generalize w1.alloc _=w2 at *;generalize w1.heap.size=rb at *;clear B1 G1;have C2:=hh_ (CR.out w2 G2)
 by_cases hE:auditE c r=0
 case neg=>
  have HF:=hh_ (HA.out.trans (if_pos hE));generalize auditE c r=E at *
  have he2 :(E != 0)=true:=by simpa using hE
  have he3 :(E==0)=false:=by simpa using hE
  clear hE HA
  go_wp2_with (first
   |(refine An_ rfl _ rfl _ rfl c (by assumption) ?_)
   |(refine A2_ rfl _ rfl _ rfl D2 ?_)
   |(go_at_call 8;refine C2.out.mono ?_;rintro e w3 ⟨rfl,g3⟩))
  go_ret
  exact Aj_ HF.out (Aa_ G2 g3)
 case pos=>
  have HF:=hh_ (HA.out.trans (if_neg (by omega)))
  have OK:=hh_ (p:=Zp_ r) (by
   refine Vm_ (Decidable.byContradiction fun h=>?_);unfold auditE at hE;rw[if_pos h] at hE
   exact h hE)
  rw[hE] at C2;clear HA hE;generalize cntL c r.win l=L at *
  go_upto_region 4 with(first
   |(refine An_ rfl _ rfl _ rfl c (by assumption) ?_)
   |(refine A2_ rfl _ rfl _ rfl D2 ?_)
   |(go_at_call 8;refine C2.out.mono ?_;rintro e w3 ⟨rfl,g3⟩))
  have D3:=D2.same g3;have B3:=B2.same g3;have G3:=Aa_ G2 g3;clear D2 B2 G2 g3 C2
  go_upto_region 5 with fail
  have M4:=World.ownsMap_made w3 prog 9 (plainElem (H:=Unit) prog 22);have D4:=D3.same (ga_ w3 (.map #[] 0) none);have B4:=B3.same (ga_ w3 (.map #[] 0) none);have G4:=Ad_ G3 (.map #[] 0);have hmw:w.heap.size≤w3.heap.size:=G3.size;have hrm:=D3.lt;have hbm:=B3.lt;generalize w3.alloc _=w4 at *;generalize w3.heap.size=mb at *;clear D3 B3 G3 hmm;have d4:=D4.cell;have C4:=hh_ (CC.out w4 G4)
  go_upto_region 7 with(first
   |(refine An_ rfl _ rfl _ rfl c (by assumption) ?_)
   |(go_at_call 13;refine C4.out.mono ?_;rintro e w5 ⟨v5,rfl,o5,g5⟩;obtain⟨a5,c5,rfl⟩:=o5.shape))
  have M5:=M4.kept g5 (by simp);have HD5:=hh_ (D4.same g5);have HG5:=hh_ (Aa_ G4 g5);have hmb4:=M4.lt;have HO:=hh_ o5;clear M4 D4 B4 G4 d4 C4 o5 g5
  go_loopw [31,9,10] (fun s31 s9 s10 wk=>∃k:Nat,k≤L.length∧s31=.int .i64 k∧s9=.int .u64 (agT (L.take k)).1∧s10=.bool (agT (L.take k)).2∧(∃D n,wk.ownsMap prog 9 (plainElem (H:=Unit) prog 22) mb n D∧n≤k∧CntD D (L.take k))∧w5.grownBy wk (some mb)) (fun s31 _ _ _=>L.length-(RowKit.intOf s31).toNat)
  case atStart=>exact⟨0,zl_ _,rfl,rfl,rfl,⟨_,0,M5,le_ _,CntD.nil⟩,Ab_ _ _⟩
  case round=>
   clear M5;obtain⟨k,hk,rfl,rfl,rfl,⟨D,n,hM,hn,hD⟩,hg⟩:=hrel;have hLb:=lt_ hLl.out hl
   by_cases hkl:k<L.length
   ·have O6:=HO.out.kept hg (fun q hq e=>by cases e;have:=(HO.out.lt _ hq).1;omega)
    obtain⟨gx,ox,cx,hv,hgx,hcx⟩:=O6.rd.at_ Ay_ (show k<(L.map kwLn).length by rw[List.length_map];exact hkl)
    obtain⟨rfl,-,rfl⟩:a5=some ⟨gx,ox,none⟩∧(L.map kwLn).length =(L.map kwLn).length∧c5=cx:=by simpa only[Value.slice.injEq] using hv
    have hTk:L.take (k+1)=L.take k++[L[k]]:=tg_ hkl;have HT:=hh_ (show agT (L.take (k+1)) =(satA (agT (L.take k)).1 L[k].2,(agT (L.take k)).2&&fitA (agT (L.take k)).1 L[k].2) by rw[hTk,Rd_]);have hTw:W64 (agT (L.take k)).1:=hg_ (fun p hp=>HLw.out p (List.mem_of_mem_take hp));have hnw:=HLw.out _ (mg_ hkl);have hkw:=HLk.out _ (mg_ hkl);have hnew:ctHas (L.take k) L[k].1=false:=ez_ (by rw[←hTk];exact List.Pairwise.sublist (List.take_sublist _ _) HAs.out);have HP:=hh_ (p:=∀D',D'=D.put (.string L[k].1) (.lit (.int .u64 L[k].2))→CntD D' (L.take (k+1))) (fun D' e=>by rw[e,hTk];exact hD.snoc hM.isMap hnew trivial)
    have c0:wr.cell? ⟨gx,ox+k*3,none⟩=some (.string ⟨L[k].1.toArray⟩):=by have:=hcx 0 _ rfl;rw[List.getElem_map,Nat.add_zero] at this;exact this
    have c1:wr.cell? ⟨gx,ox+k*3+1,none⟩=some (.int .u64 L[k].2):=by have:=hcx 1 _ rfl;rw[List.getElem_map] at this;exact this
    have c2:wr.cell? ⟨gx,ox+k*3+2,none⟩=some (.int .u64 L[k].2):=by have:=hcx 2 _ rfl;rw[List.getElem_map] at this;exact this
    have Hk1:=hh_ (show k+1≤L.length from hkl);clear hcx hv O6 hnew hD hTk;generalize agT (L.take k)=TE at *;obtain⟨T,e⟩:=TE;generalize L[k]=p at *;obtain⟨kb,kn⟩:=p;dsimp only at *;have hkey:=keyOf_string_mk (P:=prog) underlying9 (s:=⟨kb.toArray⟩) (show kb.toArray.size≤_ by unfold maxLen;simpa using hkw)
    have CA:=hh_ fun w'=>E2_ T kn w' hTw hnw
    have hwf :(Lit.int .u64 kn).wf=true:=WalkArith.wf_u64 (by unfold W64 at hnw;omega)
    have hnm:n<maxLen:=by unfold maxLen;omega
    have M6:=hM.alloc (.cells #[.string ⟨kb.toArray⟩,.int .u64 kn,.int .u64 kn] 46);have A6:=Blk.new wr #[.string ⟨kb.toArray⟩,.int .u64 kn,.int .u64 kn] 46;have G6:=Ad_ hg (.cells #[.string ⟨kb.toArray⟩,.int .u64 kn,.int .u64 kn] 46);clear hTw hnw hkw hM hg
    go_upto_region 9 with fail
    generalize wr.alloc _=w6 at *;generalize wr.heap.size=gk at *;have a6:=A6.cell;generalize satA T kn=T2 at *;generalize fitA T kn=f2 at *;clear c0 c1 c2;have hk1:=Hk1.out;cases e
    all_goals
     go_wp2_with (first
      |(go_at_call 28;refine(CA.out _).mono ?_;rintro e w' ⟨rfl,hw'⟩;subst w')
      |(at_mapUpdate;refine wpList_mapUpdate_own _ rfl _ _ _ 79 rfl 9 22 strKeyed underlying79 _ mb n D rfl M6 hnm _ _ _ rfl rfl hkey _ [] (plainElem_int underlying22 hwf) ?_;intro w7 M7 g7))
     exact⟨⟨k+1,hk1,by go_num,by rw[HT.out],by rw[HT.out];rfl,⟨_,n+1,M7,by omega,HP.out _ rfl⟩,Aa_ G6 g7⟩,by simp[RowKit.intOf];omega⟩
   ·have hke:L.take k=L:=tk_ (by omega)
    rw[hke] at hD ⊢;have hgw:=Af_ HG5.out hg hmw;have D6:=HD5.out.kept hg (by simp;omega);have d6:=D6.cell;have HTw:=hh_ (hg_ HLw.out);generalize agT L=TE at *;obtain⟨T,e⟩:=TE;dsimp only at *
    cases e with
    | false=>
     have HF2:=hh_ (HF.out.trans (if_pos (.inl rfl)))
     go_wp2_with fail
     go_ret
     exact Aj_ HF2.out hgw
    | true=>
     by_cases hT:T=r.tot
     case neg=>
      have HF2:=hh_ (HF.out.trans (if_pos (.inr hT)))
      have t1 :(T != r.tot)=true:=by simpa using hT
      have t2 :(T==r.tot)=false:=by simpa using hT
      go_wp2_with fail
      go_ret
      exact Aj_ HF2.out hgw
     case pos=>
      have HF2:=hh_ (HF.out.trans (if_neg (by simp[hT])))
      have t1 :(T != r.tot)=false:=by simpa using hT
      have t2 :(T==r.tot)=true:=by simpa using hT
      clear HF
      go_upto_region 16 with fail
      clear t1 t2 hT HTw hke hkl d6 D6;have HM:=hh_ hM;have HD:=hh_ hD;have HG:=hh_ hg;clear hM hD hg hgw
      go_loopw [63] (fun s63 wk=>∃k:Nat,k≤r.lines.length∧s63=.int .i64 k∧(∀i (hi:i<r.lines.length),i<k→lineOff L r.lines[i]=false)∧(∃D,wk.ownsMap prog 9 (plainElem (H:=Unit) prog 22) mb n D∧CntD D (delAll L (keysN (r.lines.take k))))∧w5.grownBy wk (some mb)) (fun s63 _=>r.lines.length-(RowKit.intOf s63).toNat)
      case atStart=>exact⟨0,zl_ _,rfl,by intro i hi h;omega,⟨D,HM.out,HD.out⟩,HG.out⟩
      case round=>
       clear HM HD HG;obtain⟨k,hk,rfl,hall,⟨D,hM,hD⟩,hg⟩:=hrel;have Hall:=hh_ hall;clear hall;have HGw:=hh_ (Af_ HG5.out hg hmw)
       by_cases hlt:k<r.lines.length
       ·obtain⟨g,off,cap,hv,hgl,hc⟩:=(HR.out.lines.same HGw.out).at_ Ay_ hlt
        rw[E1.out] at hv;cases hv;have c0:=hc 0 _ rfl;have c1:=hc 1 _ rfl;have c2:=hc 2 _ rfl;rw[Nat.add_zero] at c0;obtain⟨-,hks,-,-⟩:=OK.out.ln hlt
        have hnot:r.lines[k].key.data.toList∉keysN (r.lines.take k):=by
         have h1:=OK.out.keys
         have h2 :(keysN (r.lines.take (k+1))).Nodup:=by
          unfold keysN at h1 ⊢;rw[List.map_take];exact List.Nodup.sublist (List.take_sublist _ _) h1
         rw[Eu_ hlt,List.nodup_append] at h2
         exact fun hm=>h2.2.2 _ hm _ (by simp) rfl
        have hat:=hh_ (hD.at_ r.lines[k].key.data.toList);rw[P6_ hnot] at hat;have HDl:=hh_ (p:=CntD (D.del (.string r.lines[k].key.data.toList)) (delAll L (keysN (r.lines.take (k+1))))) (by rw[Eu_ hlt,P2_];exact hD.del);have HY:=hh_ (p:=lineOff L r.lines[k]=true→AE=13) (fun h=>HF2.out.trans (if_pos (List.any_eq_true.2 ⟨_,mg_ hlt,h⟩)))
        have HN:=hh_ (p:=lineOff L r.lines[k]=false→∀i (hi:i<r.lines.length),i<k+1→lineOff L r.lines[i]=false) (fun h i hi hik=>by
         rcases Nat.lt_or_ge i k with h1|h1
         ·exact Hall.out i hi h1
         ·obtain rfl:i=k:=by omega
          exact h)
        have HBl:=hh_ (show lineOff L r.lines[k]=!(decide (r.lines[k].lo≤ctAt L r.lines[k].key.data.toList)&&decide (ctAt L r.lines[k].key.data.toList≤r.lines[k].hi)) from rfl)
        have CB:=hh_ fun w'=>fk_ r.lines[k].lo r.lines[k].hi (ctAt L r.lines[k].key.data.toList) w'
        clear hc hnot hD;generalize lineOff L r.lines[k]=bl at *;generalize (decide (r.lines[k].lo≤ctAt L r.lines[k].key.data.toList)&&decide (ctAt L r.lines[k].key.data.toList≤r.lines[k].hi))=bb at *;generalize r.lines[k]=x at *;generalize ctAt L x.key.data.toList=q at *;have hkey:=keyOf_string_mk (P:=prog) underlying9 (s:=x.key) (by unfold maxLen;omega);have M6:=hM.alloc (.cells #[.string x.key,.int .u64 x.lo,.int .u64 x.hi] 46);have A6:=Blk.new wr #[.string x.key,.int .u64 x.lo,.int .u64 x.hi] 46;have G6:=Ad_ hg (.cells #[.string x.key,.int .u64 x.lo,.int .u64 x.hi] 46);have GW6:=Ad_ HGw.out (.cells #[.string x.key,.int .u64 x.lo,.int .u64 x.hi] 46);clear hM hg
        go_upto_region 18 with fail
        generalize wr.alloc _=w6 at *;generalize wr.heap.size=gk at *;have a6:=A6.cell;clear c0 c1 c2
        cases bb with
        | false=>
         have HQ:=hh_ (HY.out (by rw[HBl.out];rfl))
         go_wp2_with (first
          |(at_lookup;refine wpList_lookup_own_int _ rfl _ _ 79 rfl 9 22 .u64 strKeyed underlying79 underlying22 (zeroU _) mb n D rfl M6 _ _ rfl hkey ?_;intro c hc hwc;rw[hat.out] at hc;cases hc;clear hwc)
          |(go_at_call 29;refine(CB.out _).mono ?_;rintro e w8 ⟨rfl,g8⟩))
         go_ret
         exact Aj_ HQ.out (Aa_ GW6 g8)
        | true=>
         have HQ:=hh_ (HN.out (by rw[HBl.out];rfl))
         go_wp2_with (first
          |(at_lookup;refine wpList_lookup_own_int _ rfl _ _ 79 rfl 9 22 .u64 strKeyed underlying79 underlying22 (zeroU _) mb n D rfl M6 _ _ rfl hkey ?_;intro c hc hwc;rw[hat.out] at hc;cases hc;clear hwc)
          |(go_at_call 29;refine(CB.out _).mono ?_;rintro e w8 ⟨rfl,g8⟩;have M8:=M6.kept g8 (by simp);have a8:=(A6.same g8).cell)
          |(at_delete;refine wpList_delete_own _ rfl _ _ 79 9 rfl 22 strKeyed underlying79 _ mb n D rfl M8 _ _ rfl hkey ?_;intro w9 M9 t9))
         exact⟨⟨k+1,by omega,by go_num,HQ.out,⟨_,M9,HDl.out⟩,Aa_ G6 (Aa_ (Ak_ g8 _) t9.grown)⟩,by simp[RowKit.intOf];omega⟩
       ·have hke:r.lines.take k=r.lines:=tk_ (by omega)
        rw[hke] at hD
        have HF3:=hh_ (HF2.out.trans (if_neg (by
         rw[Bool.not_eq_true,List.any_eq_false];intro x hx;obtain⟨i,hi,rfl⟩:=List.getElem_of_mem hx
         simp[Hall.out i hi (by omega)])))
        clear HF2 Hall hke;have HLA:=hh_ (Sn_ HAs.out (keysN r.lines));generalize delAll L (keysN r.lines)=Lr at *;have D6:=HD5.out.kept hg (by simp;omega);have HHas:=hh_ hD.has;have HAt:=hh_ hD.at_;have hrest:=HW.out.rest;clear hD
        go_upto_region 23 with(at_range;refine wpList_range_own _ rfl _ 79 rfl 9 22 strKeyed underlying79 _ mb n D rfl hM ?_;intro w6 hrg6 hg6 hs6)
        have D7:=hh_ (D6.same hg6);have HGw6:=hh_ (Aa_ HGw.out hg6);have hrb:=D6.lt;have hib:=HGw.out.size;generalize wr.heap.size=ib at *;clear D6 hg hM
        go_frame
        go_loopw [17] (fun _ wk=>∃left cnt,wk.ranges prog 9 (plainElem (H:=Unit) prog 22) mb ib n D left cnt∧(∀p∈Lr,left (.string p.1)=false→p.2≤r.rest)∧w6.grownBy wk (some ib)) (fun _ wk=>wk.rangeLeft mb ib)
        case atStart=>
         refine⟨_,_,hrg6,fun p hp h=>?_,Ab_ _ _⟩;rw[HHas.out] at h
         have:ctHas Lr p.1=true:=Ij_.2 (List.mem_map.2 ⟨p,hp,rfl⟩)
         rw[this] at h;cases h
        case round=>
         clear hrg6;obtain⟨left,cnt,hrg,hseen,hg⟩:=hrel;have Hs:=hh_ hseen;clear hseen
         go_wp2_with (at_next;refine wpList_next_ranges _ rfl _ rfl 9 strKeyed (plainElem (H:=Unit) prog 22) Value.string (Value.int .u64) (fun key kl hk=>by obtain⟨s,rfl,_,_⟩:=string_of_keyOf underlying9 hk;exact⟨s,rfl⟩) (fun v y hv=>by obtain⟨c,rfl,_⟩:=plainElem_int_inv underlying22 hv;exact⟨c,rfl⟩) mb ib n _ _ _ rfl hrg ?_ ?_)
         ·intro hc0 hl0
          have HF4:=hh_ (HF3.out.trans (if_neg (by
           rw[Bool.not_eq_true,List.any_eq_false];intro p hp
           have:=Hs.out p hp (hl0 _)
           simp;omega)))
          go_wp2_with fail
          go_ret
          exact Aj_ HF4.out (Af_ HGw6.out hg hib)
         ·intro x cc kl yd yp w7 cnt2 hkey hlk hv hat hrg2 hlt hg2 hs2 hen
          obtain⟨s,es,rfl,hsz⟩:=string_of_keyOf underlying9 hkey;cases es;obtain⟨c2,ec,ey,hwc⟩:=plainElem_int_inv underlying22 hv;cases ec;cases ey;have h0:=HAt.out x.data.toList;rw[hat] at h0
          have hcc:cc=ctAt Lr x.data.toList:=by cases h0;rfl
          have D8:=(D7.out.kept hg (by simp;omega)).kept hg2 (by simp;omega);have d8:=D8.cell
          by_cases hbig:r.rest<cc
          ·have HF4:=hh_ (p:=AE=13) (HF3.out.trans (if_pos (by
            cases hh:ctHas Lr x.data.toList with
            | false=>rw[Oj_ hh] at hcc;unfold W64 at hrest;omega
            | true=>exact List.any_eq_true.2 ⟨_,O3_ hh,by simp;omega⟩)))
           have hb1:decide (r.rest<cc)=true:=dt_ hbig;clear hcc h0 hat hv hkey
           go_wp2_with fail
           go_ret
           exact Aj_ HF4.out (Af_ (Af_ HGw6.out hg hib) hg2 (lt_ hib (by omega)))
          ·have hb1:decide (r.rest<cc)=false:=df_ hbig
           have HN:=hh_ (p:=∀p∈Lr,(left (.string p.1)&&!(Lit.string p.1).sameKey (.string x.data.toList))=false→p.2≤r.rest) (fun p hp h=>by
            cases hl:left (.string p.1) with
            | false=>exact Hs.out p hp hl
            | true=>
             rw[hl] at h
             have e:p.1=x.data.toList:=by simpa [Lit.sameKey] using h
             have:=Lv_ HLA.out hp
             rw[e,←hcc] at this
             omega)
           clear hcc h0 hat hv hkey
           go_wp2_with fail
           exact⟨⟨_,_,hrg2,HN.out,Aa_ hg hg2⟩,by rw[hrg2.left_eq,hrg.left_eq];exact hlt⟩
end
end Go.Proofs.YtckmgjmeanloaaaGreat
