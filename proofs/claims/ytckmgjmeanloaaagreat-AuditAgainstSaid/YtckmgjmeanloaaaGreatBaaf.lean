/- Several texts in one file: contracts of functions of the given program, and plain laws, for the proof of a statement. -/
import Derived.Test.YtckmgjmeanloaaaGreatBaae
set_option maxHeartbeats 8000000
set_option maxRecDepth 100000
namespace Go.Proofs.YtckmgjmeanloaaaGreat
open Go.Proofs.Tryz
section
open Go.RowKit Go.Sort
theorem I7_ {w:Ap_}:∀{L:List KW} {k:Nat} (hk:k<L.length),(∀i (hi:i<k),L[i].1≠w)→L[k].1=w→ctAt L w=L[k].2
 | [],k,hk,_,_=>by simp at hk
 | p::L,0,_,_,e=>by simp only[List.getElem_cons_zero] at e ⊢;simp[ctAt,e]
 | p::L,k+1,hk,h,e=>by
  have h0:=h 0 (by omega);simp only[List.getElem_cons_zero] at h0;simp only[ctAt,if_neg h0,List.getElem_cons_succ] at e ⊢;exact I7_ (by simpa using hk) (fun i hi=>by have:=h (i+1) (by omega);simpa using this) e
theorem L4_ {w:Ap_}:∀{L:List KW},(∀i (hi:i<L.length),L[i].1≠w)→ctAt L w=0
 | [],_=>rfl
 | p::L,h=>by
  have h0:=h 0 (by simp);simp only[List.getElem_cons_zero] at h0;simp only[ctAt,if_neg h0]
  exact L4_ fun i hi=>by have:=h (i+1) (by simpa using hi);simpa using this
theorem Fo_ {p:KW}:∀{ks:List Ap_} {L:List KW},p∈delAll L ks↔p∈L∧p.1∉ks
 | [],L=>by simp[delAll]
 | k::ks,L=>by
  show p∈delAll (Fs_ L k) ks↔_
  rw[Fo_]
  simp[Fs_,List.mem_filter,and_assoc]
theorem en_ {c:Cfg} {r:Rep} {l:List ItR} (h:auditE c r=0) {p:KW} (hp:p∈cntL c r.win l) (hk:p.1∉keysN r.lines) (hr:r.rest<p.2):agE c r l=13:=by
 unfold agE;rw[if_neg (by omega)]
 split
 ·rfl
 ·split
  ·rfl
  ·rw[if_pos (List.any_eq_true.2 ⟨p,Fo_.2 ⟨hp,hk⟩,dt_ hr⟩)]
theorem e1_ {c:Cfg} {r:Rep} {l:List ItR} (h:auditE c r=0) {x:Ln} (hx:x∈r.lines) (ho:lineOff (cntL c r.win l) x=true):agE c r l=13:=by
 unfold agE;rw[if_neg (by omega)]
 split
 ·rfl
 ·rw[if_pos (List.any_eq_true.2 ⟨x,hx,ho⟩)]
theorem eg_ {c:Cfg} {r:Rep} {l:List ItR} (h:auditE c r=0) (hs :(agT (cntL c r.win l)).2=false∨(agT (cntL c r.win l)).1≠r.tot):agE c r l=13:=by
 unfold agE;rw[if_neg (by omega),if_pos hs]
theorem gd_ {c:Cfg} {r:Rep} {l:List ItR} (h:auditE c r=0) (hs :(agT (cntL c r.win l)).2=true∧(agT (cntL c r.win l)).1=r.tot) (ho:∀x∈r.lines,lineOff (cntL c r.win l) x=false) (hb:∀p∈cntL c r.win l,p.1∉keysN r.lines→¬r.rest<p.2):agE c r l=0:=by
 unfold agE;rw[if_neg (by omega),if_neg (by rw[hs.1,hs.2];simp),if_neg (by rw[Bool.not_eq_true,List.any_eq_false];intro x hx;rw[ho x hx];simp),if_neg];rw[Bool.not_eq_true,List.any_eq_false];intro p hp;obtain⟨h1,h2⟩:=Fo_.1 hp
 simpa using hb p h1 h2
def listedB (ls:List Ln) (b:ByteArray):Bool:=ls.any fun y=>decide (y.key=b)
theorem M9_ {ls:List Ln} {b:ByteArray}:listedB ls b=true↔b.data.toList∈keysN ls:=by
 unfold listedB keysN;rw[List.any_eq_true,List.mem_map]
 constructor
 ·rintro⟨y,hy,e⟩
  exact⟨y,hy,by rw[of_decide_eq_true e]⟩
 ·rintro⟨y,hy,e⟩
  exact⟨y,hy,dt_ (by cases hh:y.key;cases b;rw[hh] at e;simp only[ByteArray.mk.injEq];exact Array.ext' e)⟩
theorem Lo_ {ls:List Ln} {k:Nat} (hk:k<ls.length) (b:ByteArray):listedB (ls.take (k+1)) b =(listedB (ls.take k) b||decide (ls[k].key=b)):=by
 unfold listedB;rw[tg_ hk,List.any_append]
 simp
def bK (b:Ap_):ByteArray:=⟨b.toArray⟩
theorem Sr_ (a b:ByteArray) :(a.toList==b.toList)=decide (a=b):=by
 rw[ByteArray.toList_eq,ByteArray.toList_eq,Bool.eq_iff_iff];simp only[beq_iff_eq,decide_eq_true_eq]
 constructor
 ·intro h
  cases a;cases b;simp only[ByteArray.mk.injEq];exact Array.ext' h
 ·rintro rfl;rfl
theorem f8_ (v:Value) (L:List KW) (key:ByteArray) (w:World) (h:RdL lnF 3 w v (L.map kwLn)):Calls Tryz.prog 14 #[v,.string key] w (RetWord (ctAt L key.data.toList) w):=by
 obtain⟨a,cp,rfl⟩:=h.shape;have hm:=h.2.1;have H:=hh_ h;clear h;obtain⟨S,hS⟩:∃S,L.map kwLn=S:=⟨_,rfl⟩
 have HF:=hh_ (show ∀k (hk:k<S.length),(∀i (hi:i<S.length),i<k→S[i].key≠key)→S[k].key=key→ctAt L key.data.toList=S[k].lo from by
  subst hS;intro k hk h1 h2
  have hk':k<L.length:=by simpa using hk
  have hkk:∀i (hi:i<L.length),(L.map kwLn)[i]'(by simpa using hi)=kwLn L[i]:=fun i hi=>by simp
  rw[hkk k hk'] at h2 ⊢;rw[I7_ hk' (fun i hi e=>h1 i (by simp;omega) hi (by rw[hkk i (by omega)];unfold kwLn;rw[e])) (by rw[←h2];simp[kwLn])]
  rfl)
 have HN:=hh_ (show(∀i (hi:i<S.length),S[i].key≠key)→ctAt L key.data.toList=0 from by
  subst hS;intro h1
  exact L4_ fun i hi e=>h1 i (by simpa using hi) (by rw[List.getElem_map];unfold kwLn;rw[e]))
 rw[hS] at H hm ⊢;clear hS;generalize ctAt L key.data.toList=V at *
 go_enter func14,ntmps14
 go_wp2_with fail
 go_loopw [9] (fun s9 wk=>∃k:Nat,k≤S.length∧s9=.int .i64 k∧(∀i (hi:i<S.length),i<k→S[i].key≠key)∧w.grownBy wk none) (fun s9 _=>S.length-(RowKit.intOf s9).toNat)
 case atStart=>exact⟨0,zl_ _,rfl,fun i _ hi=>absurd hi (Nat.not_lt_zero i),Ab_ _ _⟩
 case round=>
  obtain⟨k,hk,rfl,hall,hg⟩:=hrel
  by_cases hlt:k<S.length
  ·obtain⟨g,off,cap,hv,hgl,hc⟩:=(RdL.same H.out hg).at_ Ar_ hlt
   cases hv;have c0:=hc 0 _ rfl;have c1:=hc 1 _ rfl;have c2:=hc 2 _ rfl;rw[Nat.add_zero] at c0
   have hklt :(k:Int)<(S.length:Int):=by omega
   have HY:=hh_ (show S[k].key=key→V=S[k].lo from HF.out k hlt hall)
   have HA:=hh_ (show S[k].key≠key→∀i (hi:i<S.length),i<k+1→S[i].key≠key from fun h i hi hik=>by
    rcases Nat.lt_or_ge i k with h1|h1
    ·exact hall i hi h1
    ·obtain rfl:i=k:=by omega
     exact h)
   clear hc hall;generalize S[k]=x at *;have hse:=Sr_ x.key key;have G2:=Ad_ hg (.cells #[.string x.key,.int .u64 x.lo,.int .u64 x.hi] 46);have A2:=(Blk.new wr #[.string x.key,.int .u64 x.lo,.int .u64 x.hi] 46).cell
   by_cases hke:x.key=key
   ·have HV:=hh_ (HY.out hke)
    rw[dt_ hke] at hse;clear hke HY HA
    go_wp2_with fail
    go_ret
    exact Bs_ HV.out G2
   ·have HV:=hh_ (HA.out hke)
    rw[df_ hke] at hse;clear hke HY HA
    go_wp2_with fail
    exact⟨⟨k+1,by omega,by go_num,HV.out,G2⟩,by simp[RowKit.intOf];omega⟩
  ·have HV:=hh_ (HN.out fun i hi=>hall i hi (by omega))
   clear hall
   go_wp2_with fail
   go_ret
   exact Bs_ HV.out hg
theorem Yz_ {L:List KW} {k:Nat} (hk:k<L.length):agT (L.take (k+1)) =(satA (agT (L.take k)).1 L[k].2,(agT (L.take k)).2&&fitA (agT (L.take k)).1 L[k].2):=by
 rw[tg_ hk,J2_]
theorem e8_ {L:List KW} (h:∀p∈L,W64 p.2) (k:Nat):W64 (agT (L.take k)).1:=Yv_ fun p hp=>h p (List.mem_of_mem_take hp)
theorem D3_ (c:Cfg) (r:Rep) (v:Value) (l:List ItR) (w:World) (hR:RepRd w r) (hW:RepW r) (h:RdL itF 3 w v l) (hI:∀x∈l,ItW x) (hl:l.length≤1000000000) :
  Calls Tryz.prog 12 #[c.val,repV r.win r.tot r.vl r.over r.trk r.rest r.vr,v] w (RetInt (agE c r l) w):=by
 obtain⟨la,lc,e1⟩:=hR.lines.shape;obtain⟨ra,rc,e2⟩:=hR.rej.shape;obtain⟨ia,ic,rfl⟩:=h.shape;have hlm:=hR.lines.2.1;have HR:=hh_ hR;have HW:=hh_ hW
 have CA:=hh_ fun w' (q:w.grownBy w' none)=>Wg_ c r w' (hR.same q) hW
 have CC:=hh_ fun w' (q:w.grownBy w' none)=>Ws_ c r.win _ l w' (h.same q) hI hl
 rw[e1,e2] at CA ⊢;have E1:=hh_ e1;have HLw:=hh_ (Pl_ c r.win l hI);have HLl:=hh_ (Ex_ c r.win l);have HAE:=hh_ (show auditE c r≠0→agE c r l=auditE c r from fun h=>by unfold agE;rw[if_pos h])
 have HAB:=hh_ fun(h0:auditE c r=0) p (hp:p∈cntL c r.win l)=>en_ (l:=l) h0 hp
 have HAO:=hh_ fun(h0:auditE c r=0) x (hx:x∈r.lines)=>e1_ (l:=l) h0 hx
 have HAS:=hh_ fun(h0:auditE c r=0)=>eg_ (l:=l) h0
 have HAK:=hh_ fun(h0:auditE c r=0)=>gd_ (l:=l) h0
 clear hR hW e1 e2 h;generalize agE c r l=AE at *;generalize cntL c r.win l=L at *;generalize auditE c r=AU at *
 go_enter func12,ntmps12
 go_upto_region 1 with(refine Au_ rfl _ rfl c rfl ?_;intro w1 B1 G1 z1)
 have D2:=Blk.new w1 (repA r.win r.tot (.slice la r.lines.length lc) r.over r.trk r.rest (.slice ra r.rej.length rc)) 26;have B2:=B1.same (ga_ w1 (.cells #[.int .i64 r.win,.int .u64 r.tot,.slice la r.lines.length lc,.int .u64 r.over,.int .i64 r.trk,.int .u64 r.rest,.slice ra r.rej.length rc] 26) none);have G2:=Ad_ G1 (.cells #[.int .i64 r.win,.int .u64 r.tot,.slice la r.lines.length lc,.int .u64 r.over,.int .i64 r.trk,.int .u64 r.rest,.slice ra r.rej.length rc] 26);generalize w1.alloc _=w2 at *;generalize w1.heap.size=rb at *;clear B1 G1;have C2:=hh_ (CA.out w2 G2);clear CA
 by_cases hE:AU=0
 case neg=>
  have HF:=hh_ (HAE.out hE)
  have he2 :(AU != 0)=true:=by simpa using hE
  have he3 :(AU==0)=false:=by simpa using hE
  clear hE HAB HAO HAS HAK HAE
  go_wp2_with (first
   |(refine Ax_ rfl _ rfl _ rfl D2 ?_)
   |(refine Al_ rfl _ rfl _ rfl c (by assumption) ?_)
   |(go_at_call 9;refine C2.out.mono ?_;rintro e w3 ⟨rfl,g3⟩))
  go_ret
  exact Ai_ HF.out (Aa_ G2 g3)
 case pos=>
  subst hE;have HAB:=hh_ (HAB.out rfl);have HAO:=hh_ (HAO.out rfl);have HAS:=hh_ (HAS.out rfl);have HAK:=hh_ (HAK.out rfl);clear HAE
  go_upto_region 4 with(first
   |(refine Ax_ rfl _ rfl _ rfl D2 ?_)
   |(refine Al_ rfl _ rfl _ rfl c (by assumption) ?_)
   |(go_at_call 9;refine C2.out.mono ?_;rintro e w3 ⟨rfl,g3⟩))
  have D3:=D2.same g3;have B3:=B2.same g3;have G3:=Aa_ G2 g3;have CC3:=hh_ (CC.out w3 G3);clear D2 B2 G2 g3 C2 CC;have d3:=D3.cell
  go_upto_region 7 with(first
   |(refine Al_ rfl _ rfl _ rfl c (by assumption) ?_)
   |(go_at_call 30;refine CC3.out.mono ?_;rintro e w4 ⟨v4,rfl,o4,g4⟩;obtain⟨sa,sc,rfl⟩:=o4.shape))
  have HO:=hh_ o4;have HG4:=hh_ (Aa_ G3 g4);have HD4:=hh_ (D3.same g4);have HLb:=hh_ (lt_ HLl.out hl);clear HLl hl D3 B3 G3 CC3 d3 o4 g4
  go_loopw [9,10,33] (fun s9 s10 s33 wk=>∃k:Nat,k≤L.length∧s33=.int .i64 k∧s9=.int .u64 (agT (L.take k)).1∧s10=.bool (agT (L.take k)).2∧(∀i (hi:i<L.length),i<k→L[i].1∉keysN r.lines→L[i].2≤r.rest)∧w4.grownBy wk none) (fun _ _ s33 _=>L.length-(RowKit.intOf s33).toNat)
  case atStart=>exact⟨0,zl_ _,rfl,rfl,rfl,fun i _ h=>absurd h (Nat.not_lt_zero i),Ab_ _ _⟩
  case round=>
   obtain⟨k,hk,rfl,rfl,rfl,hall,hg⟩:=hrel;have Hall:=hh_ hall;clear hall;have hLb:=HLb.out
   by_cases hkl:k<L.length
   ·obtain⟨gx,ox,cx,hv,hgx,hcx⟩:=(RdL.same HO.out.rd hg).at_ Ar_ (show k<(L.map kwLn).length by rw[List.length_map];exact hkl)
    obtain⟨rfl,-,rfl⟩:sa=some ⟨gx,ox,none⟩∧(L.map kwLn).length =(L.map kwLn).length∧sc=cx:=by simpa only[Value.slice.injEq] using hv
    have HT:=hh_ (Yz_ hkl);have hTw:W64 (agT (L.take k)).1:=e8_ HLw.out k;have hnw:=HLw.out _ (mg_ hkl)
    have c0:wr.cell? ⟨gx,ox+k*3,none⟩=some (.string (bK L[k].1)):=by have:=hcx 0 _ rfl;rw[List.getElem_map,Nat.add_zero] at this;exact this
    have c1:wr.cell? ⟨gx,ox+k*3+1,none⟩=some (.int .u64 L[k].2):=by have:=hcx 1 _ rfl;rw[List.getElem_map] at this;exact this
    have c2:wr.cell? ⟨gx,ox+k*3+2,none⟩=some (.int .u64 L[k].2):=by have:=hcx 2 _ rfl;rw[List.getElem_map] at this;exact this
    have HLI:=hh_ (M9_ (ls:=r.lines) (b:=bK L[k].1));have HY:=hh_ (show listedB r.lines (bK L[k].1)=false→r.rest<L[k].2→AE=13 from fun h h2=>HAB.out trivial _ (mg_ hkl) (fun hm=>by rw[HLI.out.2 (by simpa [bK] using hm)] at h;cases h) h2)
    have HN:=hh_ (show(listedB r.lines (bK L[k].1)=true∨L[k].2≤r.rest)→∀i (hi:i<L.length),i<k+1→L[i].1∉keysN r.lines→L[i].2≤r.rest from fun h i hi hik hm=>by
     rcases Nat.lt_or_ge i k with h1|h1
     ·exact Hall.out i hi h1 hm
     ·obtain rfl:i=k:=by omega
      rcases h with h|h
      ·exact absurd (by simpa [bK] using HLI.out.1 h) hm
      ·exact h)
    have Hk1:=hh_ (show k+1≤L.length from hkl);clear hcx hv HLI;generalize agT (L.take k)=TE at *;obtain⟨T,e⟩:=TE;generalize L[k]=p at *;obtain⟨kb,kn⟩:=p;dsimp only at *;generalize bK kb=key at *
    have CA:=hh_ fun w'=>Ub_ T kn w' hTw hnw
    have A6:=Blk.new wr #[.string key,.int .u64 kn,.int .u64 kn] 46;have G6:=Ad_ hg (.cells #[.string key,.int .u64 kn,.int .u64 kn] 46);clear hTw hnw hg
    go_upto_region 9 with fail
    generalize wr.alloc _=w6 at *;generalize wr.heap.size=gk at *;have HA6:=hh_ A6;have HG6:=hh_ G6;have a6:=A6.cell;have d6:=(HD4.out.same G6).cell;generalize satA T kn=T2 at *;generalize fitA T kn=f2 at *;clear c0 c1 c2 A6 G6;have hk1:=Hk1.out;have hT3:∃e2:Bool,(e&&f2)=e2:=⟨_,rfl⟩;cases e
    all_goals
     go_upto_region 14 with(go_at_call 31;refine(CA.out _).mono ?_;rintro e w' ⟨rfl,hw'⟩;subst w')
     clear d6
     go_loopw [14,51] (fun s14 s51 wk=>∃j:Nat,j≤r.lines.length∧s51=.int .i64 j∧s14=.bool (listedB (r.lines.take j) key)∧w6.grownBy wk none) (fun _ s51 _=>r.lines.length-(RowKit.intOf s51).toNat)
     case atStart=>exact⟨0,zl_ _,rfl,rfl,Ab_ _ _⟩
     case round=>
      obtain⟨j,hj,rfl,rfl,hg7⟩:=hrel;have HG7:=hh_ (Aa_ HG6.out hg7);have HGW:=hh_ (Aa_ HG4.out HG7.out)
      by_cases hjl:j<r.lines.length
      ·obtain⟨gy,oy,cy,hvy,hgy,hcy⟩:=(HR.out.lines.same HGW.out).at_ Ar_ hjl
       rw[E1.out] at hvy;cases hvy;have y0:=hcy 0 _ rfl;have y1:=hcy 1 _ rfl;have y2:=hcy 2 _ rfl;rw[Nat.add_zero] at y0
       have hjlt :(j:Int)<(r.lines.length:Int):=by omega
       have hsn:=Lo_ hjl key;have hse:=Sr_ r.lines[j].key key;rw[←hse] at hsn;have HSN:=hh_ hsn;clear hcy hse hsn;generalize r.lines[j]=y at *;generalize listedB (r.lines.take j) key=lb at *;have G8:=Ad_ hg7 (.cells #[.string y.key,.int .u64 y.lo,.int .u64 y.hi] 46);have A8:=(Blk.new wr #[.string y.key,.int .u64 y.lo,.int .u64 y.hi] 46).cell;have A9:=((HA6.out.same hg7).same (ga_ wr (.cells #[.string y.key,.int .u64 y.lo,.int .u64 y.hi] 46) none)).cell;clear hg7;cases lb
       ·go_wp2_with fail
        exact⟨⟨j+1,by omega,by go_num,by rw[HSN.out];rfl,G8⟩,by simp[RowKit.intOf];omega⟩
       ·go_wp2_with fail
        exact⟨⟨j+1,by omega,by go_num,by rw[HSN.out];rfl,G8⟩,by simp[RowKit.intOf];omega⟩
      ·have hje:r.lines.take j=r.lines:=tk_ (by omega)
       rw[hje];have a7:=(HA6.out.same hg7).cell;have d7:=(HD4.out.same HG7.out).cell;clear hje;generalize listedB r.lines key=lb at *;cases lb
       ·by_cases hbig:r.rest<kn
        ·have HF:=hh_ (HY.out rfl hbig)
         clear HN HY
         go_wp2_with fail
         go_ret
         exact Ai_ HF.out HGW.out
        ·have HF:=hh_ (HN.out (.inr (by omega)))
         clear HN HY
         go_wp2_with fail
         exact⟨⟨k+1,hk1,by go_num,by rw[HT.out],by rw[HT.out];rfl,HF.out,HG7.out⟩,by simp[RowKit.intOf];omega⟩
       ·have HF:=hh_ (HN.out (.inl rfl))
        clear HN HY
        go_wp2_with fail
        exact⟨⟨k+1,hk1,by go_num,by rw[HT.out],by rw[HT.out];rfl,HF.out,HG7.out⟩,by simp[RowKit.intOf];omega⟩
   ·have hke:L.take k=L:=tk_ (by omega)
    rw[hke];have HG7:=hh_ (Aa_ HG4.out hg);have HL7:=hh_ (RdL.same HO.out.rd hg);have HD7:=hh_ (HD4.out.same hg);have d7:=HD7.out.cell
    have HAK2:=hh_ (show((agT L).2=true∧(agT L).1=r.tot)→(∀x∈r.lines,lineOff L x=false)→AE=0 from fun h h2=>HAK.out h h2 fun p hp hm=>by
     obtain⟨i,hi,rfl⟩:=List.getElem_of_mem hp
     have:=Hall.out i hi (by omega) hm
     omega)
    have HTw:=hh_ (Yv_ HLw.out);have HAS2:=hh_ (HAS.out trivial);have HAO2:=hh_ (HAO.out trivial);clear hke Hall HAK HAS HAO HAB
    go_upto_region 22 with fail
    go_loopw [77] (fun s77 wk=>∃j:Nat,j≤r.lines.length∧s77=.int .i64 j∧(∀i (hi:i<r.lines.length),i<j→lineOff L r.lines[i]=false)∧wr.grownBy wk none) (fun s77 _=>r.lines.length-(RowKit.intOf s77).toNat)
    case atStart=>exact⟨0,zl_ _,rfl,by intro i hi h;omega,Ab_ _ _⟩
    case round=>
     obtain⟨j,hj,rfl,hall,hg7⟩:=hrel;have Hall:=hh_ hall;have HGW:=hh_ (Aa_ HG7.out hg7);clear hall
     by_cases hjl:j<r.lines.length
     ·obtain⟨gy,oy,cy,hvy,hgy,hcy⟩:=(HR.out.lines.same HGW.out).at_ Ar_ hjl
      rw[E1.out] at hvy;cases hvy;have y0:=hcy 0 _ rfl;have y1:=hcy 1 _ rfl;have y2:=hcy 2 _ rfl;rw[Nat.add_zero] at y0
      have hjlt :(j:Int)<(r.lines.length:Int):=by omega
      have HOF:=hh_ (show lineOff L r.lines[j]=!(decide (r.lines[j].lo≤ctAt L r.lines[j].key.data.toList)&&decide (ctAt L r.lines[j].key.data.toList≤r.lines[j].hi)) from rfl);have HQ:=hh_ (show lineOff L r.lines[j]=true→AE=13 from fun h=>HAO2.out _ (mg_ hjl) h)
      have HN:=hh_ (show lineOff L r.lines[j]=false→∀i (hi:i<r.lines.length),i<j+1→lineOff L r.lines[i]=false from fun h i hi hij=>by
       rcases Nat.lt_or_ge i j with h1|h1
       ·exact Hall.out i hi h1
       ·obtain rfl:i=j:=by omega
        exact h)
      clear hcy;generalize lineOff L r.lines[j]=lo at *;generalize r.lines[j]=y at *
      have CO:=hh_ fun w' (g:wr.grownBy w' none)=>f8_ (.slice sa (L.map kwLn).length sc) L y.key w' (HL7.out.same (Aa_ hg7 g))
      generalize ctAt L y.key.data.toList=q at *;rw[List.length_map] at CO
      go_upto_region 24 with fail
      have HA8:=hh_ (Blk.new wr #[.string y.key,.int .u64 y.lo,.int .u64 y.hi] 46);have a8:=HA8.out.cell;have HG8:=hh_ (ga_ wr (.cells #[.string y.key,.int .u64 y.lo,.int .u64 y.hi] 46) none);generalize wr.alloc _=w8 at *;generalize wr.heap.size=gk at *;clear y0 y1 y2
      go_upto_region 25 with(go_at_call 14;refine(CO.out w8 HG8.out).mono ?_;rintro e w9 ⟨rfl,g9⟩)
      have a9:=(HA8.out.same g9).cell;clear a8;have HGE:=hh_ (Aa_ HGW.out (Aa_ HG8.out g9));have HG9:=hh_ (Aa_ hg7 (Aa_ HG8.out g9))
      by_cases h1:q<y.lo
      ·have HF:=hh_ (HQ.out (by rw[HOF.out,df_ (show ¬y.lo≤q by omega)];rfl))
       clear HOF HN HQ
       go_wp2_with fail
       go_ret
       exact Ai_ HF.out HGE.out
      ·by_cases h2:y.hi<q
       ·have HF:=hh_ (HQ.out (by rw[HOF.out,df_ (show ¬q≤y.hi by omega),Bool.and_false];rfl))
        clear HOF HN HQ
        go_wp2_with fail
        go_ret
        exact Ai_ HF.out HGE.out
       ·have HF:=hh_ (HN.out (by rw[HOF.out,dt_ (show q≤y.hi by omega),dt_ (show y.lo≤q by omega)];rfl))
        clear HOF HN HQ
        go_wp2_with fail
        exact⟨⟨j+1,by omega,by go_num,HF.out,HG9.out⟩,by simp[RowKit.intOf];omega⟩
     ·have HF:=hh_ (show((agT L).2=true∧(agT L).1=r.tot)→AE=0 from fun h=>HAK2.out h fun x hx=>by
       obtain⟨i,hi,rfl⟩:=List.getElem_of_mem hx
       exact Hall.out i hi (by omega))
      have e7:=(HD7.out.same hg7).cell;clear Hall HAK2 HAO2;generalize agT L=TE at *;obtain⟨T,e⟩:=TE;dsimp only at *
      cases e with
      | false=>
       have HF2:=hh_ (HAS2.out (.inl rfl))
       go_wp2_with fail
       go_ret
       exact Ai_ HF2.out HGW.out
      | true=>
       by_cases hT:T=r.tot
       ·have HF2:=hh_ (HF.out ⟨rfl,hT⟩)
        have t1 :(T != r.tot)=false:=by simpa using hT
        have t2 :(T==r.tot)=true:=by simpa using hT
        clear hT
        go_wp2_with fail
        go_ret
        exact Ai_ HF2.out HGW.out
       ·have HF2:=hh_ (HAS2.out (.inr hT))
        have t1 :(T != r.tot)=true:=by simpa using hT
        have t2 :(T==r.tot)=false:=by simpa using hT
        clear hT
        go_wp2_with fail
        go_ret
        exact Ai_ HF2.out HGW.out
end
section
open Go.RowKit Go.Maps Go.Sort Go.Shelf
def stF (s:Ap_):List Value:=[encStr s]
theorem dv_ (s:Ap_) :(stF s).length=1:=rfl
theorem Ww_ (l:List Ap_):cellsOf stF l=l.map encStr:=by
 induction l with
 | nil=>rfl
 | cons x l ih=>simp only[cellsOf,List.flatMap_cons,List.map_cons] at *;rw[ih];rfl
theorem ec_ (m : Nat) : AnyZ.SortsIn Tryz.prog Tryz.sortedS_ren Fence.wide m :=
  ⟨fun blk off cap ss W hH hblk hsz => callsIn_wide.2 (Tryz.slices_Sort_string blk off cap ss W hH hblk hsz),
   fun p cap W => callsIn_wide.2 (Tryz.slices_Sort_string_none p cap W)⟩
theorem G4_ {a b:World} (h:Below a.heap.size a b):a.grownBy b none:=⟨h.os,h.tape,h.output,h.size,fun i hi _=>h.block i hi⟩
theorem CntD.sorted {H:Type} {D:DataW H} {L:List KW} (h:CntD D L) (hA:AscB L) {P:Program} {k:TypeId} {R:Value→Option (DataW H×List MemPlace)} {w:World} {b n:Nat} (hown:w.ownsMap P k R b n D) (hk:P.underlying k=some .string) {ss:List Ap_} (hp:ss.Perm (strKeys D)) :
  ss.mergeSort (fun x y=>decide (x≤y))=L.map (·.1):=by
 have h2 :(L.map (·.1)).Perm (strKeys D):=Collected.perm (left:=fun _=>false) ⟨Qx_ hA,fun x=>by rw[h.has,Eu_];simp⟩ hown (string_keyed hk) hk (fun _=>rfl);have h3 :(ss.mergeSort (fun x y=>decide (x≤y))).Perm (L.map (·.1)):=(List.mergeSort_perm _ _).trans (hp.trans h2.symm);refine List.Perm.eq_of_pairwise (le:=fun x y:Ap_=>decide (x≤y)=true) (fun a b _ _ h1 h2=>?_) (List.pairwise_mergeSort (fun a b c h1 h2=>?_) (fun a b=>?_) ss) (N3_ hA) h3
 ·simp only[decide_eq_true_eq] at h1 h2;exact List.le_antisymm h1 h2
 ·simp only[decide_eq_true_eq] at *;exact List.le_trans h1 h2
 ·simp only[Bool.or_eq_true,decide_eq_true_eq];exact List.le_total a b
theorem ci_ (mb:Nat) (W:World):Calls Tryz.prog 34 #[.map (some mb)] W fun e w'=>
  e=.returned (.func (.func 72) #[] #[.pointer (some ⟨W.heap.size,0,none⟩)])∧w'=W.alloc (.cells #[.map (some mb)] 79):=
 (callsIn_wide (n:=5)).1 (AnyZ.keys_in Tryz.keysS Fence.wide 5 trivial rfl (some mb) W)
theorem T0_ (g mb n:Nat) (D:DataW Unit) (L:List KW) (w:World) (hg:g<w.heap.size) (hc:w.cell? ⟨g,0,none⟩=some (.map (some mb))) (hown:w.ownsMap Tryz.prog 9 (plainElem Tryz.prog 22) mb n D) (hD:CntD D L) (hA:AscB L) (hn:n≤1000000000) :
  Calls Tryz.prog 33 #[.func (.func 72) #[] #[.pointer (some ⟨g,0,none⟩)]] w (RetOwn stF 1 9 (L.map (·.1)) w):=by
 have HS:=hh_ fun(ss:List Ap_) (hp:ss.Perm (strKeys D))=>hD.sorted hA hown underlying9 hp
 have hsz:=hown.size_le
 have hmax:Maps.size D≤maxLen:=by unfold maxLen;omega
 have hbytes:Maps.size D*16≤140737488355328:=by omega
 have hseq:SeqGives Fence.wide 2 Tryz.prog 72 #[.pointer (some ⟨g,0,none⟩)] encStr (fun ss=>ss.Perm (strKeys D)) (Maps.size D) w:=
  AnyZ.keys_gives (ρ:=Tryz.keysS_ren) { Tryz.keysS with } Fence.wide _ trivial rfl (by omega) g mb n D w hg hc hown
 have cS:=AnyZ.sorted_in Tryz.sortedS Fence.wide 5 trivial trivial trivial trivial rfl (by omega) (ec_ _) (enters_of func71 (by kernel_rfl) rfl) 72 #[.pointer (some ⟨g,0,none⟩)] trivial (enters_of func72 (by kernel_rfl) rfl) _ _ hmax hbytes _ hseq
 change CallsIn _ _ Tryz.prog 33 _ _ _ at cS
 refine((callsIn_wide (n:=5)).1 cS).mono ?_;rintro e w' ⟨v,ss,rfl,hS,hrow,hnil,hb⟩;have hss:=HS.out ss hS;rw[hss] at hrow
 have hl:ss.length =(L.map (·.1)).length:=by rw[←hss,List.length_mergeSort]
 rw[hl] at hrow;refine⟨v,rfl,?_,G4_ hb⟩;unfold Own;rw[Ww_];exact hrow
end
section
open Go.RowKit Go.Sort Go.Maps Go.WideMaps
theorem strKeyed:Keyed Tryz.prog 9:=string_keyed underlying9
theorem zeroU (w:World) :(zeroValue 22).run Tryz.prog w=.ok (.int .u64 0) w:=by kernel_rfl
theorem Js_:∀{L:List KW} {p:KW},AscB L→p∈L→ctAt L p.1=p.2
 | [],p,_,h=>by simp at h
 | q::L,p,hA,h=>by
  obtain⟨h1,h2⟩:=C1_ hA;simp only[ctAt]
  rcases List.mem_cons.1 h with rfl|h
  ·rw[if_pos rfl]
  ·rw[if_neg (b_ne (h1 p h)),Js_ h2 h]
theorem O4_ (c:Cfg) (win:Int) (l:List ItR) {N:Nat} (h:∀x∈l,x.key.size≤N):∀p∈cntL c win l,p.1.length≤N:=Hj_ (fun L=>∀p∈L,p.1.length≤N) c win l (by simp) fun L x hx hL=>by
 unfold cntS;split
 ·intro p hp
  rcases mem_ctPut hp with e|hp
  ·rw[e];exact(Array.length_toList (xs:=x.key.data)).symm▸h x hx
  ·exact hL p hp
 ·exact hL
attribute [local go_sem ↓] Ag_
attribute [local go_sem] Ah_
theorem Yb_ (c:Cfg) (win:Int) (v:Value) (l:List ItR) (w:World) (h:RdL itF 3 w v l) (hW:∀x∈l,ItW x) (hl:l.length≤1000000000) :
  Calls Tryz.prog 13 #[c.val,.int .i64 win,v] w (RetOwn lnF 3 46 ((cntL c win l).map kwLn) w):=by
 obtain⟨a,cp,rfl⟩:=h.shape;have hm:=h.2.1;have H:=hh_ h;have HW:=hh_ hW;have HAsc:=hh_ (fun k=>Kk_ c win (l.take k));have HLen:=hh_ (fun k=>Ex_ c win (l.take k));have HCw:=hh_ (fun k=>Pl_ c win (l.take k) fun x hx=>hW x (List.mem_of_mem_take hx));clear h hW;have hmm:=@run_makeMap Tryz.prog
 go_enter func13,ntmps13
 go_upto_region 1 with(refine Au_ rfl _ rfl c rfl ?_;intro w1 B1 G1 z1)
 go_upto_region 2 with fail
 have M2:=World.ownsMap_made w1 Tryz.prog 9 (plainElem (H:=Unit) Tryz.prog 22);have B2:=B1.same (ga_ w1 (.map #[] 0) none);have G2:=Ad_ G1 (.map #[] 0)
 have hmb:w1.heap.size<(w1.alloc (.map #[] 0)).heap.size:=by simp
 have hmw:w.heap.size<w1.heap.size:=z1;generalize w1.alloc _=w2 at *;generalize w1.heap.size=mb at *;have B2':=hh_ B2;have HG2:=hh_ G2;clear B1 G1 hmm B2 G2
 go_upto_region 3 with fail
 go_loopw [16] (fun s16 wk=>∃j:Nat,j≤l.length∧s16=.int .i64 j∧(∃D n,wk.ownsMap Tryz.prog 9 (plainElem (H:=Unit) Tryz.prog 22) mb n D∧n≤j∧CntD D (cntL c win (l.take j)))∧w2.grownBy wk (some mb)) (fun s16 _=>l.length-(RowKit.intOf s16).toNat)
 case atStart=>exact⟨0,zl_ _,rfl,⟨_,0,M2,le_ _,CntD.nil⟩,Ab_ _ _⟩
 case round=>
  clear M2;obtain⟨j,hj,rfl,⟨D,n,hM,hnj,hD⟩,hg⟩:=hrel
  by_cases hjl:j<l.length
  ·have hgw:=Af_ HG2.out hg (by omega)
   obtain⟨gx,ox,cx,hv,hgx,hcx⟩:=(RdL.same H.out hgw).at_ Dv_ hjl;cases hv;have c0:=hcx 0 _ rfl;have c1:=hcx 1 _ rfl;have c2:=hcx 2 _ rfl;rw[Nat.add_zero] at c0;have HT:=hh_ (show cntL c win (l.take (j+1))=cntS c win (cntL c win (l.take j)) l[j] by rw[tg_ hjl,E6_]);have hwx:=HW.out _ (mg_ hjl);have hA:=HAsc.out j;have hCw:=HCw.out j;clear hcx;generalize cntL c win (l.take j)=L at *;generalize l[j]=it at *;have HS0:=hh_ (show inWin c win it=false→cntS c win L it=L from fun h=>by unfold cntS;rw[h];rfl);have HS1:=hh_ (show inWin c win it=true→cntS c win L it=ctPut L it.key.data.toList it.weight from fun h=>by unfold cntS;rw[h];rfl);have HIn:=hh_ (show inWin c win it =(decide (0≤it.time)&&decide (it.time≤1099511627776)&&decide (winV c it.time=win)) from rfl);generalize inWin c win it=iw at *
   go_upto_region 5 with fail
   have M3:=hM.alloc (.cells #[.string it.key,.int .i64 it.time,.int .u64 it.weight] 41);have A3:=Blk.new wr #[.string it.key,.int .i64 it.time,.int .u64 it.weight] 41;have G3:=Ad_ hg (.cells #[.string it.key,.int .i64 it.time,.int .u64 it.weight] 41);have hmk:=hM.lt;generalize wr.alloc _=w3 at *;generalize wr.heap.size=gk at *;have B3:=B2'.out.kept G3 (by simp;omega);clear hM hg hgw c0 c1 c2 hgx;have a3:=A3.cell
   have CW:=hh_ fun w'=>ft_ c it.time w'
   by_cases t0:0≤it.time
   case neg=>
    have HF:=hh_ (HT.out.trans (HS0.out (by rw[HIn.out,df_ t0];rfl)));have d0:decide (0≤it.time)=false:=df_ t0
    go_wp2_with fail
    exact⟨⟨j+1,by omega,by go_num,⟨D,n,M3,by omega,by rw[HF.out];exact hD⟩,G3⟩,by simp[RowKit.intOf];omega⟩
   have d0:decide (0≤it.time)=true:=dt_ t0
   by_cases t1:it.time≤1099511627776
   case neg=>
    have HF:=hh_ (HT.out.trans (HS0.out (by rw[HIn.out,df_ t1];simp)));have d1:decide (it.time≤1099511627776)=false:=df_ t1
    go_wp2_with fail
    exact⟨⟨j+1,by omega,by go_num,⟨D,n,M3,by omega,by rw[HF.out];exact hD⟩,G3⟩,by simp[RowKit.intOf];omega⟩
   have d1:decide (it.time≤1099511627776)=true:=dt_ t1
   by_cases t2:winV c it.time=win
   case neg=>
    have HF:=hh_ (HT.out.trans (HS0.out (by rw[HIn.out,df_ t2];simp)))
    have d2 :(winV c it.time != win)=true:=by simpa using t2
    have d3 :(winV c it.time==win)=false:=by simpa using t2
    generalize winV c it.time=q at *;clear HIn HS0 HS1
    go_wp2_with (first
     |(refine A0_ rfl _ rfl _ rfl c (by assumption) ?_)
     |(go_at_call 32;refine(CW.out _).mono ?_;rintro e w4 ⟨rfl,g4⟩))
    exact⟨⟨j+1,by omega,by go_num,⟨D,n,M3.kept g4 (by simp),by omega,by rw[HF.out];exact hD⟩,Aa_ G3 (Ak_ g4 _)⟩,by simp[RowKit.intOf];omega⟩
   case pos=>
    have HF:=hh_ (HT.out.trans (HS1.out (by rw[HIn.out,d0,d1,dt_ t2];rfl)))
    have d2 :(winV c it.time != win)=false:=by simpa using t2
    have d3 :(winV c it.time==win)=true:=by simpa using t2
    generalize winV c it.time=qw at *;have hkey:=keyOf_string_mk underlying9 (s:=it.key) (by unfold maxLen;exact hwx.key);have HK:=hh_ (show WideAt.IsKeyLit (.string it.key.data.toList) from trivial)
    have hnm:n<maxLen:=by unfold maxLen;omega
    have hat:=hh_ (hD.at_ it.key.data.toList);have hq:W64 (ctAt L it.key.data.toList):=Ru_ hCw;have hsw:=B9_ hq hwx.weight;have hwf :(Lit.int .u64 (satA (ctAt L it.key.data.toList) it.weight)).wf=true:=WalkArith.wf_u64 (by unfold W64 at hsw;omega);have HP:=hh_ (p:=∀D',D'=D.put (.string it.key.data.toList) (.lit (.int .u64 (satA (ctAt L it.key.data.toList) it.weight)))→CntD D' (cntL c win (l.take (j+1)))) (fun D' e=>by rw[e,HF.out];exact hD.put hA M3.isMap HK.out);have Hwx:=hh_ hwx.weight;have Hq:=hh_ hq
    have CA:=hh_ fun w'=>D2_ (ctAt L it.key.data.toList) it.weight w' hq hwx.weight
    clear HIn HS0 HS1 HF HT hA hCw hwx hq hsw hD;generalize satA (ctAt L it.key.data.toList) it.weight=sa at *;generalize fitA (ctAt L it.key.data.toList) it.weight=fa at *;generalize ctAt L it.key.data.toList=qa at *
    go_upto_region 6 with(first
     |(refine A0_ rfl _ rfl _ rfl c (by assumption) ?_)
     |(go_at_call 32;refine(CW.out _).mono ?_;rintro e w4 ⟨rfl,g4⟩))
    have M4:=M3.kept g4 (by simp);have A4:=A3.same g4;have G4:=Aa_ G3 (Ak_ g4 (some mb));clear M3 A3 a3 G3 g4 B3 CW d0 d1 d2 d3 t0 t1 t2;have Gd:w4.grownBy w4.drew none:=gw_
    (refine rz_ 13 #[false,false,false,false,false,false,false,false,false,false,false,false,true] (fun k _ w v w'=>match k with | 9=>v=.tuple #[.int .u64 sa,.bool fa]∧World.grownBy w w' none | _=>False) ?_;simp only[ts_])
    (refine tq_ 2 ?_;(repeat(go_big_quiet_step (fail)));refine wn_ ?_)
    (refine to_ ?_;intro y2 my2 dy2)
    clear dy2;have a2:=(A4.same (Aa_ Gd my2)).cell
    go_wp2_with fail
    refine⟨Ab_ _ _,?_⟩;clear a2
    (refine tq_ 2 ?_;(repeat(go_big_quiet_step (fail)));refine wn_ ?_)
    (refine to_ ?_;intro y5 my5 dy5)
    clear dy5;have a2:=(A4.same (Aa_ Gd my5)).cell
    go_wp2_with fail
    refine⟨Ab_ _ _,?_⟩;clear a2
    (refine to_ ?_;intro y6 my6 dy6)
    clear dy6;have M6:=M4.kept (Aa_ Gd my6) (by simp)
    go_wp2_with (at_lookup;refine wpList_lookup_own_int _ rfl _ _ 79 rfl 9 22 .u64 strKeyed underlying79 underlying22 (zeroU _) mb n D rfl M6 _ _ rfl hkey ?_;intro c hc hwc;rw[hat.out] at hc;cases hc;clear hwc)
    refine⟨Ab_ _ _,?_⟩;clear M6
    (refine tq_ 1 ?_;(repeat(go_big_quiet_step (fail)));refine wn_ ?_)
    (refine to_ ?_;intro y8 my8 dy8)
    clear dy8;have a2:=(A4.same (Aa_ Gd my8)).cell
    go_wp2_with fail
    refine⟨Ab_ _ _,?_⟩;clear a2
    (refine tc_ ?_;intro x9 mx9 dx9;refine⟨?_,?_⟩;· (unfold Rg.callSpec;go_simp;(refine(CA.out x9).mono ?_;rintro e w' ⟨rfl,rfl⟩;exact⟨_,rfl,rfl,Ab_ _ _⟩)))
    clear dx9;rintro v y ⟨rfl,g⟩;refine⟨g,?_⟩;clear g;simp only[pt_]
    (refine tq_ 3 ?_;(repeat(go_big_quiet_step (fail)));refine wn_ ?_)
    (refine Rg.tree_nil ?_;intro z mz dz cz)
    clear dz cz;have M5:=M4.kept (Aa_ Gd mz) (by simp)
    go_wp2_with (at_mapUpdate;refine wpList_mapUpdate_own _ rfl _ _ _ 79 rfl 9 22 strKeyed underlying79 _ mb n D rfl M5 hnm _ _ _ rfl rfl hkey _ [] (plainElem_int underlying22 hwf) ?_;intro w7 M7 g7)
    exact⟨⟨j+1,by omega,by go_num,⟨_,n+1,M7,by omega,HP.out _ rfl⟩,Aa_ (Aa_ G4 (Ak_ (Aa_ Gd mz) _)) g7⟩,by simp[RowKit.intOf];omega⟩
  ·have hke:l.take j=l:=tk_ (by omega)
   have hA:=HAsc.out j;rw[hke] at hD hA;have HWl:=hh_ (show(cntL c win l).length≤l.length from Ex_ c win l);have hgw:=hh_ (Af_ HG2.out hg (by omega));have HKs:=hh_ (O4_ c win l (N:=9223372036854775807) fun x hx=>(HW.out x hx).key);generalize cntL c win l=L at *;have HM:=hh_ hM;have HD:=hh_ hD;have HA:=hh_ hA;have HB:=hh_ (Aa_ hg (ga_ wr (.cells #[.map (some mb)] 79) (some mb)));have hml:=hM.lt;have HC:=hh_ (show(wr.alloc (.cells #[.map (some mb)] 79)).cell? ⟨wr.heap.size,0,none⟩=some (.map (some mb)) by rw[(Blk.new wr #[.map (some mb)] 79).cell];rfl);have CS:=hh_ (T0_ wr.heap.size mb n D L _ (by simp) HC.out (hM.alloc (.cells #[.map (some mb)] 79)) hD hA (by omega));clear hM hD hA hke hg
   go_upto_region 10 with(first
    |(go_at_call 34;refine(ci_ mb _).mono ?_;rintro e w3 ⟨rfl,rfl⟩)
    |(go_at_call 33;refine CS.out.mono ?_;rintro e w4 ⟨v4,rfl,o4,g4⟩;obtain⟨a4,c4,rfl⟩:=o4.shape))
   have M4:=hh_ ((HM.out.alloc (.cells #[.map (some mb)] 79)).kept g4 (by simp));have G4:=hh_ (Aa_ (Ad_ hgw.out (.cells #[.map (some mb)] 79)) g4);have hz4:=g4.size;have hz5:wr.heap.size<w4.heap.size:=ll_ (by simp) hz4;have HO:=hh_ o4
   have hLl :(L.map (·.1)).length=L.length:=by simp
   clear o4 g4 CS HB HC HM hz4
   go_loopw [54,10] (fun s54 s10 wk=>∃k:Nat,k≤L.length∧s54=.int .i64 k∧Own lnF 3 46 w4.heap.size wk s10 ((L.take k).map kwLn)∧w4.grownBy wk none) (fun s54 _ _=>L.length-(RowKit.intOf s54).toNat)
   case atStart=>exact⟨0,zl_ _,rfl,Own.nil _ _ _ _ _,Ab_ _ _⟩
   case round=>
    obtain⟨k,hk,rfl,hOk,hg⟩:=hrel
    by_cases hkl:k<L.length
    ·obtain⟨gx,ox,cx,hv,hgx,hcx⟩:=(RdL.same HO.out.rd hg).at_ dv_ (show k<(L.map (·.1)).length by omega)
     obtain⟨rfl,-,rfl⟩:a4=some ⟨gx,ox,none⟩∧(L.map (·.1)).length =(L.map (·.1)).length∧c4=cx:=by simpa only[Value.slice.injEq] using hv
     have c0:=hcx 0 _ rfl;rw[List.getElem_map,Nat.mul_one,Nat.add_zero] at c0;have M5:=M4.out.kept hg (by simp);have hat:=HD.out.at_ L[k].1;rw[Js_ HA.out (mg_ hkl)] at hat;have hks:=HKs.out _ (mg_ hkl);have HT:=hh_ (show(L.take (k+1)).map kwLn =(L.take k).map kwLn++[kwLn L[k]] by rw[tg_ hkl,List.map_append];rfl)
     have hSl :((L.take k).map kwLn).length≤1000000000:=by rw[List.length_map,lk_];have:=HWl.out;omega
     obtain⟨S,hS⟩:∃S,(L.take k).map kwLn=S:=⟨_,rfl⟩;rw[hS] at hOk hSl HT;have Hk1:=hh_ (show k+1≤L.length from hkl);clear hcx hv hS;obtain⟨oa,oc,rfl⟩:=hOk.shape;generalize L[k]=p at *;obtain⟨kb,kn⟩:=p;have c0:wr.cell? ⟨gx,ox+k,none⟩=some (.string ⟨kb.toArray⟩):=c0;have Hat:=hh_ hat;have hkey:=keyOf_string_mk (P:=Tryz.prog) underlying9 (s:=⟨kb.toArray⟩) (show kb.toArray.size≤_ by unfold maxLen;simpa using hks)
     have hb1 :(S.length+1)*32≤140737488355328:=by omega
     have hb2:S.length+1≤9223372036854775807:=by omega
     have hz:=hg.size;clear hat hks;have hk1:=Hk1.out;have hLb:=lt_ HWl.out hl
     go_wp2_with (first
      |(at_lookup;refine wpList_lookup_own_int _ rfl _ _ 79 rfl 9 22 .u64 strKeyed underlying79 underlying22 (zeroU _) mb n D rfl M5 _ _ rfl hkey ?_;intro c hc hwc;rw[Hat.out] at hc;cases hc;clear hwc)
      |(at_builtin;refine A6_ Ez_ Ey_ Ar_ hOk (kwLn (kb,kn)) hb1 hb2 hz (by rfl) (by rfl) _ _ (by rfl) (by rfl) (by rfl) ?_;intro v7 w7 o7 g7 l7))
     exact⟨⟨k+1,hk1,by go_num,by rw[HT.out];exact o7,Ao_ hg hOk (le_ _) g7⟩,by simp[RowKit.intOf];omega⟩
    ·have hke:L.take k=L:=tk_ (by omega)
     rw[hke] at hOk;generalize L.map kwLn=S at *;obtain⟨oa,oc,rfl⟩:=hOk.shape
     go_wp2_with fail
     go_ret
     have hzz:=G4.out.size;exact⟨_,rfl,hOk.base (fun q hq=>lt_ hzz (hOk.lt q hq).1),Aa_ G4.out hg⟩
end
section
open Go.RowKit Go.Sort Go.Maps Go.WideMaps
theorem bx_ (lo hi n:Int) (w:World):Calls Tryz.prog 29 #[bndV lo hi,.int .u64 n] w (B6_ (decide (lo≤n)&&decide (n≤hi)) w):=by
 have HB:=hh_ (show(decide (lo≤n)&&decide (n≤hi)) =(decide (lo≤n)&&decide (n≤hi)) from rfl);generalize hb :(decide (lo≤n)&&decide (n≤hi))=bb at *;have HB:=hh_ hb;clear hb
 by_cases h1:lo≤n
 ·by_cases h2:n≤hi
  ·have d1:decide (lo≤n)=true:=dt_ h1
   have d2:decide (n≤hi)=true:=dt_ h2;have HF:=hh_ (show true=bb by rw[←HB.out,d1,d2];rfl)
   go_enter func29,ntmps29
   go_wp2_with fail
   go_ret
   exact A7_ HF.out.symm gw_
  ·have d1:decide (lo≤n)=true:=dt_ h1
   have d2:decide (n≤hi)=false:=df_ h2;have HF:=hh_ (show false=bb by rw[←HB.out,d1,d2];rfl)
   go_enter func29,ntmps29
   go_wp2_with fail
   go_ret
   exact A7_ HF.out.symm gw_
 ·have d1:decide (lo≤n)=false:=df_ h1
  have HF:=hh_ (show false=bb by rw[←HB.out,d1];rfl)
  go_enter func29,ntmps29
  go_wp2_with fail
  go_ret
  exact A7_ HF.out.symm gw_
attribute [local go_sem ↓] Ag_
attribute [local go_sem] Ah_
theorem Cv_ (c:Cfg) (r:Rep) (v:Value) (l:List ItR) (w:World) (hR:RepRd w r) (hW:RepW r) (h:RdL itF 3 w v l) (hI:∀x∈l,ItW x) (hl:l.length≤1000000000) :
  Calls Tryz.prog 11 #[c.val,repV r.win r.tot r.vl r.over r.trk r.rest r.vr,v] w (RetInt (agE c r l) w):=by
 have HA:=hh_ (show agE c r l=if auditE c r≠0 then auditE c r
 else if (agT (cntL c r.win l)).2=false∨(agT (cntL c r.win l)).1≠r.tot then 13
 else if r.lines.any (lineOff (cntL c r.win l))=true then 13
 else if (delAll (cntL c r.win l) (keysN r.lines)).any (fun p=>decide (r.rest<p.2))=true then 13 else 0 from rfl)
 have HR:=hh_ hR;have HW:=hh_ hW;obtain⟨a,cp,rfl⟩:=h.shape;have H:=hh_ h;obtain⟨la,lc,e1⟩:=hR.lines.shape;obtain⟨ra,rc,e2⟩:=hR.rej.shape;have hlm:=hR.lines.2.1
 have CR:=hh_ fun w' (h:w.grownBy w' none)=>O0_ c r w' (hR.same h) hW
 have CC:=hh_ fun w' (g:w.grownBy w' none)=>Yb_ c r.win (.slice a l.length cp) l w' (h.same g) hI hl
 have hLl:=hh_ (Ex_ c r.win l);have HAs:=hh_ (Kk_ c r.win l);have HLw:=hh_ (Pl_ c r.win l hI);have HLk:=hh_ (O4_ c r.win l (N:=9223372036854775807) fun x hx=>(hI x hx).key);rw[e1,e2] at CR ⊢;have E1:=hh_ e1;clear hR e1 e2 h hI;generalize agE c r l=AE at *;have hmm:=@run_makeMap Tryz.prog
 go_enter func11,ntmps11
 go_upto_region 1 with(refine Au_ rfl _ rfl c rfl ?_;intro w1 B1 G1 z1)
 have D2:=Blk.new w1 (repA r.win r.tot (.slice la r.lines.length lc) r.over r.trk r.rest (.slice ra r.rej.length rc)) 26;have B2:=B1.same (ga_ w1 (.cells #[.int .i64 r.win,.int .u64 r.tot,.slice la r.lines.length lc,.int .u64 r.over,.int .i64 r.trk,.int .u64 r.rest,.slice ra r.rej.length rc] 26) none);have G2:=Ad_ G1 (.cells #[.int .i64 r.win,.int .u64 r.tot,.slice la r.lines.length lc,.int .u64 r.over,.int .i64 r.trk,.int .u64 r.rest,.slice ra r.rej.length rc] 26);generalize w1.alloc _=w2 at *;generalize w1.heap.size=rb at *;clear B1 G1;have C2:=hh_ (CR.out w2 G2)
 by_cases hE:auditE c r=0
 case neg=>
  have HF:=hh_ (HA.out.trans (if_pos hE));generalize auditE c r=E at *
  have he2 :(E != 0)=true:=by simpa using hE
  have he3 :(E==0)=false:=by simpa using hE
  clear hE HA
  go_wp2_with (first
   |(refine Al_ rfl _ rfl _ rfl c (by assumption) ?_)
   |(refine Ax_ rfl _ rfl _ rfl D2 ?_)
   |(go_at_call 8;refine C2.out.mono ?_;rintro e w3 ⟨rfl,g3⟩))
  go_ret
  exact Ai_ HF.out (Aa_ G2 g3)
 case pos=>
  have HF:=hh_ (HA.out.trans (if_neg (by omega)))
  have OK:=hh_ (p:=Zf_ r) (by
   refine Up_ (Decidable.byContradiction fun h=>?_);unfold auditE at hE;rw[if_pos h] at hE
   exact h hE)
  rw[hE] at C2;clear HA hE;generalize cntL c r.win l=L at *
  go_upto_region 4 with(first
   |(refine Al_ rfl _ rfl _ rfl c (by assumption) ?_)
   |(refine Ax_ rfl _ rfl _ rfl D2 ?_)
   |(go_at_call 8;refine C2.out.mono ?_;rintro e w3 ⟨rfl,g3⟩))
  have D3:=D2.same g3;have B3:=B2.same g3;have G3:=Aa_ G2 g3;clear D2 B2 G2 g3 C2
  go_upto_region 5 with fail
  have M4:=World.ownsMap_made w3 Tryz.prog 9 (plainElem (H:=Unit) Tryz.prog 22);have D4:=D3.same (ga_ w3 (.map #[] 0) none);have B4:=B3.same (ga_ w3 (.map #[] 0) none);have G4:=Ad_ G3 (.map #[] 0);have hmw:w.heap.size≤w3.heap.size:=G3.size;have hrm:=D3.lt;have hbm:=B3.lt;generalize w3.alloc _=w4 at *;generalize w3.heap.size=mb at *;clear D3 B3 G3 hmm;have d4:=D4.cell;have C4:=hh_ (CC.out w4 G4)
  go_upto_region 7 with(first
   |(refine Al_ rfl _ rfl _ rfl c (by assumption) ?_)
   |(go_at_call 13;refine C4.out.mono ?_;rintro e w5 ⟨v5,rfl,o5,g5⟩;obtain⟨a5,c5,rfl⟩:=o5.shape))
  have M5:=M4.kept g5 (by simp);have HD5:=hh_ (D4.same g5);have HG5:=hh_ (Aa_ G4 g5);have hmb4:=M4.lt;have HO:=hh_ o5;clear M4 D4 B4 G4 d4 C4 o5 g5
  go_loopw [31,9,10] (fun s31 s9 s10 wk=>∃k:Nat,k≤L.length∧s31=.int .i64 k∧s9=.int .u64 (agT (L.take k)).1∧s10=.bool (agT (L.take k)).2∧(∃D n,wk.ownsMap Tryz.prog 9 (plainElem (H:=Unit) Tryz.prog 22) mb n D∧n≤k∧CntD D (L.take k))∧w5.grownBy wk (some mb)) (fun s31 _ _ _=>L.length-(RowKit.intOf s31).toNat)
  case atStart=>exact⟨0,zl_ _,rfl,rfl,rfl,⟨_,0,M5,le_ _,CntD.nil⟩,Ab_ _ _⟩
  case round=>
   clear M5;obtain⟨k,hk,rfl,rfl,rfl,⟨D,n,hM,hn,hD⟩,hg⟩:=hrel;have hLb:=lt_ hLl.out hl
   by_cases hkl:k<L.length
   ·have O6:=HO.out.kept hg (fun q hq e=>by cases e;have:=(HO.out.lt _ hq).1;omega)
    obtain⟨gx,ox,cx,hv,hgx,hcx⟩:=O6.rd.at_ Ar_ (show k<(L.map kwLn).length by rw[List.length_map];exact hkl)
    obtain⟨rfl,-,rfl⟩:a5=some ⟨gx,ox,none⟩∧(L.map kwLn).length =(L.map kwLn).length∧c5=cx:=by simpa only[Value.slice.injEq] using hv
    have hTk:L.take (k+1)=L.take k++[L[k]]:=tg_ hkl;have HT:=hh_ (show agT (L.take (k+1)) =(satA (agT (L.take k)).1 L[k].2,(agT (L.take k)).2&&fitA (agT (L.take k)).1 L[k].2) by rw[hTk,J2_]);have hTw:W64 (agT (L.take k)).1:=Yv_ (fun p hp=>HLw.out p (List.mem_of_mem_take hp));have hnw:=HLw.out _ (mg_ hkl);have hkw:=HLk.out _ (mg_ hkl);have hnew:ctHas (L.take k) L[k].1=false:=c9_ (by rw[←hTk];exact List.Pairwise.sublist (List.take_sublist _ _) HAs.out);have HP:=hh_ (p:=∀D',D'=D.put (.string L[k].1) (.lit (.int .u64 L[k].2))→CntD D' (L.take (k+1))) (fun D' e=>by rw[e,hTk];exact hD.snoc hM.isMap hnew trivial)
    have c0:wr.cell? ⟨gx,ox+k*3,none⟩=some (.string ⟨L[k].1.toArray⟩):=by have:=hcx 0 _ rfl;rw[List.getElem_map,Nat.add_zero] at this;exact this
    have c1:wr.cell? ⟨gx,ox+k*3+1,none⟩=some (.int .u64 L[k].2):=by have:=hcx 1 _ rfl;rw[List.getElem_map] at this;exact this
    have c2:wr.cell? ⟨gx,ox+k*3+2,none⟩=some (.int .u64 L[k].2):=by have:=hcx 2 _ rfl;rw[List.getElem_map] at this;exact this
    have Hk1:=hh_ (show k+1≤L.length from hkl);clear hcx hv O6 hnew hD hTk;generalize agT (L.take k)=TE at *;obtain⟨T,e⟩:=TE;generalize L[k]=p at *;obtain⟨kb,kn⟩:=p;dsimp only at *;have hkey:=keyOf_string_mk (P:=Tryz.prog) underlying9 (s:=⟨kb.toArray⟩) (show kb.toArray.size≤_ by unfold maxLen;simpa using hkw)
    have CA:=hh_ fun w'=>D2_ T kn w' hTw hnw
    have hwf :(Lit.int .u64 kn).wf=true:=WalkArith.wf_u64 (by unfold W64 at hnw;omega)
    have hnm:n<maxLen:=by unfold maxLen;omega
    have M6:=hM.alloc (.cells #[.string ⟨kb.toArray⟩,.int .u64 kn,.int .u64 kn] 46);have A6:=Blk.new wr #[.string ⟨kb.toArray⟩,.int .u64 kn,.int .u64 kn] 46;have G6:=Ad_ hg (.cells #[.string ⟨kb.toArray⟩,.int .u64 kn,.int .u64 kn] 46);clear hTw hnw hkw hM hg
    go_upto_region 9 with fail
    generalize wr.alloc _=w6 at *;generalize wr.heap.size=gk at *;have a6:=A6.cell;generalize satA T kn=T2 at *;generalize fitA T kn=f2 at *;clear c0 c1 c2;have hk1:=Hk1.out;cases e
    all_goals
     go_wp2_with (first
      |(go_at_call 28;refine(CA.out _).mono ?_;rintro e w' ⟨rfl,hw'⟩;subst w')
      |(at_mapUpdate;refine wpList_mapUpdate_own _ rfl _ _ _ 79 rfl 9 22 strKeyed underlying79 _ mb n D rfl M6 hnm _ _ _ rfl rfl hkey _ [] (plainElem_int underlying22 hwf) ?_;intro w7 M7 g7))
     exact⟨⟨k+1,hk1,by go_num,by rw[HT.out],by rw[HT.out];rfl,⟨_,n+1,M7,by omega,HP.out _ rfl⟩,Aa_ G6 g7⟩,by simp[RowKit.intOf];omega⟩
   ·have hke:L.take k=L:=tk_ (by omega)
    rw[hke] at hD ⊢;have hgw:=Af_ HG5.out hg hmw;have D6:=HD5.out.kept hg (by simp;omega);have d6:=D6.cell;have HTw:=hh_ (Yv_ HLw.out);generalize agT L=TE at *;obtain⟨T,e⟩:=TE;dsimp only at *
    cases e with
    | false=>
     have HF2:=hh_ (HF.out.trans (if_pos (.inl rfl)))
     go_wp2_with fail
     go_ret
     exact Ai_ HF2.out hgw
    | true=>
     by_cases hT:T=r.tot
     case neg=>
      have HF2:=hh_ (HF.out.trans (if_pos (.inr hT)))
      have t1 :(T != r.tot)=true:=by simpa using hT
      have t2 :(T==r.tot)=false:=by simpa using hT
      go_wp2_with fail
      go_ret
      exact Ai_ HF2.out hgw
     case pos=>
      have HF2:=hh_ (HF.out.trans (if_neg (by simp[hT])))
      have t1 :(T != r.tot)=false:=by simpa using hT
      have t2 :(T==r.tot)=true:=by simpa using hT
      clear HF
      go_upto_region 16 with fail
      clear t1 t2 hT HTw hke hkl d6 D6;have HM:=hh_ hM;have HD:=hh_ hD;have HG:=hh_ hg;clear hM hD hg hgw
      go_loopw [63] (fun s63 wk=>∃k:Nat,k≤r.lines.length∧s63=.int .i64 k∧(∀i (hi:i<r.lines.length),i<k→lineOff L r.lines[i]=false)∧(∃D,wk.ownsMap Tryz.prog 9 (plainElem (H:=Unit) Tryz.prog 22) mb n D∧CntD D (delAll L (keysN (r.lines.take k))))∧w5.grownBy wk (some mb)) (fun s63 _=>r.lines.length-(RowKit.intOf s63).toNat)
      case atStart=>exact⟨0,zl_ _,rfl,by intro i hi h;omega,⟨D,HM.out,HD.out⟩,HG.out⟩
      case round=>
       clear HM HD HG;obtain⟨k,hk,rfl,hall,⟨D,hM,hD⟩,hg⟩:=hrel;have Hall:=hh_ hall;clear hall;have HGw:=hh_ (Af_ HG5.out hg hmw)
       by_cases hlt:k<r.lines.length
       ·obtain⟨g,off,cap,hv,hgl,hc⟩:=(HR.out.lines.same HGw.out).at_ Ar_ hlt
        rw[E1.out] at hv;cases hv;have c0:=hc 0 _ rfl;have c1:=hc 1 _ rfl;have c2:=hc 2 _ rfl;rw[Nat.add_zero] at c0;obtain⟨-,hks,-,-⟩:=OK.out.ln hlt
        have hnot:r.lines[k].key.data.toList∉keysN (r.lines.take k):=by
         have h1:=OK.out.keys
         have h2 :(keysN (r.lines.take (k+1))).Nodup:=by
          unfold keysN at h1 ⊢;rw[List.map_take];exact List.Nodup.sublist (List.take_sublist _ _) h1
         rw[D9_ hlt,List.nodup_append] at h2
         exact fun hm=>h2.2.2 _ hm _ (by simp) rfl
        have hat:=hh_ (hD.at_ r.lines[k].key.data.toList);rw[Np_ hnot] at hat;have HDl:=hh_ (p:=CntD (D.del (.string r.lines[k].key.data.toList)) (delAll L (keysN (r.lines.take (k+1))))) (by rw[D9_ hlt,Mw_];exact hD.del);have HY:=hh_ (p:=lineOff L r.lines[k]=true→AE=13) (fun h=>HF2.out.trans (if_pos (List.any_eq_true.2 ⟨_,mg_ hlt,h⟩)))
        have HN:=hh_ (p:=lineOff L r.lines[k]=false→∀i (hi:i<r.lines.length),i<k+1→lineOff L r.lines[i]=false) (fun h i hi hik=>by
         rcases Nat.lt_or_ge i k with h1|h1
         ·exact Hall.out i hi h1
         ·obtain rfl:i=k:=by omega
          exact h)
        have HBl:=hh_ (show lineOff L r.lines[k]=!(decide (r.lines[k].lo≤ctAt L r.lines[k].key.data.toList)&&decide (ctAt L r.lines[k].key.data.toList≤r.lines[k].hi)) from rfl)
        have CB:=hh_ fun w'=>bx_ r.lines[k].lo r.lines[k].hi (ctAt L r.lines[k].key.data.toList) w'
        clear hc hnot hD;generalize lineOff L r.lines[k]=bl at *;generalize (decide (r.lines[k].lo≤ctAt L r.lines[k].key.data.toList)&&decide (ctAt L r.lines[k].key.data.toList≤r.lines[k].hi))=bb at *;generalize r.lines[k]=x at *;generalize ctAt L x.key.data.toList=q at *;have hkey:=keyOf_string_mk (P:=Tryz.prog) underlying9 (s:=x.key) (by unfold maxLen;omega);have M6:=hM.alloc (.cells #[.string x.key,.int .u64 x.lo,.int .u64 x.hi] 46);have A6:=Blk.new wr #[.string x.key,.int .u64 x.lo,.int .u64 x.hi] 46;have G6:=Ad_ hg (.cells #[.string x.key,.int .u64 x.lo,.int .u64 x.hi] 46);have GW6:=Ad_ HGw.out (.cells #[.string x.key,.int .u64 x.lo,.int .u64 x.hi] 46);clear hM hg
        go_upto_region 18 with fail
        generalize wr.alloc _=w6 at *;generalize wr.heap.size=gk at *;have a6:=A6.cell;clear c0 c1 c2
        cases bb with
        | false=>
         have HQ:=hh_ (HY.out (by rw[HBl.out];rfl))
         go_wp2_with (first
          |(at_lookup;refine wpList_lookup_own_int _ rfl _ _ 79 rfl 9 22 .u64 strKeyed underlying79 underlying22 (zeroU _) mb n D rfl M6 _ _ rfl hkey ?_;intro c hc hwc;rw[hat.out] at hc;cases hc;clear hwc)
          |(go_at_call 29;refine(CB.out _).mono ?_;rintro e w8 ⟨rfl,g8⟩))
         go_ret
         exact Ai_ HQ.out (Aa_ GW6 g8)
        | true=>
         have HQ:=hh_ (HN.out (by rw[HBl.out];rfl))
         go_wp2_with (first
          |(at_lookup;refine wpList_lookup_own_int _ rfl _ _ 79 rfl 9 22 .u64 strKeyed underlying79 underlying22 (zeroU _) mb n D rfl M6 _ _ rfl hkey ?_;intro c hc hwc;rw[hat.out] at hc;cases hc;clear hwc)
          |(go_at_call 29;refine(CB.out _).mono ?_;rintro e w8 ⟨rfl,g8⟩;have M8:=M6.kept g8 (by simp);have a8:=(A6.same g8).cell)
          |(at_delete;refine wpList_delete_own _ rfl _ _ 79 9 rfl 22 strKeyed underlying79 _ mb n D rfl M8 _ _ rfl hkey ?_;intro w9 M9 t9))
         exact⟨⟨k+1,by omega,by go_num,HQ.out,⟨_,M9,HDl.out⟩,Aa_ G6 (Aa_ (Ak_ g8 _) t9.grown)⟩,by simp[RowKit.intOf];omega⟩
       ·have hke:r.lines.take k=r.lines:=tk_ (by omega)
        rw[hke] at hD
        have HF3:=hh_ (HF2.out.trans (if_neg (by
         rw[Bool.not_eq_true,List.any_eq_false];intro x hx;obtain⟨i,hi,rfl⟩:=List.getElem_of_mem hx
         simp[Hall.out i hi (by omega)])))
        clear HF2 Hall hke;have HLA:=hh_ (Qt_ HAs.out (keysN r.lines));generalize delAll L (keysN r.lines)=Lr at *;have D6:=HD5.out.kept hg (by simp;omega);have HHas:=hh_ hD.has;have HAt:=hh_ hD.at_;have hrest:=HW.out.rest;clear hD
        go_upto_region 23 with(at_range;refine wpList_range_own _ rfl _ 79 rfl 9 22 strKeyed underlying79 _ mb n D rfl hM ?_;intro w6 hrg6 hg6 hs6)
        have D7:=hh_ (D6.same hg6);have HGw6:=hh_ (Aa_ HGw.out hg6);have hrb:=D6.lt;have hib:=HGw.out.size;generalize wr.heap.size=ib at *;clear D6 hg hM
        go_frame
        go_loopw [17] (fun _ wk=>∃left cnt,wk.ranges Tryz.prog 9 (plainElem (H:=Unit) Tryz.prog 22) mb ib n D left cnt∧(∀p∈Lr,left (.string p.1)=false→p.2≤r.rest)∧w6.grownBy wk (some ib)) (fun _ wk=>wk.rangeLeft mb ib)
        case atStart=>
         refine⟨_,_,hrg6,fun p hp h=>?_,Ab_ _ _⟩;rw[HHas.out] at h
         have:ctHas Lr p.1=true:=Eu_.2 (List.mem_map.2 ⟨p,hp,rfl⟩)
         rw[this] at h;cases h
        case round=>
         clear hrg6;obtain⟨left,cnt,hrg,hseen,hg⟩:=hrel;have Hs:=hh_ hseen;clear hseen
         go_wp2_with (at_next;refine wpList_next_ranges _ rfl _ rfl 9 strKeyed (plainElem (H:=Unit) Tryz.prog 22) Value.string (Value.int .u64) (fun key kl hk=>by obtain⟨s,rfl,_,_⟩:=string_of_keyOf underlying9 hk;exact⟨s,rfl⟩) (fun v y hv=>by obtain⟨c,rfl,_⟩:=plainElem_int_inv underlying22 hv;exact⟨c,rfl⟩) mb ib n _ _ _ rfl hrg ?_ ?_)
         ·intro hc0 hl0
          have HF4:=hh_ (HF3.out.trans (if_neg (by
           rw[Bool.not_eq_true,List.any_eq_false];intro p hp
           have:=Hs.out p hp (hl0 _)
           simp;omega)))
          go_wp2_with fail
          go_ret
          exact Ai_ HF4.out (Af_ HGw6.out hg hib)
         ·intro x cc kl yd yp w7 cnt2 hkey hlk hv hat hrg2 hlt hg2 hs2 hen
          obtain⟨s,es,rfl,hsz⟩:=string_of_keyOf underlying9 hkey;cases es;obtain⟨c2,ec,ey,hwc⟩:=plainElem_int_inv underlying22 hv;cases ec;cases ey;have h0:=HAt.out x.data.toList;rw[hat] at h0
          have hcc:cc=ctAt Lr x.data.toList:=by cases h0;rfl
          have D8:=(D7.out.kept hg (by simp;omega)).kept hg2 (by simp;omega);have d8:=D8.cell
          by_cases hbig:r.rest<cc
          ·have HF4:=hh_ (p:=AE=13) (HF3.out.trans (if_pos (by
            cases hh:ctHas Lr x.data.toList with
            | false=>rw[M3_ hh] at hcc;unfold W64 at hrest;omega
            | true=>exact List.any_eq_true.2 ⟨_,M6_ hh,by simp;omega⟩)))
           have hb1:decide (r.rest<cc)=true:=dt_ hbig;clear hcc h0 hat hv hkey
           go_wp2_with fail
           go_ret
           exact Ai_ HF4.out (Af_ (Af_ HGw6.out hg hib) hg2 (lt_ hib (by omega)))
          ·have hb1:decide (r.rest<cc)=false:=df_ hbig
           have HN:=hh_ (p:=∀p∈Lr,(left (.string p.1)&&!(Lit.string p.1).sameKey (.string x.data.toList))=false→p.2≤r.rest) (fun p hp h=>by
            cases hl:left (.string p.1) with
            | false=>exact Hs.out p hp hl
            | true=>
             rw[hl] at h
             have e:p.1=x.data.toList:=by simpa [Lit.sameKey] using h
             have:=Js_ HLA.out hp
             rw[e,←hcc] at this
             omega)
           clear hcc h0 hat hv hkey
           go_wp2_with fail
           exact⟨⟨_,_,hrg2,HN.out,Aa_ hg hg2⟩,by rw[hrg2.left_eq,hrg.left_eq];exact hlt⟩
end
section
def Ent.cnt (e:Ent):Int:=e.own+e.slack
def hasK (k:ByteArray) (e:Ent):Bool:=decide (e.key=k)
def getE (L:List Ent) (k:ByteArray):Option Ent:=L.find? (hasK k)
def delE (L:List Ent) (k:ByteArray):List Ent:=L.eraseP (hasK k)
def keysE (L:List Ent):List ByteArray:=L.map (·.key)
def ltK (a b:ByteArray):Bool:=decide (a.data.toList<b.data.toList)
def insE (L:List Ent) (e:Ent):List Ent:=L.takeWhile (fun x=>ltK x.key e.key)++e::L.dropWhile (fun x=>ltK x.key e.key)
def sortEn (L:List Ent):List Ent:=L.foldl insE []
def minE:List Ent→Option Ent
 | []=>none
 | e::L=>match minE L with
  | none=>some e
  | some x=>if x.cnt<e.cnt then some x else some e
structure Ents (L:List Ent):Prop where
 nodup :(keysE L).Nodup
 key:∀e∈L,0<e.key.size∧e.key.size≤255
 own:∀e∈L,1≤e.own
 slack:∀e∈L,0≤e.slack
theorem A4_ {L:List Ent} {k:ByteArray} {e:Ent} (h:getE L k=some e):e∈L∧e.key=k:=
 ⟨List.mem_of_find?_eq_some h,of_decide_eq_true (List.find?_some h:hasK k e=true)⟩
theorem Cz_ {L:List Ent} {k:ByteArray}:getE L k=none↔k∉keysE L:=by
 simp only[getE,keysE,hasK,List.find?_eq_none,decide_eq_true_eq,List.mem_map,not_exists,not_and]
theorem Ed_ {L:List Ent} {e:Ent} (h:e∈L):e.key∈keysE L:=List.mem_map_of_mem h
theorem F7_ {L:List Ent} (h :(keysE L).Nodup) {e:Ent} (he:e∈L):getE L e.key=some e:=by
 induction L with
 | nil=>simp at he
 | cons a L ih=>
  have hn:=List.nodup_cons.1 (by simpa [keysE] using h :(a.key::keysE L).Nodup);unfold getE
  by_cases ha:a.key=e.key
  ·rcases List.mem_cons.1 he with rfl|h1
   ·simp[hasK]
   ·exact absurd (ha▸Ed_ h1) hn.1
  ·rcases List.mem_cons.1 he with rfl|h1
   ·exact absurd rfl ha
   ·rw[List.find?_cons_of_neg (by simpa [hasK] using ha)]
    exact ih hn.2 h1
theorem C6_ (L:List Ent) (k:ByteArray) :(delE L k).Sublist L:=List.eraseP_sublist
theorem Be_ {L:List Ent} {k:ByteArray} {e:Ent} (h:e∈delE L k):e∈L:=(C6_ L k).subset h
theorem Jo_ {L M:List Ent} (h:L.Sublist M) :(keysE L).Sublist (keysE M):=h.map _
theorem Bq_ {L:List Ent} (h :(keysE L).Nodup) {k:ByteArray} {x:ByteArray}:x∈keysE (delE L k)↔x∈keysE L∧x≠k:=by
 induction L with
 | nil=>simp[delE,keysE]
 | cons a L ih=>
  have hn:=List.nodup_cons.1 (by simpa [keysE] using h :(a.key::keysE L).Nodup);unfold delE
  by_cases ha:a.key=k
  ·rw[List.eraseP_cons_of_pos (by simpa [hasK] using ha)]
   simp only[keysE,List.map_cons,List.mem_cons]
   constructor
   ·intro hx
    refine⟨.inr hx,fun e=>?_⟩;rw[e,←ha] at hx;exact hn.1 hx
   ·rintro⟨rfl|hx,hne⟩
    ·exact absurd ha hne
    ·exact hx
  ·rw[List.eraseP_cons_of_neg (by simpa [hasK] using ha)]
   have:=ih hn.2
   unfold delE at this;simp only[keysE,List.map_cons,List.mem_cons] at *;rw[this]
   constructor
   ·rintro(rfl |⟨hx,hne⟩)
    ·exact⟨.inl rfl,ha⟩
    ·exact⟨.inr hx,hne⟩
   ·rintro⟨rfl|hx,hne⟩
    ·exact .inl rfl
    ·exact .inr ⟨hx,hne⟩
theorem Sg_ {L:List Ent} {k:ByteArray} {e:Ent} (h:getE L k=some e):L.Perm (e::delE L k):=by
 induction L with
 | nil=>simp[getE] at h
 | cons a L ih=>
  unfold getE at h;unfold delE
  by_cases ha:hasK k a
  ·rw[List.find?_cons_of_pos ha] at h
   cases h;rw[List.eraseP_cons_of_pos ha]
  ·rw[List.find?_cons_of_neg ha] at h
   rw[List.eraseP_cons_of_neg ha];exact((ih h).cons a).trans (List.Perm.swap _ _ _)
theorem Da_ {L:List Ent} {k:ByteArray} {e:Ent} (h:getE L k=some e) :(delE L k).length+1=L.length:=by
 have:=(Sg_ h).length_eq;simp at this;omega
theorem Ents.sub {L M:List Ent} (h:Ents M) (hs:L.Sublist M):Ents L:=
 ⟨(Jo_ hs).nodup h.nodup,fun e he=>h.key e (hs.subset he),fun e he=>h.own e (hs.subset he),fun e he=>h.slack e (hs.subset he)⟩
theorem Ents.del {L:List Ent} (h:Ents L) (k:ByteArray):Ents (delE L k):=h.sub (C6_ L k)
theorem Ents.snoc {L:List Ent} (h:Ents L) {e:Ent} (hk:e.key∉keysE L) (h1:0<e.key.size∧e.key.size≤255) (h2:1≤e.own) (h3:0≤e.slack):Ents (L++[e]):=by
 refine⟨?_,?_,?_,?_⟩
 ·simp only[keysE,List.map_append,List.map_cons,List.map_nil]
  refine List.nodup_append.2 ⟨h.nodup,by simp,fun a ha b hb=>?_⟩;rw[List.mem_singleton] at hb;subst hb
  exact fun e'=>hk (e'▸ha)
 all_goals
  intro x hx
  rcases ma_ hx with hx|hx
 ·exact h.key x hx
 ·rw[ms_ hx];exact h1
 ·exact h.own x hx
 ·rw[ms_ hx];exact h2
 ·exact h.slack x hx
 ·rw[ms_ hx];exact h3
theorem Ents.nil:Ents []:=⟨by simp[keysE],by simp,by simp,by simp⟩
theorem cv_ {L:List Ent} (h :(keysE L).Nodup) (k:ByteArray):k∉keysE (delE L k):=fun hx=>((Bq_ h).1 hx).2 rfl
theorem Gk_:∀{L:List Ent} {e:Ent},minE L=some e→e∈L
 | [],e,h=>by simp[minE] at h
 | a::L,e,h=>by
  unfold minE at h
  cases hm:minE L with
  | none=>rw[hm] at h;cases h;simp
  | some x=>
   rw[hm] at h;dsimp only at h
   split at h
   ·cases h;exact List.mem_cons_of_mem _ (Gk_ hm)
   ·cases h;simp
theorem Hq_ {L:List Ent}:minE L=none↔L=[]:=by
 cases L with
 | nil=>simp[minE]
 | cons a L=>unfold minE;cases minE L <;> simp;split <;> simp
theorem Uo_:∀{L:List Ent} {e:Ent},minE L=some e→∀x∈L,e.cnt≤x.cnt
 | [],e,h=>by simp[minE] at h
 | a::L,e,h=>by
  intro x hx;unfold minE at h
  cases hm:minE L with
  | none=>
   rw[hm] at h;cases h;rw[Hq_.1 hm] at hx
   rcases ms_ hx with rfl
   exact Int.le_refl _
  | some y=>
   rw[hm] at h;dsimp only at h;have ih:=Uo_ hm
   split at h
   ·cases h
    rcases List.mem_cons.1 hx with rfl|hx
    ·omega
    ·exact ih x hx
   ·cases h
    rcases List.mem_cons.1 hx with rfl|hx
    ·exact Int.le_refl _
    ·have:=ih x hx;omega
structure TabM where
 (mode m:Int) (L:List Ent) (base sum:Int)
def mostW:Int:=9223372036854775808
def addErr (sum:Int) (k:ByteArray) (w:Int):Int:=if k.size=0 then 3 else if w=0 then 1 else if mostW<sum+w then 12 else 0
def minOwn (L:List Ent) (w:Int):Int:=L.foldl (fun d e=>min d e.own) w
def cutE (L:List Ent) (d:Int):List Ent:=(L.map fun e=>(⟨e.key,e.own-d,e.slack⟩:Ent)).filter fun e=>decide (0<e.own)
def TabM.add (T:TabM) (k:ByteArray) (w:Int):TabM:=
 match getE T.L k with
 | some e=>{ T with sum:=T.sum+w,L:=delE T.L k++[⟨k,e.own+w,e.slack⟩] }
 | none=>
  if T.mode=2 then
   if (T.L.length:Int)=T.m then
    { T with sum:=T.sum+w,base:=T.base+minOwn T.L w,L:=if 0<w-minOwn T.L w then cutE T.L (minOwn T.L w)++[⟨k,w-minOwn T.L w,0⟩] else cutE T.L (minOwn T.L w) }
   else { T with sum:=T.sum+w,L:=T.L++[⟨k,w,0⟩] }
  else
   match minE T.L with
   | some x=>if (T.L.length:Int)=T.m then { T with sum:=T.sum+w,base:=x.cnt,L:=delE T.L x.key++[⟨k,w,x.cnt⟩] } else { T with sum:=T.sum+w,L:=T.L++[⟨k,w,T.base⟩] }
   | none=>{ T with sum:=T.sum+w,L:=T.L++[⟨k,w,T.base⟩] }
def TabM.fix (T:TabM) (e:Ent):Ent:=if T.mode=2 then ⟨e.key,e.own,T.base⟩ else e
def TabM.get (T:TabM) (k:ByteArray):Option Ent:=(getE T.L k).map T.fix
def TabM.take (T:TabM) (k:ByteArray):TabM:={ T with L:=delE T.L k }
def TabM.swapE (T:TabM) (_:ByteArray) (e:Ent):Ent:=if T.mode=2 then ⟨e.key,e.own,0⟩ else if e.own<T.base then ⟨e.key,e.own,max e.slack (T.base-e.own)⟩ else e
def TabM.swap (T:TabM) (k:ByteArray) (e:Ent):TabM:={ T with L:=delE T.L k++[T.swapE k e] }
def TabM.swapOk (T:TabM) (x e:Ent):Prop:=if T.mode=2 then 1≤e.own∧e.own≤x.own∧e.slack≤T.base else e.cnt≤x.cnt
def TabM.entries (T:TabM):List Ent:=sortEn (T.L.map T.fix)
structure Bt_ (T:TabM):Prop where
 mode:T.mode=1∨T.mode=2
 m:1≤T.m∧T.m≤64
 ents:Ents T.L
 len :(T.L.length:Int)≤T.m
 base:0≤T.base∧T.base≤T.sum
 sum:T.sum≤mostW
 cnt:∀e∈T.L,(T.fix e).cnt≤T.sum
 low:T.mode=1→∀e∈T.L,T.base≤e.cnt
 zero:T.mode=2→∀e∈T.L,e.slack=0
theorem Bt_.new {mode m:Int} (h:mode=1∨mode=2) (hm:1≤m∧m≤64):Bt_ ⟨mode,m,[],0,0⟩:=
 ⟨h,hm,Ents.nil,by simp;omega,by simp,by simp[mostW],by simp,by simp,by simp⟩
theorem Lf_:∀(L:List Ent) (w:Int),minOwn L w≤w∧∀e∈L,minOwn L w≤e.own:=by
 intro L
 induction L with
 | nil=>intro w;simp[minOwn]
 | cons a L ih=>
  intro w;have h1:=ih (min w a.own);have e1:minOwn (a::L) w=minOwn L (min w a.own):=rfl;rw[e1];refine⟨by omega,fun e he=>?_⟩
  rcases List.mem_cons.1 he with rfl|he
  ·omega
  ·exact h1.2 e he
theorem minOwn_pos {L:List Ent} {w:Int} (hw:1≤w) (h:∀e∈L,1≤e.own):1≤minOwn L w:=by
 induction L generalizing w with
 | nil=>simpa [minOwn] using hw
 | cons a L ih=>
  have ha:=h a (by simp)
  exact ih (w:=min w a.own) (by omega) fun e he=>h e (List.mem_cons_of_mem _ he)
theorem Kp_ {L:List Ent} {d:Int} {e:Ent} (h:e∈cutE L d):∃x∈L,e =⟨x.key,x.own-d,x.slack⟩∧0<x.own-d:=by
 obtain⟨h1,h2⟩:=List.mem_filter.1 h;obtain⟨x,hx,rfl⟩:=List.mem_map.1 h1;exact⟨x,hx,rfl,of_decide_eq_true h2⟩
theorem E3_ (L:List Ent) (d:Int) :(keysE (cutE L d)).Sublist (keysE L):=by
 have h1 :(cutE L d).Sublist (L.map fun e=>(⟨e.key,e.own-d,e.slack⟩:Ent)):=List.filter_sublist
 have:=h1.map (·.key)
 simpa [keysE,List.map_map,Function.comp_def] using this
theorem Gg_ (L:List Ent) (d:Int) :(cutE L d).length≤L.length:=by
 have h1 :(cutE L d).length≤(L.map fun e=>(⟨e.key,e.own-d,e.slack⟩:Ent)).length:=List.length_filter_le _ _
 simpa using h1
theorem Ents.cut {L:List Ent} (h:Ents L) (d:Int):Ents (cutE L d):=by
 refine⟨(E3_ L d).nodup h.nodup,fun e he=>?_,fun e he=>?_,fun e he=>?_⟩ <;> obtain⟨x,hx,rfl,h0⟩:=Kp_ he
 ·exact h.key x hx
 ·show 1≤x.own-d;omega
 ·exact h.slack x hx
theorem fix2 {T:TabM} (h:T.mode=2) (e:Ent):T.fix e =⟨e.key,e.own,T.base⟩:=if_pos h
theorem fix1 {T:TabM} (h:T.mode≠2) (e:Ent):T.fix e=e:=if_neg h
theorem Em_ (T:TabM) (e:Ent) :(T.fix e).key=e.key:=by unfold TabM.fix;split <;> rfl
theorem Dn_ (T:TabM) (e:Ent) :(T.fix e).own=e.own:=by unfold TabM.fix;split <;> rfl
inductive f7_ (T:TabM) (k:ByteArray) (w:Int):Prop
 | cut (hm:T.mode=2) (hl :(T.L.length:Int)=T.m)
 | room (hl :(T.L.length:Int)≠T.m)
 | out (hm:T.mode≠2) (hl :(T.L.length:Int)=T.m) (x:Ent) (hx:minE T.L=some x)
theorem addNo {T:TabM} (h:Bt_ T) (k:ByteArray) (w:Int):f7_ T k w:=by
 by_cases hl :(T.L.length:Int)=T.m
 ·by_cases hm:T.mode=2
  ·exact .cut hm hl
  ·cases hx:minE T.L with
   | none=>rw[Hq_.1 hx] at hl;have:=h.m;simp at hl;omega
   | some x=>exact .out hm hl x hx
 ·exact .room hl
theorem Ke_ {T:TabM} {k:ByteArray} {w:Int} {e:Ent} (h:getE T.L k=some e):T.add k w={ T with sum:=T.sum+w,L:=delE T.L k++[⟨k,e.own+w,e.slack⟩] }:=by unfold TabM.add;rw[h]
theorem Ko_ {T:TabM} {k:ByteArray} {w:Int} (h:getE T.L k=none) (hm:T.mode=2) (hl :(T.L.length:Int)=T.m) :
  T.add k w={ T with sum:=T.sum+w,base:=T.base+minOwn T.L w,L:=if 0<w-minOwn T.L w then cutE T.L (minOwn T.L w)++[⟨k,w-minOwn T.L w,0⟩] else cutE T.L (minOwn T.L w) }:=by
 unfold TabM.add;rw[h];dsimp only;rw[if_pos hm,if_pos hl]
theorem Fc_ {T:TabM} {k:ByteArray} {w:Int} (h:getE T.L k=none) (hl :(T.L.length:Int)≠T.m) :
  T.add k w={ T with sum:=T.sum+w,L:=T.L++[⟨k,w,if T.mode=2 then 0 else T.base⟩] }:=by
 unfold TabM.add;rw[h];dsimp only
 by_cases hm:T.mode=2
 ·rw[if_pos hm,if_neg hl,if_pos hm]
 ·rw[if_neg hm,if_neg hm]
  cases hx:minE T.L with
  | none=>rfl
  | some x=>dsimp only;rw[if_neg hl]
theorem Jn_ {T:TabM} {k:ByteArray} {w:Int} {x:Ent} (h:getE T.L k=none) (hm:T.mode≠2) (hl :(T.L.length:Int)=T.m) (hx:minE T.L=some x) :
  T.add k w={ T with sum:=T.sum+w,base:=x.cnt,L:=delE T.L x.key++[⟨k,w,x.cnt⟩] }:=by
 unfold TabM.add;rw[h];dsimp only;rw[if_neg hm,hx];dsimp only;rw[if_pos hl]
theorem Os_ (T:TabM) (k:ByteArray) (w:Int) :(T.add k w).mode=T.mode∧(T.add k w).m=T.m∧(T.add k w).sum=T.sum+w:=by
 unfold TabM.add
 cases getE T.L k with
 | some e=>exact⟨rfl,rfl,rfl⟩
 | none=>
  dsimp only
  split
  ·split <;> exact⟨rfl,rfl,rfl⟩
  ·cases minE T.L with
   | none=>exact⟨rfl,rfl,rfl⟩
   | some x=>dsimp only;split <;> exact⟨rfl,rfl,rfl⟩
theorem Bt_.add {T:TabM} (h:Bt_ T) {k:ByteArray} {w:Int} (hk:0<k.size∧k.size≤255) (hw:1≤w) (hs:T.sum+w≤mostW):Bt_ (T.add k w):=by
 have hb:=h.base
 cases hg:getE T.L k with
 | some e=>
  rw[Ke_ hg];obtain⟨he,hek⟩:=A4_ hg;have h1:=h.ents.own e he;have h2:=h.ents.slack e he;have h3:=h.cnt e he;refine⟨h.mode,h.m,(h.ents.del k).snoc (cv_ h.ents.nodup k) hk (by dsimp only;omega) h2,?_,⟨hb.1,by dsimp only;omega⟩,hs,?_,?_,fun hm x hx=>(ma_ hx).elim (fun hx=>h.zero hm x (Be_ hx)) fun hx=>by rw[ms_ hx];exact h.zero hm e he⟩
  ·have:=Da_ hg;have:=h.len;simp;omega
  ·intro x hx
   rcases ma_ hx with hx|hx
   ·have h4:=h.cnt x (Be_ hx)
    simp only[TabM.fix,Ent.cnt] at *
    split at h4 <;> simp_all <;> omega
   ·rw[ms_ hx]
    simp only[TabM.fix,Ent.cnt] at *
    split at h3 <;> simp_all <;> omega
  ·intro hm x hx
   rcases ma_ hx with hx|hx
   ·exact h.low hm x (Be_ hx)
   ·have h4:=h.low hm e he
    rw[ms_ hx];simp only[Ent.cnt] at *
    omega
 | none=>
  have hkn:k∉keysE T.L:=Cz_.1 hg
  rcases addNo h k w with⟨hm,hl⟩ |⟨hl⟩ |⟨hm,hl,x,hx⟩
  ·rw[Ko_ hg hm hl]
   have hd:=Lf_ T.L w;have hp:=minOwn_pos hw h.ents.own
   have hc:∀x∈T.L,x.own+T.base≤T.sum:=fun x hx=>by have:=h.cnt x hx;rw[fix2 hm] at this;exact this
   have hlen:=Gg_ T.L (minOwn T.L w)
   have hno:k∉keysE (cutE T.L (minOwn T.L w)):=fun hx=>hkn ((E3_ _ _).subset hx)
   have hcut:∀e∈cutE T.L (minOwn T.L w),e.own+(T.base+minOwn T.L w)≤T.sum+w:=fun e he=>by
    obtain⟨x,hx,rfl,_⟩:=Kp_ he
    have:=hc x hx
    dsimp only;omega
   have hC:=h.ents.cut (minOwn T.L w)
   have hlt:w-minOwn T.L w>0→(cutE T.L (minOwn T.L w)).length<T.L.length:=fun hlt=>by
    have hex:∃e∈T.L,e.own≤minOwn T.L w:=by
     have:∀(L:List Ent) (w:Int),minOwn L w=w∨∃e∈L,e.own=minOwn L w:=by
      intro L
      induction L with
      | nil=>intro w;exact .inl rfl
      | cons a L ih=>
       intro w;have e1:minOwn (a::L) w=minOwn L (min w a.own):=rfl;rw[e1]
       rcases ih (min w a.own) with h1 |⟨e,he,h1⟩
       ·by_cases hwa:w≤a.own
        ·exact .inl (by omega)
        ·exact .inr ⟨a,by simp,by omega⟩
       ·exact .inr ⟨e,List.mem_cons_of_mem _ he,h1⟩
     rcases this T.L w with h1 |⟨e,he,h1⟩
     ·omega
     ·exact⟨e,he,by omega⟩
    obtain⟨e,he,hle⟩:=hex;generalize minOwn T.L w=d at *
    have key:∀L:List Ent,e∈L→(cutE L d).length<L.length:=by
     intro L
     induction L with
     | nil=>intro h;simp at h
     | cons a L ih=>
      intro h
      have:=Gg_ L d
      unfold cutE at *;rw[List.map_cons,List.filter_cons]
      rcases List.mem_cons.1 h with rfl|h
      ·rw[if_neg (by simp;omega)]
       simp only[lc_];omega
      ·have:=ih h
       split <;> simp only[lc_] at*<;> omega
    exact key T.L he
   generalize minOwn T.L w=d at *;refine⟨h.mode,h.m,?_,?_,by dsimp only;omega,hs,?_,fun h1=>by dsimp only at h1;omega,?_⟩
   ·dsimp only
    split
    ·exact hC.snoc hno hk (by dsimp only;omega) (Int.le_refl _)
    ·exact hC
   ·dsimp only
    split
    ·have:=hlt (by omega);simp;omega
    ·omega
   ·intro e he
    rw[fix2 (T:={ T with sum:=T.sum+w,base:=T.base+d,L:=if 0<w-d then cutE T.L d++[⟨k,w-d,0⟩] else cutE T.L d }) hm];dsimp only at he
    split at he
    ·rcases ma_ he with he|he
     ·exact hcut e he
     ·rw[ms_ he];simp only[Ent.cnt];omega
    ·exact hcut e he
   ·intro _ e he
    have hz:∀e∈cutE T.L d,e.slack=0:=fun e he=>by
     obtain⟨y,hy,rfl,_⟩:=Kp_ he;exact h.zero hm y hy
    dsimp only at he
    split at he
    ·rcases ma_ he with he|he
     ·exact hz e he
     ·rw[ms_ he]
    ·exact hz e he
  ·rw[Fc_ hg hl]
   have hlen:=h.len;refine⟨h.mode,h.m,h.ents.snoc hkn hk hw (by dsimp only;split <;> omega),by simp;omega,by dsimp only;omega,hs,?_,?_,fun hm x hx=>(ma_ hx).elim (fun hx=>h.zero hm x hx) fun hx=>by rw[ms_ hx];exact if_pos hm⟩
   ·intro x hx
    rcases ma_ hx with hx|hx
    ·have h4:=h.cnt x hx
     simp only[TabM.fix,Ent.cnt] at *
     split at h4 <;> simp_all <;> omega
    ·rw[ms_ hx]
     simp only[TabM.fix,Ent.cnt]
     split <;> simp_all <;> omega
   ·intro hm x hx
    rcases ma_ hx with hx|hx
    ·exact h.low hm x hx
    ·rw[ms_ hx]
     dsimp only at hm;simp only[Ent.cnt,if_neg (show ¬T.mode=2 by omega)]
     omega
  ·rw[Jn_ hg hm hl hx]
   have hx1:=Gk_ hx;have hx2:=Uo_ hx;have hm1:T.mode=1:=h.mode.resolve_right hm;have hxg:=F7_ h.ents.nodup hx1;have hdl:=Da_ hxg;have hxc:=h.cnt x hx1;rw[fix1 hm] at hxc;have hxp:=h.low hm1 x hx1;refine⟨h.mode,h.m,(h.ents.del _).snoc (fun he=>hkn ((Bq_ h.ents.nodup).1 he).1) hk hw (by dsimp only;omega),?_,by dsimp only;omega,hs,?_,?_,fun h2=>absurd h2 hm⟩
   ·have:=h.len;simp;omega
   ·intro e he
    rw[fix1 (T:={ T with sum:=T.sum+w,base:=x.cnt,L:=delE T.L x.key++[⟨k,w,x.cnt⟩] }) hm]
    rcases ma_ he with he|he
    ·have:=h.cnt e (Be_ he);rw[fix1 hm] at this;dsimp only;omega
    ·rw[ms_ he];simp only[Ent.cnt] at *;omega
   ·intro _ e he
    rcases ma_ he with he|he
    ·exact hx2 e (Be_ he)
    ·rw[ms_ he];simp only[Ent.cnt];omega
theorem Bt_.take {T:TabM} (h:Bt_ T) (k:ByteArray):Bt_ (T.take k):=by
 refine⟨h.mode,h.m,h.ents.del k,?_,h.base,h.sum,fun e he=>h.cnt e (Be_ he),fun hm e he=>h.low hm e (Be_ he),fun hm e he=>h.zero hm e (Be_ he)⟩
 have:=(C6_ T.L k).length_le
 have:=h.len
 show((delE T.L k).length:Int)≤T.m
 omega
theorem G0_ (T:TabM) (k:ByteArray) (e:Ent) :(T.swapE k e).key=e.key:=by
 unfold TabM.swapE;split
 ·rfl
 ·split <;> rfl
theorem Uj_ (T:TabM) (k:ByteArray) (e:Ent) :(T.swapE k e).own=e.own:=by
 unfold TabM.swapE;split
 ·rfl
 ·split <;> rfl
theorem Bt_.swap {T:TabM} (h:Bt_ T) {k:ByteArray} {x e:Ent} (hx:getE T.L k=some x) (hok:T.swapOk x e) (hk:0<e.key.size∧e.key.size≤255) (ho:1≤e.own) (hsl:0≤e.slack) (hn:e.key∉keysE T.L):Bt_ (T.swap k e):=by
 obtain⟨hxm,hxk⟩:=A4_ hx;have hdl:=Da_ hx;have hlen:=h.len;have hb:=h.base;have hc:=h.cnt x hxm
 have hn':e.key∉keysE (delE T.L k):=fun he=>hn ((Bq_ h.ents.nodup).1 he).1
 have hs:0≤(T.swapE k e).slack:=by
  unfold TabM.swapE;split
  ·simp
  ·split
   ·dsimp only;omega
   ·exact hsl
 unfold TabM.swap;refine⟨h.mode,h.m,(h.ents.del k).snoc (by rw[G0_];exact hn') (by rw[G0_];exact hk) (by rw[Uj_];exact ho) hs,by simp;omega,hb,h.sum,?_,?_,fun hm y hy=>(ma_ hy).elim (fun hy=>h.zero hm y (Be_ hy)) fun hy=>by rw[ms_ hy];unfold TabM.swapE;rw[if_pos hm]⟩
 ·intro y hy
  rcases ma_ hy with hy|hy
  ·exact h.cnt y (Be_ hy)
  ·rw[ms_ hy]
   unfold TabM.swapOk at hok;unfold TabM.fix TabM.swapE;unfold TabM.fix at hc
   by_cases hm:T.mode=2
   ·simp only[if_pos hm,Ent.cnt] at *;omega
   ·have hl:=h.low (h.mode.resolve_right hm) x hxm
    simp only[if_neg hm,Ent.cnt] at *
    split <;> (try dsimp only) <;> omega
 ·intro hm y hy
  rcases ma_ hy with hy|hy
  ·exact h.low hm y (Be_ hy)
  ·rw[ms_ hy]
   have hm2:¬T.mode=2:=by dsimp only at hm;omega
   unfold TabM.swapE;rw[if_neg hm2];simp only[Ent.cnt] at *
   split <;> (try dsimp only) <;> omega
end
section
abbrev AscE (L:List Ent):Prop:=L.Pairwise fun x y=>x.key.data.toList<y.key.data.toList
theorem Vr_ {a b:ByteArray}:ltK a b=true↔a.data.toList<b.data.toList:=by simp[ltK]
theorem Kz_ {a b:ByteArray} (h:a.data.toList=b.data.toList):a=b:=by
 cases a;cases b;simp only[ByteArray.mk.injEq];exact Array.ext' h
theorem Bj_ (L:List Ent) (e:Ent) :(insE L e).Perm (e::L):=by
 unfold insE;refine List.perm_middle.trans (List.Perm.cons e ?_);rw[List.takeWhile_append_dropWhile]
theorem Jx_ {L:List Ent} {e:Ent} (h:AscE L) (hn:e.key∉keysE L):AscE (insE L e):=by
 induction L with
 | nil=>simp[insE,AscE]
 | cons a L ih=>
  obtain⟨h1,h2⟩:=List.pairwise_cons.1 h;simp only[keysE,List.map_cons,List.mem_cons,not_or] at hn
  by_cases ha:ltK a.key e.key=true
  ·have e1:insE (a::L) e=a::insE L e:=by simp[insE,ha]
   rw[e1];refine List.pairwise_cons.2 ⟨fun x hx=>?_,ih h2 hn.2⟩
   rcases List.mem_cons.1 ((Bj_ L e).mem_iff.1 hx) with rfl|hx
   ·exact Vr_.1 ha
   ·exact h1 x hx
  ·have e1:insE (a::L) e=e::a::L:=by simp[insE,ha]
   rw[e1]
   have hlt:e.key.data.toList<a.key.data.toList:=by
    refine b_lt (b_le.2 fun h'=>ha (Vr_.2 h')) fun h'=>hn.1 (Kz_ h')
   refine List.pairwise_cons.2 ⟨fun x hx=>?_,h⟩
   rcases List.mem_cons.1 hx with rfl|hx
   ·exact hlt
   ·exact Dh_ hlt (h1 x hx)
theorem Ha_ (L:List Ent) (e:Ent):sortEn (L++[e])=insE (sortEn L) e:=by simp[sortEn]
theorem b9_ (L:List Ent):∀A:List Ent,AscE A→(keysE (A++L)).Nodup→AscE (L.foldl insE A)∧(L.foldl insE A).Perm (A++L):=by
 induction L with
 | nil=>intro A h _;exact⟨h,by simp⟩
 | cons e L ih=>
  intro A h hn
  have hn1:e.key∉keysE A:=by
   simp only[keysE,List.map_append,List.map_cons] at hn;intro he;exact(List.nodup_append.1 hn).2.2 _ he _ (by simp) rfl
  have hp :(insE A e++L).Perm (A++e::L):=((Bj_ A e).append_right L).trans (by simpa using List.perm_middle.symm);obtain⟨h1,h2⟩:=ih (insE A e) (Jx_ h hn1) ((hp.map _).nodup_iff.2 hn);exact⟨h1,h2.trans hp⟩
theorem Ds_ {L:List Ent} (h :(keysE L).Nodup):AscE (sortEn L)∧(sortEn L).Perm L:=by
 have:=b9_ L [] (by simp[AscE]) (by simpa using h)
 simpa [sortEn] using this
theorem Eq_:∀{L M:List Ent},AscE L→AscE M→L.Perm M→L=M
 | [],M,_,_,h=>(List.nil_perm.1 h).symm
 | a::L,[],_,_,h=>by have:=h.length_eq;simp at this
 | a::L,b::M,h1,h2,h=>by
  obtain⟨h3,h4⟩:=List.pairwise_cons.1 h1;obtain⟨h5,h6⟩:=List.pairwise_cons.1 h2
  have hab:a=b:=by
   rcases List.mem_cons.1 (h.mem_iff.1 (List.mem_cons_self)) with e|e
   ·exact e
   ·rcases List.mem_cons.1 (h.mem_iff.2 (List.mem_cons_self)) with e'|e'
    ·exact e'.symm
    ·exact absurd (Dh_ (h3 b e') (h5 a e)) (Cj_ _)
  subst hab;rw[Eq_ h4 h6 (List.Perm.cons_inv h)]
theorem Sf_ {L M:List Ent} (h :(keysE L).Nodup) (hM:AscE M) (hp:M.Perm L):sortEn L=M:=
 Eq_ (Ds_ h).1 hM ((Ds_ h).2.trans hp.symm)
theorem Q7_ {L:List Ent} (h:AscE L) :(keysE L).Nodup:=by
 unfold keysE;refine List.pairwise_map.2 (h.imp fun {x y} hxy e=>?_);rw[e] at hxy;exact Cj_ _ hxy
theorem Qg_ {L:List Ent} (h:AscE L):sortEn L=L:=Sf_ (Q7_ h) h (List.Perm.refl _)
theorem Ents.perm {L M:List Ent} (h:Ents L) (hp:L.Perm M):Ents M:=
 ⟨(hp.map _).nodup_iff.1 h.nodup,fun e he=>h.key e (hp.mem_iff.2 he),fun e he=>h.own e (hp.mem_iff.2 he),fun e he=>h.slack e (hp.mem_iff.2 he)⟩
def lastMin:List Ent→Option Ent
 | []=>none
 | e::L=>match lastMin L with
  | none=>some e
  | some x=>if x.cnt≤e.cnt then some x else some e
theorem Cg_:∀{L:List Ent} {e:Ent},lastMin L=some e→e∈L
 | [],e,h=>by simp[lastMin] at h
 | a::L,e,h=>by
  unfold lastMin at h
  cases hm:lastMin L with
  | none=>rw[hm] at h;cases h;simp
  | some x=>
   rw[hm] at h;dsimp only at h
   split at h
   ·cases h;exact List.mem_cons_of_mem _ (Cg_ hm)
   ·cases h;simp
theorem Ln_ {L:List Ent}:lastMin L=none↔L=[]:=by
 cases L with
 | nil=>simp[lastMin]
 | cons a L=>unfold lastMin;cases lastMin L <;> simp;split <;> simp
def Ht_ (S:List Ent) (k:ByteArray) (w:Int):List Ent:=S.map fun e=>if e.key=k then ⟨e.key,e.own+w,e.slack⟩ else e
theorem Fw_ (S:List Ent) (k:ByteArray) (w:Int):keysE (Ht_ S k w)=keysE S:=by
 unfold keysE Ht_;rw[List.map_map]
 refine List.map_congr_left fun e _=>?_
 simp only[Function.comp]
 split <;> rfl
theorem Mq_ (S:List Ent) (k:ByteArray) (w:Int) :(Ht_ S k w).length=S.length:=by simp[Ht_]
theorem Dl_ {S:List Ent} {k:ByteArray} {w:Int} {e:Ent} (h:e∈Ht_ S k w):∃x∈S,(x.key=k∧e =⟨x.key,x.own+w,x.slack⟩)∨(x.key≠k∧e=x):=by
 obtain⟨x,hx,rfl⟩:=List.mem_map.1 h;refine⟨x,hx,?_⟩
 by_cases hk:x.key=k
 ·exact .inl ⟨hk,by rw[if_pos hk]⟩
 ·exact .inr ⟨hk,by rw[if_neg hk]⟩
theorem Ya_ {L M:List Ent} (h:AscE L) (hk:keysE L=keysE M):AscE M:=by
 have h1 :(keysE L).Pairwise fun x y=>x.data.toList<y.data.toList:=List.pairwise_map.2 h
 rw[hk] at h1;exact(List.pairwise_map (f:=fun e:Ent=>e.key) (R:=fun x y:ByteArray=>x.data.toList<y.data.toList)).1 h1
def slotR (t:List Int) (s:Int) (k:ByteArray) (i:Nat) (row:List Int):Nat:=(slotF (hashF t (seedF s i) k) row.length).toNat
def putRow (row:List Int) (j:Nat) (n:Int):List Int:=row.set j (max (row.getD j 0) n)
def Bp_ (t:List Int) (s:Int) (k:ByteArray) (n:Int) (rows:List (List Int)):List (List Int):=rows.mapIdx fun i row=>putRow row (slotR t s k i row) n
structure Grid (d w:Int) (sum:Int) (rows:List (List Int)):Prop where
 depth :(rows.length:Int)=d
 width:∀row∈rows,(row.length:Int)=w
 num:∀row∈rows,∀x∈row,0≤x∧x≤sum
theorem Grid.mono {d w s s':Int} {rows:List (List Int)} (h:Grid d w s rows) (hs:s≤s'):Grid d w s' rows:=
 ⟨h.depth,h.width,fun row hr x hx=>by have:=h.num row hr x hx;omega⟩
theorem Qm_ (row:List Int) (j:Nat) (n:Int) :(putRow row j n).length=row.length:=by simp[putRow]
theorem mem_putRow {row:List Int} {j:Nat} {n x:Int} (h:x∈putRow row j n):x∈row∨(x=max (row.getD j 0) n):=by
 unfold putRow at h;exact List.mem_or_eq_of_mem_set h
theorem getD_mem {l:List Int} {j:Nat}:l.getD j 0=0∨l.getD j 0∈l:=by
 rw[List.getD_eq_getElem?_getD]
 cases h:l[j]? with
 | none=>exact .inl rfl
 | some x=>exact .inr (mo_ h)
theorem Grid.add {d w s:Int} {rows:List (List Int)} (h:Grid d w s rows) (t:List Int) (sd:Int) (k:ByteArray) {n:Int} (h0:0≤n) (h1:n≤s):Grid d w s (Bp_ t sd k n rows):=by
 unfold Bp_;refine⟨by rw[List.length_mapIdx];exact h.depth,fun row hr=>?_,fun row hr x hx=>?_⟩
 ·obtain⟨i,hi,rfl⟩:=List.mem_mapIdx.1 hr
  rw[Qm_];exact h.width _ (mg_ hi)
 ·obtain⟨i,hi,rfl⟩:=List.mem_mapIdx.1 hr
  rcases mem_putRow hx with hx|rfl
  ·exact h.num _ (mg_ hi) x hx
  ·rcases getD_mem (l:=rows[i]) (j:=slotR t sd k i rows[i]) with e|e
   ·rw[e];omega
   ·have:=h.num _ (mg_ hi) _ e;omega
theorem Grid.rowsOk {d w s:Int} {rows:List (List Int)} (h:Grid d w s rows) (hw:1≤w∧w≤256) (hs:s≤mostW):RowsOk rows:=fun row hr=>by
 have h1:=h.width row hr;refine⟨by omega,fun x hx=>?_⟩;have h2:=h.num row hr x hx;unfold mostW at hs;exact⟨h2.1,by omega⟩
theorem S7_ {d w sum:Int} {t:List Int} {s:Int} {k:ByteArray} {rows:List (List Int)} (h:Grid d w sum rows):∀n,0≤estI t s k rows n
 | 0=>by simp[estI]
 | n+1=>by
  have ih:=S7_ (t:=t) (s:=s) (k:=k) h n
  have hc:0≤Km_ t s k n (rows.getD n []):=by
   unfold Km_
   rcases getD_mem (l:=rows.getD n []) (j:=(slotF (hashF t (seedF s n) k) (rows.getD n []).length).toNat) with e|e
   ·rw[e];exact Int.le_refl _
   ·rw[List.getD_eq_getElem?_getD (l:=rows)] at e ⊢
    cases hr:rows[n]? with
    | none=>rw[hr] at e;simp at e
    | some row=>rw[hr] at e;exact(h.num row (mo_ hr) _ e).1
  show 0≤min _ _
  omega
theorem c1_ {d w sum:Int} {t:List Int} {s:Int} {k:ByteArray} {rows:List (List Int)} (h:Grid d w sum rows) (h0:0≤sum):∀n,0<n→n≤rows.length→estI t s k rows n≤sum
 | n+1,_,hl=>by
  have hc:Km_ t s k n (rows.getD n [])≤sum:=by
   unfold Km_
   rcases getD_mem (l:=rows.getD n []) (j:=(slotF (hashF t (seedF s n) k) (rows.getD n []).length).toNat) with e|e
   ·rw[e];exact h0
   ·rw[List.getD_eq_getElem?_getD (l:=rows)] at e ⊢
    cases hr:rows[n]? with
    | none=>rw[hr] at e;simp at e
    | some row=>rw[hr] at e;exact(h.num row (mo_ hr) _ e).2
  show min _ _≤_
  omega
theorem Vu_ {d w sum:Int} {t:List Int} {s:Int} {k:ByteArray} {rows:List (List Int)} (h:Grid d w sum rows) (h0:0≤sum) (hd:1≤d):0≤estF t s k rows∧estF t s k rows≤sum:=by
 have:=h.depth
 exact⟨S7_ h _,c1_ h h0 _ (by omega) (le_ _)⟩
structure As_ where
 (T:TabM) (S:List Ent) (rows:List (List Int)) (sum:Int)
def As_.err (X:As_) (k:ByteArray) (w:Int):Int:=if k.size=0 then 3 else if 255<k.size then 4 else if w=0 then 1 else if mostW<X.sum+w then 12 else 0
def promo (ex pr:Int) (T:TabM) (S:List Ent) (k:ByteArray):TabM×List Ent:=
 match T.get k with
 | none=>(T,S)
 | some e=>
  if ex=0∨e.own<pr then (T,S)
  else if (S.length:Int)≠ex then (T.take k,insE S e)
  else match lastMin S with
   | none=>(T,S)
   | some x=>if e.own≤x.cnt then (T,S) else (T.swap k x,insE (delE S x.key) e)
def As_.add (c:Cfg) (t:List Int) (X:As_) (k:ByteArray) (w:Int):As_:=
 let rows:=Bp_ t c.Seed k (estF t c.Seed k X.rows+w) X.rows
 match getE X.S k with
 | some _=>⟨X.T,Ht_ X.S k w,rows,X.sum+w⟩
 | none=>let p:=promo c.Exact c.Promote (X.T.add k w) X.S k;⟨p.1,p.2,rows,X.sum+w⟩
structure TierOk (c:Cfg) (X:As_):Prop where
 tab:Bt_ X.T
 mode:X.T.mode=c.Mode∧X.T.m=c.Slots
 sums:X.T.sum≤X.sum∧X.sum≤mostW
 ents:Ents X.S
 asc:AscE X.S
 len :(X.S.length:Int)≤c.Exact
 apart:∀k∈keysE X.S,k∉keysE X.T.L
 cnt:∀e∈X.S,e.cnt≤X.sum
 low:X.T.mode=2→∀e∈X.S,e.slack≤X.T.base
 rows:Grid c.Depth c.Width X.sum X.rows
structure L6_ (ex:Int) (T:TabM) (S:List Ent) (sum:Int):Prop where
 tab:Bt_ T
 sums:T.sum≤sum
 ents:Ents S
 asc:AscE S
 len :(S.length:Int)≤ex
 apart:∀k∈keysE S,k∉keysE T.L
 cnt:∀e∈S,e.cnt≤sum
 low:T.mode=2→∀e∈S,e.slack≤T.base
theorem Fb_ {T:TabM} {k:ByteArray} {e:Ent} (h:T.get k=some e):∃x,getE T.L k=some x∧e=T.fix x∧e.key=k:=by
 unfold TabM.get at h
 cases hx:getE T.L k with
 | none=>rw[hx] at h;simp at h
 | some x=>rw[hx] at h;cases h;exact⟨x,rfl,rfl,by rw[Em_];exact(A4_ hx).2⟩
theorem C2_ {T:TabM} (h:Bt_ T) {x:Ent} (hx:x∈T.L):0≤(T.fix x).slack∧(T.mode=2→(T.fix x).slack=T.base):=by
 have:=h.ents.slack x hx
 have:=h.base
 unfold TabM.fix
 split
 ·exact⟨by dsimp only;omega,fun _=>rfl⟩
 ·exact⟨by omega,fun h2=>by omega⟩
inductive Zk_ (ex pr:Int) (T:TabM) (S:List Ent) (k:ByteArray):TabM×List Ent→Prop
 | no:Zk_ ex pr T S k (T,S)
 | take (e:Ent) (he:T.get k=some e) (hx:ex≠0) (hp:pr≤e.own) (hl :(S.length:Int)≠ex):Zk_ ex pr T S k (T.take k,insE S e)
 | swap (e x:Ent) (he:T.get k=some e) (hx:ex≠0) (hp:pr≤e.own) (hl :(S.length:Int)=ex) (hm:lastMin S=some x) (hlt:x.cnt<e.own):Zk_ ex pr T S k (T.swap k x,insE (delE S x.key) e)
theorem Pv_ (ex pr:Int) (T:TabM) (S:List Ent) (k:ByteArray):Zk_ ex pr T S k (promo ex pr T S k):=by
 unfold promo
 cases he:T.get k with
 | none=>exact .no
 | some e=>
  dsimp only
  split
  ·exact .no
  ·rename_i h
   split
   ·exact .take e he (by omega) (by omega) (by assumption)
   ·cases hm:lastMin S with
    | none=>exact .no
    | some x=>
     dsimp only
     split
     ·exact .no
     ·exact .swap e x he (by omega) (by omega) (by omega) hm (by omega)
theorem Ry_ {ex:Int} {T:TabM} {S:List Ent} {sum:Int} (h:L6_ ex T S sum) {k:ByteArray} {e x:Ent} (he:T.get k=some e) (hm:lastMin S=some x) (hlt:x.cnt<e.own):T.swapOk e x:=by
 obtain⟨y,hy,rfl,hk⟩:=Fb_ he;have hxm:=Cg_ hm;have h1:=h.ents.own x hxm;have h2:=h.ents.slack x hxm;have h3:=C2_ h.tab (A4_ hy).1;unfold TabM.swapOk;unfold Ent.cnt at hlt
 split
 ·rename_i hm2
  exact⟨h1,by omega,h.low hm2 x hxm⟩
 ·unfold Ent.cnt;omega
theorem keys_insE {S:List Ent} {e:Ent} {k:ByteArray}:k∈keysE (insE S e)↔k=e.key∨k∈keysE S:=by
 have:=((Bj_ S e).map (·.key)).mem_iff (a:=k)
 simpa [keysE] using this
theorem Lu_ {S:List Ent} (h:Ents S) {e:Ent} (hk:e.key∉keysE S) (h1:0<e.key.size∧e.key.size≤255) (h2:1≤e.own) (h3:0≤e.slack):Ents (insE S e):=
 (h.snoc hk h1 h2 h3).perm ((List.perm_append_singleton e S).trans (Bj_ S e).symm)
theorem Et_ (S:List Ent) (e:Ent) :(insE S e).length=S.length+1:=by simpa using (Bj_ S e).length_eq
theorem L6_.step {ex pr:Int} {T:TabM} {S:List Ent} {sum:Int} (h:L6_ ex T S sum) (k:ByteArray):L6_ ex (promo ex pr T S k).1 (promo ex pr T S k).2 sum:=by
 have hlen:=h.len;have hP:=Pv_ ex pr T S k;generalize promo ex pr T S k=p at *
 rcases hP with _ |⟨e,he,hx,hp,hl⟩ |⟨e,x,he,hx,hp,hl,hm,hlt⟩
 ·exact h
 ·obtain⟨y,hy,rfl,hk⟩:=Fb_ he
  have hym:=(A4_ hy).1;have hs:=C2_ h.tab hym;have hkT:k∈keysE T.L:=(A4_ hy).2▸Ed_ hym
  have hkS:k∉keysE S:=fun hx=>h.apart k hx hkT
  have hc:=h.tab.cnt y hym;have hsum:=h.sums;refine⟨h.tab.take k,h.sums,Lu_ h.ents (by rw[hk];exact hkS) (by rw[Em_];exact h.tab.ents.key y hym) (by rw[Dn_];exact h.tab.ents.own y hym) hs.1,Jx_ h.asc (by rw[hk];exact hkS),by rw[Et_];omega,?_,?_,?_⟩
  ·intro z hz hz2
   have hz3:=(Bq_ h.tab.ents.nodup).1 (show z∈keysE (delE T.L k) from hz2)
   rcases keys_insE.1 hz with rfl|hz
   ·exact hz3.2 hk
   ·exact h.apart z hz hz3.1
  ·intro z hz
   rcases List.mem_cons.1 ((Bj_ S _).mem_iff.1 hz) with rfl|hz
   ·omega
   ·exact h.cnt z hz
  ·intro hm2 z hz
   rcases List.mem_cons.1 ((Bj_ S _).mem_iff.1 hz) with rfl|hz
   ·exact Int.le_of_eq (hs.2 hm2)
   ·exact h.low hm2 z hz
 ·have hsw:=Ry_ h he hm hlt
  obtain⟨y,hy,rfl,hk⟩:=Fb_ he;have hym:=(A4_ hy).1;have hs:=C2_ h.tab hym;have hkT:k∈keysE T.L:=(A4_ hy).2▸Ed_ hym
  have hkS:k∉keysE S:=fun hx=>h.apart k hx hkT
  have hc:=h.tab.cnt y hym;have hsum:=h.sums;have hxm:=Cg_ hm;have hxk:x.key∈keysE S:=Ed_ hxm;have hxT:x.key∉keysE T.L:=h.apart _ hxk;have hdl:=Da_ (F7_ h.ents.nodup hxm)
  have hsw':T.swapOk y x:=by
   unfold TabM.swapOk at hsw ⊢;unfold TabM.fix at hsw
   by_cases h2:T.mode=2
   ·simp only[if_pos h2] at hsw ⊢;exact hsw
   ·simp only[if_neg h2] at hsw ⊢;exact hsw
  have hkd:k∉keysE (delE S x.key):=fun hz=>hkS ((Bq_ h.ents.nodup).1 hz).1
  refine⟨h.tab.swap hy hsw' (h.ents.key x hxm) (h.ents.own x hxm) (h.ents.slack x hxm) hxT,h.sums,Lu_ (h.ents.del _) (by rw[hk];exact hkd) (by rw[Em_];exact h.tab.ents.key y hym) (by rw[Dn_];exact h.tab.ents.own y hym) hs.1,Jx_ (h.asc.sublist (C6_ _ _)) (by rw[hk];exact hkd),by rw[Et_];omega,?_,?_,?_⟩
  ·intro z hz hz2
   have hz3:z∈keysE (delE T.L k++[T.swapE k x]):=hz2;simp only[keysE,List.map_append,List.map_cons,List.map_nil,List.mem_append,List.mem_singleton,G0_] at hz3
   rcases keys_insE.1 hz with rfl|hz
   ·rcases hz3 with hz3|hz3
    ·exact((Bq_ h.tab.ents.nodup).1 hz3).2 hk
    ·rw[hk] at hz3
     exact hkS (hz3▸hxk)
   ·have hz4:=(Bq_ h.ents.nodup).1 hz
    rcases hz3 with hz3|hz3
    ·exact h.apart z hz4.1 ((Bq_ h.tab.ents.nodup).1 hz3).1
    ·exact hz4.2 hz3
  ·intro z hz
   rcases List.mem_cons.1 ((Bj_ _ _).mem_iff.1 hz) with rfl|hz
   ·omega
   ·exact h.cnt z (Be_ hz)
  ·intro hm2 z hz
   rcases List.mem_cons.1 ((Bj_ _ _).mem_iff.1 hz) with rfl|hz
   ·exact Int.le_of_eq (hs.2 hm2)
   ·exact h.low hm2 z (Be_ hz)
theorem add_keys {T:TabM} {k:ByteArray} {w:Int} {z:ByteArray} (h:Bt_ T) (hz:z∈keysE (T.add k w).L):z=k∨z∈keysE T.L:=by
 have hsn:∀(L:List Ent) (e:Ent),z∈keysE (L++[e])→z∈keysE L∨z=e.key:=fun L e hz=>by simpa [keysE,eq_comm] using hz
 cases hg:getE T.L k with
 | some e=>
  rw[Ke_ hg] at hz
  rcases hsn _ _ hz with hz|hz
  ·exact .inr ((Jo_ (C6_ _ _)).subset hz)
  ·exact .inl hz
 | none=>
  rcases addNo h k w with⟨hm,hl⟩ |⟨hl⟩ |⟨hm,hl,x,hx⟩
  ·rw[Ko_ hg hm hl] at hz
   dsimp only at hz
   split at hz
   ·rcases hsn _ _ hz with hz|hz
    ·exact .inr ((E3_ _ _).subset hz)
    ·exact .inl hz
   ·exact .inr ((E3_ _ _).subset hz)
  ·rw[Fc_ hg hl] at hz
   rcases hsn _ _ hz with hz|hz
   ·exact .inr hz
   ·exact .inl hz
  ·rw[Jn_ hg hm hl hx] at hz
   rcases hsn _ _ hz with hz|hz
   ·exact .inr ((Jo_ (C6_ _ _)).subset hz)
   ·exact .inl hz
theorem Yt_ {T:TabM} (h:Bt_ T) {k:ByteArray} {w:Int} (hw:1≤w):T.base≤(T.add k w).base:=by
 cases hg:getE T.L k with
 | some e=>rw[Ke_ hg];exact Int.le_refl _
 | none=>
  rcases addNo h k w with⟨hm,hl⟩ |⟨hl⟩ |⟨hm,hl,x,hx⟩
  ·rw[Ko_ hg hm hl]
   have:=minOwn_pos hw h.ents.own
   dsimp only;omega
  ·rw[Fc_ hg hl];exact Int.le_refl _
  ·rw[Jn_ hg hm hl hx]
   exact h.low (h.mode.resolve_right hm) x (Gk_ hx)
theorem TierOk.pair {c:Cfg} {X:As_} (h:TierOk c X) {k:ByteArray} {w:Int} (hk:0<k.size∧k.size≤255) (hw:1≤w) (hs:X.sum+w≤mostW) (hg:getE X.S k=none):L6_ c.Exact (X.T.add k w) X.S (X.sum+w):=by
 have hss:=h.sums;have hT:=h.tab.add hk hw (show X.T.sum+w≤mostW by omega);obtain⟨a1,a2,a3⟩:=Os_ X.T k w;refine⟨hT,by rw[a3];omega,h.ents,h.asc,h.len,fun z hz hz2=>?_,fun z hz=>by have:=h.cnt z hz;omega,fun hm z hz=>?_⟩
 ·rcases add_keys h.tab hz2 with rfl|hz2
  ·exact Cz_.1 hg hz
  ·exact h.apart z hz hz2
 ·rw[a1] at hm
  have:=h.low hm z hz
  have:=Yt_ (k:=k) h.tab hw
  omega
theorem TierOk.add {c:Cfg} {t:List Int} {X:As_} (h:TierOk c X) {k:ByteArray} {w:Int} (hd:1≤c.Depth) (hk:0<k.size∧k.size≤255) (hw:1≤w) (hs:X.sum+w≤mostW):TierOk c (X.add c t k w):=by
 have hb:=h.tab.base;have hss:=h.sums;have he:=Vu_ (t:=t) (s:=c.Seed) (k:=k) h.rows (by omega) hd;have hR:Grid c.Depth c.Width (X.sum+w) (Bp_ t c.Seed k (estF t c.Seed k X.rows+w) X.rows):=(h.rows.mono (by omega)).add t c.Seed k (by omega) (by omega);unfold As_.add
 cases hg:getE X.S k with
 | some e=>
  obtain⟨hem,hek⟩:=A4_ hg;refine⟨h.tab,h.mode,⟨by dsimp only;omega,hs⟩,⟨by rw[Fw_];exact h.ents.nodup,?_,?_,?_⟩,Ya_ h.asc (Fw_ _ _ _).symm,by dsimp only;rw[Mq_];exact h.len,by dsimp only;rw[Fw_];exact h.apart,?_,?_,hR⟩
  ·intro z hz
   obtain⟨x,hx,⟨_,rfl⟩ |⟨_,rfl⟩⟩:=Dl_ hz
   ·exact h.ents.key x hx
   ·exact h.ents.key _ hx
  ·intro z hz
   obtain⟨x,hx,⟨_,rfl⟩ |⟨_,rfl⟩⟩:=Dl_ hz
   ·have:=h.ents.own x hx;dsimp only;omega
   ·exact h.ents.own _ hx
  ·intro z hz
   obtain⟨x,hx,⟨_,rfl⟩ |⟨_,rfl⟩⟩:=Dl_ hz
   ·exact h.ents.slack x hx
   ·exact h.ents.slack _ hx
  ·intro z hz
   obtain⟨x,hx,⟨_,rfl⟩ |⟨_,rfl⟩⟩:=Dl_ hz
   ·have:=h.cnt x hx;simp only[Ent.cnt] at *;omega
   ·have:=h.cnt _ hx;dsimp only;omega
  ·intro hm z hz
   obtain⟨x,hx,⟨_,rfl⟩ |⟨_,rfl⟩⟩:=Dl_ hz
   ·exact h.low hm x hx
   ·exact h.low hm _ hx
 | none=>
  obtain⟨a1,a2,a3⟩:=Os_ X.T k w;have P:=h.pair hk hw hs hg;have Q:=P.step (pr:=c.Promote) k
  have hmm :(promo c.Exact c.Promote (X.T.add k w) X.S k).1.mode=c.Mode∧(promo c.Exact c.Promote (X.T.add k w) X.S k).1.m=c.Slots:=by
   have hP:=Pv_ c.Exact c.Promote (X.T.add k w) X.S k;generalize promo c.Exact c.Promote (X.T.add k w) X.S k=p at *
   rcases hP with _ | _ | _
   ·exact⟨a1.trans h.mode.1,a2.trans h.mode.2⟩
   ·exact⟨a1.trans h.mode.1,a2.trans h.mode.2⟩
   ·exact⟨a1.trans h.mode.1,a2.trans h.mode.2⟩
  dsimp only;exact⟨Q.tab,hmm,⟨Q.sums,hs⟩,Q.ents,Q.asc,Q.len,Q.apart,Q.cnt,Q.low,hR⟩
def rows0 (d n:Nat):List (List Int):=List.replicate d (List.replicate n 0)
def tier0 (c:Cfg):As_:=⟨⟨c.Mode,c.Slots,[],0,0⟩,[],rows0 c.Depth.toNat c.Width.toNat,0⟩
theorem TierOk.new {c:Cfg} (hm:c.Mode=1∨c.Mode=2) (hs:1≤c.Slots∧c.Slots≤64) (he:0≤c.Exact) (hd:0≤c.Depth) (hw:0≤c.Width):TierOk c (tier0 c):=by
 refine⟨Bt_.new hm hs,⟨rfl,rfl⟩,⟨Int.le_refl _,by simp[tier0,mostW]⟩,Ents.nil,by simp[tier0,AscE],by simpa [tier0] using he,by simp[tier0,keysE],by simp[tier0],by simp[tier0],?_⟩;unfold tier0 rows0;refine⟨by simp;omega,fun row hr=>?_,fun row hr x hx=>?_⟩
 ·rw[List.eq_of_mem_replicate hr];simp;omega
 ·rw[List.eq_of_mem_replicate hr] at hx;rw[List.eq_of_mem_replicate hx];simp
end
section
abbrev Hist:=List (ByteArray×Int)
def wOf:Hist→ByteArray→Int
 | [],_=>0
 | p::h,k=>(if p.1=k then p.2 else 0)+wOf h k
def wAll:Hist→Int
 | []=>0
 | p::h=>p.2+wAll h
def ad_ (L:List Ent):Int:=(L.map Ent.cnt).sum
def am_ (L:List Ent):Int:=(L.map (·.own)).sum
structure gh_ (f:ByteArray→Int) (T:TabM) (S:List Ent):Prop where
 tab:∀e∈T.L,e.own≤f e.key∧f e.key≤(T.fix e).cnt
 tsl:∀e∈T.L,(T.fix e).slack≤T.base
 sto:∀e∈S,e.own≤f e.key∧f e.key≤e.cnt
 ssl:∀e∈S,e.slack≤T.base
 no:∀k,k∉keysE T.L→k∉keysE S→f k≤T.base
 one:T.mode=1→ad_ T.L+(T.m-T.L.length)*T.base≤T.sum
 two:T.mode=2→(T.m+1)*T.base+am_ T.L≤T.sum
def Over (f:ByteArray→Int) (t:List Int) (s:Int) (rows:List (List Int)):Prop:=∀(i:Nat) row,rows[i]?=some row→∀k,f k≤row.getD (slotR t s k i row) 0
end
section
structure Si_ (c:Cfg) (t:List Int) (h:Hist) (X:As_):Prop where
 ok:TierOk c X
 kn:gh_ (wOf h) X.T X.S
 over:Over (wOf h) t c.Seed X.rows
 sum:X.sum=wAll h
 pos:∀p∈h,1≤p.2
structure Bu_ (c:Cfg):Prop where
 mode:c.Mode=1∨c.Mode=2
 slots:1≤c.Slots∧c.Slots≤64
 exact:0≤c.Exact
 depth:1≤c.Depth
 width:1≤c.Width∧c.Width≤256
theorem Sl_ {d w s:Int} {rows:List (List Int)} (h:Grid d w s rows) (hw:1≤w) (t:List Int) (sd:Int) (k:ByteArray):∀(i:Nat) row,rows[i]?=some row→slotR t sd k i row<row.length:=fun i row hr=>by
 have h1:=h.width row (mo_ hr);unfold slotR slotF;have h2:=Int.emod_nonneg (hashF t (seedF sd i) k) (show(row.length:Int)≠0 by omega);have h3:=Int.emod_lt_of_pos (hashF t (seedF sd i) k) (show 0<(row.length:Int) by omega)
 omega
theorem Si_.new {c:Cfg} (t:List Int) (h:Bu_ c):Si_ c t [] (tier0 c):=by
 have hok:=TierOk.new h.mode h.slots h.exact (by have:=h.depth;omega) (by have:=h.width;omega);refine⟨hok,⟨by simp[tier0],by simp[tier0],by simp[tier0],by simp[tier0],by simp[tier0,wOf],by simp[tier0,ad_],by simp[tier0,am_]⟩,fun i row hr k=>?_,rfl,by simp⟩
 rcases getD_mem (l:=row) (j:=slotR t c.Seed k i row) with e|e
 ·rw[e];simp[wOf]
 ·exact(hok.rows.num row (mo_ hr) _ e).1
def As_.entries (X:As_):List Ent:=sortEn (X.T.entries++X.S)
theorem Du_ (T:TabM) (L:List Ent):keysE (L.map T.fix)=keysE L:=by
 unfold keysE;rw[List.map_map]
 exact List.map_congr_left fun e _=>Em_ T e
theorem Mc_ {X:As_} (h1 :(keysE X.T.L).Nodup) (h2 :(keysE X.S).Nodup) (hd:∀k∈keysE X.S,k∉keysE X.T.L):X.entries.Perm (X.T.L.map X.T.fix++X.S)∧AscE X.entries:=by
 have hn :(keysE (X.T.L.map X.T.fix)).Nodup:=by rw[Du_];exact h1
 have hp:X.T.entries.Perm (X.T.L.map X.T.fix):=(Ds_ hn).2
 have hn2 :(keysE (X.T.entries++X.S)).Nodup:=by
  have hk :(keysE (X.T.L.map X.T.fix++X.S)).Nodup:=by
   have:keysE (X.T.L.map X.T.fix++X.S)=keysE X.T.L++keysE X.S:=by
    rw[←Du_ X.T X.T.L];simp[keysE]
   rw[this];exact List.nodup_append.2 ⟨h1,h2,fun a ha b hb e=>hd b hb (e▸ha)⟩
  exact((hp.append_right X.S).map _).nodup_iff.2 hk
 obtain⟨h3,h4⟩:=Ds_ hn2;exact⟨h4.trans (hp.append_right X.S),h3⟩
theorem TierOk.entries {c:Cfg} {X:As_} (h:TierOk c X):X.entries.Perm (X.T.L.map X.T.fix++X.S)∧AscE X.entries:=Mc_ h.tab.ents.nodup h.ents.nodup h.apart
end
section
open Go.RowKit
structure OpR where
 (kind:Int) (vd:Value) (time shard:Int) (key:ByteArray) (vp:Value) (data:List UInt8) (picks:List Int)
def opF (o:OpR):List Value:=[.int .i64 o.kind,o.vd,.int .i64 o.time,.int .i64 o.shard,.string o.key,o.vp]
theorem Ep_ (o:OpR) :(opF o).length=6:=rfl
abbrev opA (kind:Int) (vd:Value) (time shard:Int) (key:ByteArray) (vp:Value):Array Value:=#[.int .i64 kind,vd,.int .i64 time,.int .i64 shard,.string key,vp]
abbrev opV (kind:Int) (vd:Value) (time shard:Int) (key:ByteArray) (vp:Value):Value:=.agg (opA kind vd time shard key vp)
structure OpRd (w:World) (o:OpR):Prop where
 data:RdL byF 1 w o.vd o.data
 picks:RdL intF 1 w o.vp o.picks
 dcap:∀a n c,o.vd=.slice a n c→n≤c
 pcap:∀a n c,o.vp=.slice a n c→n≤c
def inR (n:Int):Bool:=decide (0≤n)&&decide (n≤1099511627776)
theorem dy_ {n:Int}:inR n=true↔0≤n∧n≤1099511627776:=by simp[inR]
def restB (o:OpR):Bool:=
 if o.kind=1 then decide (o.time=0)&&decide (o.shard=0)&&decide (o.key.size=0)&&decide (o.picks.length=0)
 else if o.kind=2 then decide (o.data.length=0)&&decide (o.shard=0)&&decide (o.key.size=0)
 else if o.kind=3 then decide (o.data.length=0)&&decide (o.time=0)&&decide (o.key.size=0)&&decide (o.picks.length=0)
 else if o.kind=4 then decide (o.data.length=0)&&decide (o.time=0)&&decide (o.shard=0)&&decide (o.key.size=0)&&decide (o.picks.length=0)
 else if o.kind=5 then decide (o.data.length=0)&&decide (o.shard=0)&&decide (o.picks.length=0)
 else false
def longB (o:OpR):Bool:=decide (4096<o.data.length)||decide (255<o.key.size)||decide (8<o.picks.length)
def rangeB (o:OpR):Bool:=inR o.time&&inR o.shard&&o.picks.all inR
def opE (o:OpR):Int:=if restB o=false then 3 else if longB o=true then 4 else if rangeB o=false then 1 else 0
theorem H6_ {o:OpR}:opE o=0↔restB o=true∧longB o=false∧rangeB o=true:=by
 unfold opE;cases restB o <;> cases longB o <;> cases rangeB o <;> simp
def textD (most:Nat) (l:List UInt8) (e:Int):List UInt8×List UInt8×Int:=
 if (numF most 4 l e).2.2≠0 then ([],(numF most 4 l e).2.1,(numF most 4 l e).2.2)
 else if (numF most 4 l e).2.1.length<(numF most 4 l e).1 then ([],(numF most 4 l e).2.1,2)
 else ((numF most 4 l e).2.1.take (numF most 4 l e).1,(numF most 4 l e).2.1.drop (numF most 4 l e).1,0)
def tagD (l:List UInt8) (e:Int):TagR×List UInt8×Int:=
 (⟨⟨(textD 4096 l e).1.toArray⟩,⟨(textD 4096 (textD 4096 l e).2.1 (textD 4096 l e).2.2).1.toArray⟩⟩,(textD 4096 (textD 4096 l e).2.1 (textD 4096 l e).2.2).2)
def tagsD:Nat→List UInt8→Int→List TagR×List UInt8×Int
 | 0,l,e=>([],l,e)
 | n+1,l,e=>((tagsD n l e).1++[(tagD (tagsD n l e).2.1 (tagsD n l e).2.2).1],(tagD (tagsD n l e).2.1 (tagsD n l e).2.2).2)
theorem Xh_ (n:Nat) (l:List UInt8) (e:Int) :(tagsD n l e).1.length=n:=by
 induction n with
 | zero=>rfl
 | succ n ih=>simp[tagsD,ih]
structure RawE where
 (time weight:Int) (tags:List TagR)
def rawE (l:List UInt8):RawE×List UInt8×Int:=
 let a1:=numF 1099511627776 1 l 0
 let a2:=weiF a1.2.1 a1.2.2
 let a3:=numF 8 5 a2.2.1 a2.2.2
 let a4:=tagsD a3.1 a3.2.1 a3.2.2
 (⟨a1.1,a2.1,a4.1⟩,a4.2)
def rawX (l:List UInt8):Int:=(rawE l).2.2
theorem Fl_ (most:Nat) (l:List UInt8) (e:Int) :(textD most l e).2.1.length≤l.length:=by
 have:=Cl_ (most:=most) (over:=4) (l:=l) (e:=e)
 unfold textD
 split
 ·exact this
 ·split
  ·exact this
  ·simp only[List.length_drop];omega
theorem Ve_ (l:List UInt8) (e:Int) :(tagD l e).2.1.length≤l.length:=lt_ (Fl_ _ _ _) (Fl_ _ _ _)
theorem I2_ (n:Nat) (l:List UInt8) (e:Int) :(tagsD n l e).2.1.length≤l.length:=by
 induction n with
 | zero=>exact le_ _
 | succ n ih=>exact lt_ (Ve_ _ _) ih
theorem K3_ (l:List UInt8) :(rawE l).2.1.length≤l.length:=
 lt_ (I2_ _ _ _) (lt_ Cl_ (lt_ Cl_ Cl_))
theorem Ir_ (most:Nat) (l:List UInt8) (e:Int) :(textD most l e).1.length≤l.length:=by
 have:=Cl_ (most:=most) (over:=4) (l:=l) (e:=e)
 unfold textD
 split
 ·simp
 ·split
  ·simp
  ·simp only[lk_];omega
theorem R6_ (l:List UInt8) (e:Int) :(tagD l e).1.name.size≤l.length∧(tagD l e).1.value.size≤l.length:=by
 refine⟨?_,?_⟩
 ·have:=Ir_ 4096 l e;simpa [tagD,ByteArray.size] using this
 ·have h1:=Ir_ 4096 (textD 4096 l e).2.1 (textD 4096 l e).2.2
  have h2:=Fl_ 4096 l e
  have :(tagD l e).1.value.size =(textD 4096 (textD 4096 l e).2.1 (textD 4096 l e).2.2).1.length:=by simp[tagD,ByteArray.size]
  omega
theorem Q2_ (n:Nat) (l:List UInt8) (e:Int):∀t∈(tagsD n l e).1,t.name.size≤l.length∧t.value.size≤l.length:=by
 induction n with
 | zero=>simp[tagsD]
 | succ n ih=>
  intro t ht
  rcases ma_ ht with ht|ht
  ·exact ih t ht
  ·rw[ms_ ht]
   have h1:=R6_ (tagsD n l e).2.1 (tagsD n l e).2.2;have h2:=I2_ n l e
   omega
theorem Rn_ (l:List UInt8):∀t∈(rawE l).1.tags,t.name.size≤l.length∧t.value.size≤l.length:=fun t ht=>by
 have h1:=Q2_ _ _ _ t ht;have h2 :(numF 8 5 (weiF (numF 1099511627776 1 l 0).2.1 (numF 1099511627776 1 l 0).2.2).2.1 (weiF (numF 1099511627776 1 l 0).2.1 (numF 1099511627776 1 l 0).2.2).2.2).2.1.length≤l.length:=lt_ Cl_ (lt_ Cl_ Cl_)
 omega
theorem F8_ (most:Nat) (over:Int) (l:List UInt8) (e:Int) :(numF most over l e).2.1 <:+ l:=by
 unfold numF
 repeat' split
 all_goals first|exact List.suffix_refl _|exact List.drop_suffix _ _
theorem Mo_ (most:Nat) (l:List UInt8) (e:Int) :(textD most l e).2.1 <:+ l:=by
 have:=F8_ most 4 l e
 unfold textD
 split
 ·exact this
 ·split
  ·exact this
  ·exact(List.drop_suffix _ _).trans this
theorem Vo_ (n:Nat) (l:List UInt8) (e:Int) :(tagsD n l e).2.1 <:+ l:=by
 induction n with
 | zero=>exact List.suffix_refl _
 | succ n ih=>exact((Mo_ _ _ _).trans (Mo_ _ _ _)).trans ih
theorem X1_ (l:List UInt8) :(rawE l).2.1 <:+ l:=
 (Vo_ _ _ _).trans ((F8_ _ _ _ _).trans ((F8_ _ _ _ _).trans (F8_ _ _ _ _)))
theorem S9_ (l:List UInt8):l.drop (l.length-(rawE l).2.1.length) =(rawE l).2.1:=(List.suffix_iff_eq_drop.1 (X1_ l)).symm
def itemE (x:RawE):Int:=if x.time<0∨1099511627776<x.time∨x.weight<1∨9223372036854775808<x.weight then 1 else keyE x.tags
def itZ:ItR:=⟨⟨#[]⟩,0,0⟩
def itemR (x:RawE):ItR:=if itemE x=0 then ⟨keyY x.tags,x.time,x.weight⟩ else itZ
def verE (e:Int):Int:=if e=0 then 0 else if e=4 then 2 else 1
structure InpR where
 (it:ItR) (ver:Int)
def inpF (x:InpR):List Value:=[.string x.it.key,.int .i64 x.it.time,.int .u64 x.it.weight,.int .i64 x.ver]
theorem Ec_ (x:InpR) :(inpF x).length=4:=rfl
theorem Ho_:OneF inpF:=by intro x u hu;simp[inpF] at hu;rcases hu with rfl|rfl|rfl|rfl <;> rfl
def inpBad:InpR:=⟨itZ,1⟩
def inpV (most:Int) (x:RawE):Int:=if verE (itemE x)=0∧most<(itemR x).key.size then 2 else verE (itemE x)
def inpOf (most:Int) (x:RawE):InpR:=⟨if inpV most x=0 then itemR x else itZ,inpV most x⟩
def inpsD (most:Int):Nat→List UInt8→List InpR
 | 0,r=>if r≠[] then [inpBad] else []
 | n+1,r=>if rawX r≠0 then List.replicate (n+1) inpBad else inpOf most (rawE r).1::inpsD most n (rawE r).2.1
def inputsF (most:Int) (b:List UInt8):List InpR:=
 if (readF b).2.2≠0∨(readF b).1<1∨64<(readF b).1 then [inpBad] else inpsD most (readF b).1 (b.drop (readF b).2.1)
theorem Ls_ (most:Int):∀(n:Nat) (r:List UInt8),(inpsD most n r).length≤n+1
 | 0,r=>by unfold inpsD;split <;> simp
 | n+1,r=>by
  unfold inpsD
  split
  ·simp
  ·have:=Ls_ most n (rawE r).2.1
   simp only[lc_];omega
theorem Oh_ (most:Int) (b:List UInt8) :(inputsF most b).length≤65:=by
 unfold inputsF
 split
 ·simp
 ·have:=Ls_ most (readF b).1 (b.drop (readF b).2.1);omega
structure InpOk (most:Int) (x:InpR):Prop where
 ver:0≤x.ver∧x.ver≤2
 bad:x.ver≠0→x.it=itZ
 time:0≤x.it.time∧x.it.time≤1099511627776
 weight:0≤x.it.weight∧x.it.weight≤9223372036854775808
 size:x.it.key.size≤255
 good:x.ver=0→1≤x.it.weight∧∃L,keyE L=0∧x.it.key=keyY L∧(x.it.key.size:Int)≤most
theorem H4_ (most:Int):InpOk most inpBad:=⟨by decide,fun _=>rfl,by decide,by decide,by decide,fun h=>by simp[inpBad] at h⟩
theorem Zm_ (most:Int) (x:RawE):InpOk most (inpOf most x):=by
 have hv:0≤inpV most x∧inpV most x≤2:=by unfold inpV verE;split <;> (try split) <;> (try split) <;> omega
 by_cases h:inpV most x=0
 ·have e1 :(inpOf most x).it=itemR x:=if_pos h
  have h2:itemE x=0∧¬most<(itemR x).key.size:=by
   unfold inpV at h
   split at h
   ·omega
   ·rename_i hn
    have h3:itemE x=0:=by unfold verE at h;split at h <;> (try split at h) <;> omega
    exact⟨h3,fun hm=>hn ⟨h,hm⟩⟩
  have e2:itemR x =⟨keyY x.tags,x.time,x.weight⟩:=if_pos h2.1;have h3:=h2.1;unfold itemE at h3
  split at h3
  ·omega
  ·refine⟨hv,fun hn=>absurd h hn,?_,?_,?_,fun _=>?_⟩
   ·rw[e1,e2];dsimp only;omega
   ·rw[e1,e2];dsimp only;omega
   ·rw[e1,e2];exact Jh_ _
   ·rw[e1]
    refine⟨by rw[e2];dsimp only;omega,x.tags,h3,by rw[e2],by omega⟩
 ·have e1 :(inpOf most x).it=itZ:=if_neg h
  refine⟨hv,fun _=>e1,?_,?_,?_,fun h0=>absurd h0 h⟩ <;> (rw[e1];decide)
theorem P3_ (most:Int):∀(n:Nat) (r:List UInt8),∀x∈inpsD most n r,InpOk most x
 | 0,r=>by
  unfold inpsD
  split
  ·intro x hx;rw[ms_ hx];exact H4_ most
  ·simp
 | n+1,r=>by
  unfold inpsD
  split
  ·intro x hx;rw[List.eq_of_mem_replicate hx];exact H4_ most
  ·intro x hx
   rcases List.mem_cons.1 hx with rfl|hx
   ·exact Zm_ most _
   ·exact P3_ most n _ x hx
theorem Qu_ (most:Int) (b:List UInt8):∀x∈inputsF most b,InpOk most x:=by
 unfold inputsF
 split
 ·intro x hx;rw[ms_ hx];exact H4_ most
 ·exact P3_ most _ _
structure StrM where
 (buf:List UInt8) (skip:Int) (broken:Bool)
structure ChM where
 (body:List UInt8) (ver:Int)
def strS (s:StrM) (b:UInt8):StrM×List ChM:=
 if s.broken=true then (s,[])
 else if 0<s.skip then ({ s with skip:=s.skip-1 },[])
 else if (readF (s.buf++[b])).2.2=3 then (⟨[],0,true⟩,[⟨[],1⟩])
 else if (readF (s.buf++[b])).2.2=0∧4096<(readF (s.buf++[b])).1 then (⟨[],(readF (s.buf++[b])).1,false⟩,[⟨[],2⟩])
 else if (readF (s.buf++[b])).2.2=0∧(readF (s.buf++[b])).1≤(s.buf++[b]).length-(readF (s.buf++[b])).2.1 then ({ s with buf:=[] },[⟨((s.buf++[b]).drop (readF (s.buf++[b])).2.1).take (readF (s.buf++[b])).1,0⟩])
 else ({ s with buf:=s.buf++[b] },[])
def strF (s:StrM) (l:List UInt8):StrM×List ChM:=l.foldl (fun a b=>((strS a.1 b).1,a.2++(strS a.1 b).2)) (s,[])
theorem Mp_ (s:StrM) (l:List UInt8) (b:UInt8):strF s (l++[b]) =((strS (strF s l).1 b).1,(strF s l).2++(strS (strF s l).1 b).2):=by simp[strF]
structure StrOk (s:StrM):Prop where
 skip:0≤s.skip∧s.skip<18446744073709551616
 len:s.buf.length≤4106
structure ChOk (x:ChM):Prop where
 ver:0≤x.ver∧x.ver≤2
 len:x.body.length≤4096
theorem Wh_ (s:StrM) (b:UInt8) :(strS s b).2.length≤1:=by
 unfold strS
 repeat' split
 all_goals simp
theorem Kw_ {l:List UInt8} (h :(readF l).2.2=2):l.length≤10:=by
 by_cases h1:bigs 10 l=10
 ·rw[Dp_ h1] at h;simp at h
 ·by_cases h2:l.length=bigs 10 l
  ·have:=De_ 10 l;omega
  ·have h3:bigs 10 l<l.length:=by have:=De_ 10 l;omega
   by_cases h4 :(bigs 10 l=9∧1<l[bigs 10 l].toNat)∨(0<bigs 10 l∧l[bigs 10 l].toNat=0)
   ·rw[Di_ h1 h3 h4] at h;simp at h
   ·rw[Fd_ h1 h3 h4] at h;simp at h
theorem Lb_ (l:List UInt8) :(readF l).2.1≤10:=by
 by_cases h1:bigs 10 l=10
 ·rw[Dp_ h1];simp
 ·by_cases h2:l.length=bigs 10 l
  ·rw[Df_ h1 h2];simp
  ·have h3:bigs 10 l<l.length:=by have:=De_ 10 l;omega
   by_cases h4 :(bigs 10 l=9∧1<l[bigs 10 l].toNat)∨(0<bigs 10 l∧l[bigs 10 l].toNat=0)
   ·rw[Di_ h1 h3 h4];simp
   ·rw[Fd_ h1 h3 h4];have:=(De_ 10 l).1;show bigs 10 l+1≤10;omega
theorem c0_ {s:StrM} (h:StrOk s) (b:UInt8):StrOk (strS s b).1∧∀x∈(strS s b).2,ChOk x:=by
 have hw:=Ek_ (s.buf++[b]);unfold strS
 split
 ·exact⟨h,by simp⟩
 ·split
  ·exact⟨⟨by have:=h.skip;dsimp only;omega,h.len⟩,by simp⟩
  ·split
   ·exact⟨⟨by decide,by simp⟩,fun x hx=>by rw[ms_ hx];exact⟨by decide,by simp⟩⟩
   ·split
    ·exact⟨⟨by dsimp only;omega,by simp⟩,fun x hx=>by rw[ms_ hx];exact⟨by decide,by simp⟩⟩
    ·rename_i h4
     split
     ·rename_i h5
      refine⟨⟨h.skip,by simp⟩,fun x hx=>?_⟩;rw[ms_ hx];refine⟨⟨Int.le_refl _,by simp⟩,?_⟩;simp only[lk_]
      omega
     ·rename_i h3 h5
      refine⟨⟨h.skip,?_⟩,by simp⟩
      show(s.buf++[b]).length≤4106
      by_cases h0 :(readF (s.buf++[b])).2.2=0
      ·have:=Lb_ (s.buf++[b])
       omega
      ·have :(readF (s.buf++[b])).2.2=2:=by
        rcases(Lg_ _ h0).2.2 with e|e
        ·exact e
        ·exact absurd e h3
       have:=Kw_ this
       omega
theorem Ka_ {s:StrM} (h:StrOk s) (l:List UInt8):∀k,k≤l.length→StrOk (strF s (l.take k)).1∧(∀x∈(strF s (l.take k)).2,ChOk x)∧(strF s (l.take k)).2.length≤k:=by
 intro k
 induction k with
 | zero=>exact fun _=>⟨by simpa [strF] using h,by simp[strF],by simp[strF]⟩
 | succ k ih=>
  intro hk;obtain⟨h1,h2,h3⟩:=ih (by omega);rw[tg_ (show k<l.length by omega),Mp_];obtain⟨h4,h5⟩:=c0_ h1 l[k];refine⟨h4,fun x hx=>?_,?_⟩
  ·rcases ma_ hx with hx|hx
   ·exact h2 x hx
   ·exact h5 x hx
  ·have:=Wh_ (strF s (l.take k)).1 l[k]
   simp only[la_]
   omega
theorem If_ (s:StrM) {l:List UInt8} {k:Nat} (h:k<l.length):strF s (l.take (k+1)) =((strS (strF s (l.take k)).1 l[k]).1,(strF s (l.take k)).2++(strS (strF s (l.take k)).1 l[k]).2):=by
 rw[tg_ h,Mp_]
end
section
open Go.RowKit Go.Maps Go.Sort
def rejE (r:Int):Int:=if r<1∨6<r then 1 else 0
def rejR (R:List Int) (r:Int):List Int:=if r<1∨6<r then R else R.set r.toNat (satA (R.getD r.toNat 0) 1)
theorem bi_ {R:List Int} (h:∀x∈R,W64 x) (k:Nat):W64 (R.getD k 0):=by
 rw[List.getD_eq_getElem?_getD]
 cases hk:R[k]? with
 | none=>exact⟨by simp,by simp⟩
 | some x=>exact h x (mo_ hk)
theorem el_ {R:List Int} (h:∀x∈R,W64 x) (r:Int):∀x∈rejR R r,W64 x:=by
 unfold rejR;split
 ·exact h
 ·intro x hx
  rcases List.mem_or_eq_of_mem_set hx with h1|h1
  ·exact h x h1
  ·rw[h1];exact B9_ (bi_ h _) ⟨by omega,by omega⟩
theorem Cw_:OneF wordF:=by intro x u hu;simp[wordF] at hu;subst hu;rfl
theorem Cu_:Elt 24 22 (.int .u64 0) 1 8:=⟨underlying24,by kernel_rfl,rfl,by decide⟩
end
end Go.Proofs.YtckmgjmeanloaaaGreat
