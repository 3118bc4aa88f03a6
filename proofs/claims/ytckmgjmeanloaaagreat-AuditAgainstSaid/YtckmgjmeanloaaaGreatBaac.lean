/- Several texts in one file: contracts of functions of the given program, and plain laws, for the proof of a statement. -/
import Derived.Test.YtckmgjmeanloaaaGreatBaab
import Derived.StillTailTactics
set_option maxHeartbeats 8000000
set_option maxRecDepth 100000
namespace Go.Proofs.YtckmgjmeanloaaaGreat
open Go.Proofs.Tryz
section
open Go.RowKit Go.Sort
def satL (n:Int):Int:=if n≤18446744073709551615 then n else 18446744073709551615
def fitL (n:Int):Bool:=decide (n≤18446744073709551615)
theorem Ja_ {n:Int} (h:0≤n):W64 (satL n):=by unfold W64 satL;split <;> omega
theorem Jq_ {n x:Int} (_:0≤n) (hx:0≤x):satA (satL n) x=satL (n+x):=by unfold satA satL;(repeat' split) <;> omega
theorem Kf_ {n x:Int} (hx:0≤x) :(fitL n&&fitA (satL n) x)=fitL (n+x):=by
 unfold fitL fitA satL;rw[Bool.eq_iff_iff];simp only[Bool.and_eq_true,decide_eq_true_eq]
 split <;> constructor <;> intro h <;> omega
def ak_ (n:Int) (w:World) (e:Ending) (w':World):Prop:=e=.returned (.tuple #[.int .u64 (satL n),.bool (fitL n)])∧w.grownBy w' none
theorem em_ (v:Value) (ls:List Ln) (w:World) (h:RdL lnF 3 w v ls) (hW:∀x∈ls,LnW x):Calls Tryz.prog 62 #[v] w (ak_ (loSum ls) w):=by
 obtain⟨a,c,rfl⟩:=h.shape;have hm:=h.2.1;have H:=hh_ h;have HW:=hh_ hW;have H0:=hh_ (show ak_ (loSum ls) w=fun e w'=>e=.returned (.tuple #[.int .u64 (satL (loSum ls)),.bool (fitL (loSum ls))])∧w.grownBy w' none from rfl);clear h hW
 go_enter func62,ntmps62
 go_wp2_with fail
 go_loopw [2,3,9] (fun s2 s3 s9 wk=>∃k:Nat,k≤ls.length∧s9=.int .i64 k∧s2=.int .u64 (satL (loSum (ls.take k)))∧s3=.bool (fitL (loSum (ls.take k)))∧w.grownBy wk none) (fun _ _ s9 _=>ls.length-(RowKit.intOf s9).toNat)
 case atStart=>exact⟨0,zl_ _,rfl,rfl,rfl,Ab_ _ _⟩
 case round=>
  obtain⟨k,hk,rfl,rfl,rfl,hg⟩:=hrel
  by_cases hlt:k<ls.length
  ·obtain⟨g,off,cap,hv,hgl,hc⟩:=(RdL.same H.out hg).at_ Ar_ hlt
   cases hv;have c0:=hc 0 _ rfl;have c1:=hc 1 _ rfl;have c2:=hc 2 _ rfl;rw[Nat.add_zero] at c0;clear hc;have hx:=HW.out _ (mg_ hlt)
   have hp:0≤loSum (ls.take k):=loSum_pos fun y hy=>(HW.out y (List.mem_of_mem_take hy)).lo.1
   have HS:=hh_ (show loSum (ls.take (k+1))=loSum (ls.take k)+ls[k].lo by rw[B4_ hlt,D6_]);have w1:=Ja_ hp;have w2:=hx.lo;have Ha:=hh_ (Jq_ hp w2.1);have Hf:=hh_ (Kf_ (n:=loSum (ls.take k)) w2.1);clear hx;generalize loSum (ls.take k)=n at *;generalize ls[k]=x at *;obtain⟨bt,hbt⟩:∃bt,fitL n=bt:=⟨_,rfl⟩;rw[hbt] at Hf ⊢;clear hbt hp;generalize satL n=sn at *;cases bt
   ·go_wp2_with (go_at_call 28;refine(D2_ sn x.lo _ w1 w2).mono ?_;rintro e w' ⟨rfl,rfl⟩)
    exact⟨⟨k+1,by omega,by go_num,by rw[HS.out,←Ha.out],by rw[HS.out,←Hf.out];rfl,Ad_ hg _⟩,by simp[RowKit.intOf];omega⟩
   ·go_wp2_with (go_at_call 28;refine(D2_ sn x.lo _ w1 w2).mono ?_;rintro e w' ⟨rfl,rfl⟩)
    exact⟨⟨k+1,by omega,by go_num,by rw[HS.out,←Ha.out],by rw[HS.out,←Hf.out,Bool.true_and],Ad_ hg _⟩,by simp[RowKit.intOf];omega⟩
  ·have hl:ls.take k=ls:=tk_ (by omega)
   rw[hl]
   go_wp2_with fail
   go_ret2
   exact⟨rfl,hg⟩
theorem Jk_ {tot:Int} {p:Option Ln} {x:Ln} (h:x.key.toList.isEmpty=true):Cy_ tot p x=3:=by unfold Cy_;rw[if_pos (isE h)]
theorem Nm_ {tot:Int} {p:Option Ln} {x:Ln} (h:x.key.toList.isEmpty=false) (h2:255<(x.key.size:Int)):Cy_ tot p x=4:=by unfold Cy_;rw[if_neg (isN h),if_pos (by omega)]
theorem Ea_ {tot:Int} {p:Option Ln} {x:Ln} (h:x.key.toList.isEmpty=false) (h2 :(x.key.size:Int)≤255) (h3:x.hi<x.lo∨tot<x.hi):Cy_ tot p x=1:=by unfold Cy_;rw[if_neg (isN h),if_neg (by omega),if_pos h3]
theorem Om_ {tot:Int} {p:Option Ln} {x:Ln} (h:x.key.toList.isEmpty=false) (h2 :(x.key.size:Int)≤255) (h3:x.lo≤x.hi) (h4:x.hi≤tot):Cy_ tot p x=if (p.map fun p=>!befB p x).getD false then 6 else 0:=by
 unfold Cy_;rw[if_neg (isN h),if_neg (by omega),if_neg (by omega)]
theorem cl_ (r:Rep) (w:World) (hR:RepRd w r) (hi:0<r.lines.length):Calls Tryz.prog 61 #[repV r.win r.tot r.vl r.over r.trk r.rest r.vr,.int .i64 0] w (RetInt (Cy_ r.tot none r.lines[0]) w):=by
 obtain⟨win,tot,vl,over,trk,rest,vr,ls,rj⟩:=r;obtain⟨ra,rc,e2⟩:=hR.rej.shape
 simp only at e2 hi ⊢
 subst e2;obtain⟨g,off,cap,hv,hgl,hc⟩:=hR.lines.at_ Ar_ hi
 simp only at hv
 subst hv;have c0:=hc 0 _ rfl;have c1:=hc 1 _ rfl;have c2:=hc 2 _ rfl;have hlen:ls.length≤9223372036854775807:=hR.lines.2.1;simp only[Nat.zero_mul,Nat.add_zero] at c0 c1 c2;clear hR hc
 have hl0 :(0:Int)<(ls.length:Int):=by omega
 generalize ls[0]=x at *
 go_enter func61,ntmps61
 go_upto_region 2 with fail
 have B1:=(Blk.new w #[.int .i64 win,.int .u64 tot,.slice (some ⟨g,off,none⟩) ls.length cap,.int .u64 over,.int .i64 trk,.int .u64 rest,.slice ra rj.length rc] 26).same (ga_ _ (.cells #[.string x.key,.int .u64 x.lo,.int .u64 x.hi] 46) none);have B2:=Blk.new' (w.alloc (.cells #[.int .i64 win,.int .u64 tot,.slice (some ⟨g,off,none⟩) ls.length cap,.int .u64 over,.int .i64 trk,.int .u64 rest,.slice ra rj.length rc] 26)) #[.string x.key,.int .u64 x.lo,.int .u64 x.hi] 46 (g:=w.heap.size+1) (by simp);have hg:=Ad_ (Ad_ (Ab_ w none) (.cells #[.int .i64 win,.int .u64 tot,.slice (some ⟨g,off,none⟩) ls.length cap,.int .u64 over,.int .i64 trk,.int .u64 rest,.slice ra rj.length rc] 26)) (.cells #[.string x.key,.int .u64 x.lo,.int .u64 x.hi] 46);generalize (w.alloc (.cells #[.int .i64 win,.int .u64 tot,.slice (some ⟨g,off,none⟩) ls.length cap,.int .u64 over,.int .i64 trk,.int .u64 rest,.slice ra rj.length rc] 26)).alloc (.cells #[.string x.key,.int .u64 x.lo,.int .u64 x.hi] 46)=wq at *;have b1:=B1.cell;have b2:=B2.cell;clear c0 c1 c2
 go_wp2_with fail
 ·go_ret
  exact Ai_ (Jk_ (by assumption)) hg
 ·go_ret
  exact Ai_ (Nm_ (by assumption) (by assumption)) hg
 ·go_ret
  exact Ai_ (Ea_ (by assumption) (by assumption) (by assumption)) hg
 ·have he:x.key.toList.isEmpty=false:=by assumption
  have hl :(x.key.size:Int)≤255:=by assumption
  have h3:x.lo≤x.hi:=by assumption
  have h4:x.hi≤tot:=And.right (show x.lo≤x.hi∧x.hi≤tot by assumption);have HL:=hh_ (Om_ (p:=none) he hl h3 h4);clear he hl h3 h4
  go_quiet (fail)
  go_wp2_with fail
  go_ret
  exact Ai_ HL.out (Ae_ hg _)
 ·go_ret
  exact Ai_ (Ea_ (by assumption) (by assumption) (Or.inl (by assumption))) hg
theorem cn_ (r:Rep) (m:Nat) (w:World) (hR:RepRd w r) (hi:m+1<r.lines.length):Calls Tryz.prog 61 #[repV r.win r.tot r.vl r.over r.trk r.rest r.vr,.int .i64 (m+1:Nat)] w (RetInt (Cy_ r.tot (some r.lines[m]) r.lines[m+1]) w):=by
 obtain⟨win,tot,vl,over,trk,rest,vr,ls,rj⟩:=r;obtain⟨ra,rc,e2⟩:=hR.rej.shape
 simp only at e2 hi ⊢
 subst e2;obtain⟨g,off,cap,hv,hgl,hc⟩:=hR.lines.at_ Ar_ hi
 simp only at hv
 subst hv;have c0:=hc 0 _ rfl;have c1:=hc 1 _ rfl;have c2:=hc 2 _ rfl;obtain⟨g',off',cap',hv',-,hd⟩:=hR.lines.at_ Ar_ (show m<ls.length by omega);cases hv';have HD:=hh_ hd;have hlen:ls.length≤9223372036854775807:=hR.lines.2.1;simp only[Nat.add_zero] at c0 c1 c2;clear hR hc hd
 have hl0 :(0:Int)≤((m+1:Nat):Int):=by omega
 have hl1 :((m+1:Nat):Int)<(ls.length:Int):=by omega
 have hl2 :(0:Int)≤(m:Int):=by omega
 have hl3 :(m:Int)<(ls.length:Int):=by omega
 have hs1:IntKind.i64.wrap (((m+1:Nat):Int)-1) =(m:Int):=by rw[IntWalk.i64_in _ (by omega)];omega
 have hs2 :((m+1:Nat):Int)-1 =(m:Int):=by omega
 have hgt:decide ((0:Int)<((m+1:Nat):Int))=true:=dt_ (by omega);generalize ls[m]=y at *;generalize ls[m+1]=x at *
 go_enter func61,ntmps61
 go_upto_region 2 with fail
 have B1:=(Blk.new w #[.int .i64 win,.int .u64 tot,.slice (some ⟨g,off,none⟩) ls.length cap,.int .u64 over,.int .i64 trk,.int .u64 rest,.slice ra rj.length rc] 26).same (ga_ _ (.cells #[.string x.key,.int .u64 x.lo,.int .u64 x.hi] 46) none);have B2:=Blk.new' (w.alloc (.cells #[.int .i64 win,.int .u64 tot,.slice (some ⟨g,off,none⟩) ls.length cap,.int .u64 over,.int .i64 trk,.int .u64 rest,.slice ra rj.length rc] 26)) #[.string x.key,.int .u64 x.lo,.int .u64 x.hi] 46 (g:=w.heap.size+1) (by simp);have hg:=Ad_ (Ad_ (Ab_ w none) (.cells #[.int .i64 win,.int .u64 tot,.slice (some ⟨g,off,none⟩) ls.length cap,.int .u64 over,.int .i64 trk,.int .u64 rest,.slice ra rj.length rc] 26)) (.cells #[.string x.key,.int .u64 x.lo,.int .u64 x.hi] 46);generalize (w.alloc (.cells #[.int .i64 win,.int .u64 tot,.slice (some ⟨g,off,none⟩) ls.length cap,.int .u64 over,.int .i64 trk,.int .u64 rest,.slice ra rj.length rc] 26)).alloc (.cells #[.string x.key,.int .u64 x.lo,.int .u64 x.hi] 46)=wq at *;have b1:=B1.cell;have b2:=B2.cell;clear c0 c1 c2
 go_wp2_with fail
 ·go_ret
  exact Ai_ (Jk_ (by assumption)) hg
 ·go_ret
  exact Ai_ (Nm_ (by assumption) (by assumption)) hg
 ·go_ret
  exact Ai_ (Ea_ (by assumption) (by assumption) (by assumption)) hg
 ·have he:x.key.toList.isEmpty=false:=by assumption
  have hl :(x.key.size:Int)≤255:=by assumption
  have h3:x.lo≤x.hi:=by assumption
  have h4:x.hi≤tot:=And.right (show x.lo≤x.hi∧x.hi≤tot by assumption);have HL2:=hh_ (show Cy_ tot (some y) x=if !(befB y x) then 6 else 0 from Om_ (p:=some y) he hl h3 h4);have d0:=cell_regrown ((((An_ hg).1 g _ hgl (by simp))).trans (HD.out 0 _ rfl));have d1:=cell_regrown ((((An_ hg).1 g _ hgl (by simp))).trans (HD.out 1 _ rfl));have d2:=cell_regrown ((((An_ hg).1 g _ hgl (by simp))).trans (HD.out 2 _ rfl));simp only[Nat.add_zero] at d0;have e1:=B1.re;have e2:=B2.re
  have r4:=Bi_ (w:=wq) fun w' hg=>Yo_ y x w'
  clear he hl h3 h4 HD b1 b2 B1 B2;generalize befB y x=bb at *
  (refine Tail.wp_region_tail_grown 14 (by kernel_rfl) (by kernel_rfl) ?_;simp only[List.take,List.drop];(repeat(go_big_quiet_step (with_reducible exact r4 _ _)));refine wn_ ?_;rintro _ ⟨⟨d5,os5⟩,rfl⟩)
  have K3:=Aa_ hg (A1_ wq d5 os5);generalize grow (redrawn wq d5) os5=w3 at *;clear d0 d1 d2 e1 e2 r4;cases bb
  ·go_wp2_with fail
   go_ret
   exact Ai_ HL2.out K3
  ·go_wp2_with fail
   go_ret
   exact Ai_ HL2.out K3
 ·go_ret
  exact Ai_ (Ea_ (by assumption) (by assumption) (Or.inl (by assumption))) hg
end
section
open Go.RowKit Go.Sort Go.Maps Go.WideMaps
theorem keyLaw:Keyed Tryz.prog 9:=string_keyed underlying9
theorem Us_ {tot:Int} {ls:List Ln} (h:0<ls.length):lnErrAt tot ls 0=Cy_ tot none ls[0]:=by
 unfold lnErrAt;rw[gq_ h];rfl
theorem R5_ {tot:Int} {ls:List Ln} {m:Nat} (h:m+1<ls.length):lnErrAt tot ls (m+1)=Cy_ tot (some ls[m]) ls[m+1]:=by
 unfold lnErrAt;rw[gq_ h];simp only[M2_];rw[gq_ (show m<ls.length by omega)]
theorem Ty_ (r:Rep) (i:Nat) (w:World) (hR:RepRd w r) (hi:i<r.lines.length):Calls Tryz.prog 61 #[repV r.win r.tot r.vl r.over r.trk r.rest r.vr,.int .i64 i] w (RetInt (lnErrAt r.tot r.lines i) w):=by
 cases i with
 | zero=>rw[Us_ hi];exact cl_ r w hR hi
 | succ m=>rw[R5_ hi];exact cn_ r m w hR hi
theorem D9_ {ls:List Ln} {k:Nat} (h:k<ls.length):keysN (ls.take (k+1))=keysN (ls.take k)++[ls[k].key.data.toList]:=by
 unfold keysN;rw[tg_ h,List.map_append];rfl
theorem fs_ {r:Rep} (h:r.win<0∨1099511627776<r.win∨9223372036854775808<r.tot∨r.tot<r.rest):repErr r=1:=by unfold repErr;rw[if_pos h]
theorem d3_ {r:Rep} (h1:¬(r.win<0∨1099511627776<r.win∨9223372036854775808<r.tot∨r.tot<r.rest)) (h:64<r.lines.length∨r.trk<r.lines.length∨768<r.trk):repErr r=7:=by unfold repErr;rw[if_neg h1,if_pos h]
def En_ (r:Rep):Int:=
 if Cc_ r.tot r.lines≠0 then Cc_ r.tot r.lines
 else if ¬(keysN r.lines).Nodup then 10
 else if 18446744073709551615<r.over+loSum r.lines∨r.over+loSum r.lines≠r.tot then 13
 else if r.rej.length≠7∨r.rej[0]?≠some 0 then 3
 else 0
theorem fa_ {r:Rep} (h1:¬(r.win<0∨1099511627776<r.win∨9223372036854775808<r.tot∨r.tot<r.rest)) (h2:¬(64<r.lines.length∨r.trk<r.lines.length∨768<r.trk)):repErr r=En_ r:=by unfold repErr;rw[if_neg h1,if_neg h2];rfl
theorem Iq_ {r:Rep} {j:Nat} (hj:j<r.lines.length) (h:∀i,i<j→lnErrAt r.tot r.lines i=0) (h2:lnErrAt r.tot r.lines j≠0):En_ r=lnErrAt r.tot r.lines j:=by
 have e:=Pw_ hj h h2;unfold En_;rw[e,if_pos h2]
def Ei_ (r:Rep):Int:=
 if 18446744073709551615<r.over+loSum r.lines∨r.over+loSum r.lines≠r.tot then 13
 else if r.rej.length≠7∨r.rej[0]?≠some 0 then 3
 else 0
theorem Ux_ {r:Rep} (h:∀i,i<r.lines.length→lnErrAt r.tot r.lines i=0) (h2:¬(keysN r.lines).Nodup):En_ r=10:=by
 unfold En_;rw[O3_ h,if_neg (by simp),if_pos h2]
theorem ao_ {r:Rep} (h:∀i,i<r.lines.length→lnErrAt r.tot r.lines i=0) (h2 :(keysN r.lines).Nodup):En_ r=Ei_ r:=by
 unfold En_;rw[O3_ h,if_neg (by simp),if_neg (by simpa using h2)];rfl
theorem Rw_ {r:Rep} (h:18446744073709551615<r.over+loSum r.lines∨r.over+loSum r.lines≠r.tot):Ei_ r=13:=by unfold Ei_;rw[if_pos h]
theorem Zx_ {r:Rep} (h:¬(18446744073709551615<r.over+loSum r.lines∨r.over+loSum r.lines≠r.tot)) (h2:r.rej.length≠7∨r.rej[0]?≠some 0):Ei_ r=3:=by unfold Ei_;rw[if_neg h,if_pos h2]
theorem as_ {r:Rep} (h:¬(18446744073709551615<r.over+loSum r.lines∨r.over+loSum r.lines≠r.tot)) (h2:¬(r.rej.length≠7∨r.rej[0]?≠some 0)):Ei_ r=0:=by unfold Ei_;rw[if_neg h,if_neg h2]
theorem Q1_ (r:Rep) (w:World) (hR:RepRd w r) (hW:RepW r):Calls Tryz.prog 23 #[repV r.win r.tot r.vl r.over r.trk r.rest r.vr] w (RetInt (repErr r) w):=by
 have HR:=hh_ hR;have HW:=hh_ hW;obtain⟨la,lc,e1⟩:=hR.lines.shape;obtain⟨ra,rc,e2⟩:=hR.rej.shape;have hlm:=hR.lines.2.1;have hrm:=hR.rej.2.1;clear hR hW;rw[e1,e2];have E1:=hh_ e1;have E2:=hh_ e2;clear e1 e2;have hmm:=@run_makeMap Tryz.prog
 by_cases p1:r.win<0∨1099511627776<r.win∨9223372036854775808<r.tot∨r.tot<r.rest
 ·have HE:=hh_ (fs_ p1)
  have hg:=hh_ (Ad_ (Ab_ w none) (.cells #[.int .i64 r.win,.int .u64 r.tot,.slice la r.lines.length lc,.int .u64 r.over,.int .i64 r.trk,.int .u64 r.rest,.slice ra r.rej.length rc] 26));generalize repErr r=q at *
  rcases p1 with h|h|h|h
  all_goals
   go_enter func23,ntmps23
   go_wp2_with fail
   all_goals
    go_ret
    exact Ai_ HE.out hg.out
 by_cases p2:64<r.lines.length∨r.trk<r.lines.length∨768<r.trk
 ·have HE:=hh_ (d3_ p1 p2)
  have hg:=hh_ (Ad_ (Ab_ w none) (.cells #[.int .i64 r.win,.int .u64 r.tot,.slice la r.lines.length lc,.int .u64 r.over,.int .i64 r.trk,.int .u64 r.rest,.slice ra r.rej.length rc] 26));generalize repErr r=q at *
  have q1:0≤r.win:=by omega
  have q2:r.win≤1099511627776:=by omega
  have q3:r.tot≤9223372036854775808:=by omega
  have q4:r.rest≤r.tot:=by omega
  clear p1
  rcases p2 with h|h|h
  ·have h' :(64:Int)<(r.lines.length:Int):=by omega
   go_enter func23,ntmps23
   go_wp2_with fail
   all_goals
    go_ret
    exact Ai_ HE.out hg.out
  all_goals
   go_enter func23,ntmps23
   go_wp2_with fail
   all_goals
    go_ret
    exact Ai_ HE.out hg.out
 have HE:=hh_ (fa_ p1 p2)
 have q1:0≤r.win:=by omega
 have q2:r.win≤1099511627776:=by omega
 have q3:r.tot≤9223372036854775808:=by omega
 have q4:r.rest≤r.tot:=by omega
 have q5 :(r.lines.length:Int)≤64:=by omega
 have q6 :(r.lines.length:Int)≤r.trk:=by omega
 have q7:r.trk≤768:=by omega
 clear p1 p2
 go_enter func23,ntmps23
 go_upto_region 5 with fail
 have B1:=Blk.new w #[.int .i64 r.win,.int .u64 r.tot,.slice la r.lines.length lc,.int .u64 r.over,.int .i64 r.trk,.int .u64 r.rest,.slice ra r.rej.length rc] 26;have G1:=Ad_ (Ab_ w none) (.cells #[.int .i64 r.win,.int .u64 r.tot,.slice la r.lines.length lc,.int .u64 r.over,.int .i64 r.trk,.int .u64 r.rest,.slice ra r.rej.length rc] 26);generalize w.alloc _=w1 at *;generalize w.heap.size=b at *
 have hn64:r.lines.length≤64:=by omega
 clear q1 q2 q3 q4 q5 q6 q7
 go_upto_region 6 with fail
 have M2:=World.ownsMap_made w1 Tryz.prog 9 (plainElem (H:=Unit) Tryz.prog 4);have B2:=B1.same (ga_ w1 (.map #[] 0) none);have G2:=Ad_ G1 (.map #[] 0)
 have hmb:w1.heap.size<(w1.alloc (.map #[] 0)).heap.size:=by simp
 have hmw:w.heap.size≤w1.heap.size:=G1.size;generalize w1.alloc _=w2 at *;have hbm:=B1.lt;generalize w1.heap.size=mb at *;clear B1 G1 hmm;have b2:=B2.cell
 go_wp2_with fail
 clear b2
 go_loopw [52] (fun s52 wk=>∃k:Nat,k≤r.lines.length∧s52=.int .i64 k∧(∀i,i<k→lnErrAt r.tot r.lines i=0)∧wk.ownsMap Tryz.prog 9 (plainElem Tryz.prog 4) mb k (setS (keysN (r.lines.take k)))∧w2.grownBy wk (some mb)) (fun s52 _=>r.lines.length-(RowKit.intOf s52).toNat)
 case atStart=>exact⟨0,zl_ _,rfl,by intro i h;omega,M2,Ab_ _ _⟩
 case round=>
  clear M2;obtain⟨k,hk,rfl,hall,hM,hg⟩:=hrel;have Hall:=hh_ hall;clear hall;have hgw:=Af_ G2 hg hmw;have B3:=B2.kept hg (by simp;omega);have RR:=HR.out.same hgw
  by_cases hlt:k<r.lines.length
  ·obtain⟨g,off,cap,hv,hgl,hc⟩:=RR.lines.at_ Ar_ hlt
   rw[E1.out] at hv;cases hv;have c0:=hc 0 _ rfl;have c1:=hc 1 _ rfl;have c2:=hc 2 _ rfl;rw[Nat.add_zero] at c0;have hsz:=(HW.out.lines _ (mg_ hlt)).key
   have hcl:=fun w' (h:World.grownBy wr w' none)=>Ty_ r k w' (RR.same h) hlt
   rw[E1.out,E2.out] at hcl;have Hcl:=hh_ hcl;have HS:=hh_ (D9_ hlt);clear RR hc hcl
   have hq:=hh_ fun h=>Iq_ hlt Hall.out h
   generalize r.lines[k]=x at *;obtain⟨q,hqe⟩:∃q,lnErrAt r.tot r.lines k=q:=⟨_,rfl⟩;have Hqe:=hh_ hqe;rw[hqe] at Hcl hq;clear hqe
   go_upto_region 9 with fail
   have M3:=hM.alloc (.cells #[.string x.key,.int .u64 x.lo,.int .u64 x.hi] 46);have B4:=B3.same (ga_ wr (.cells #[.string x.key,.int .u64 x.lo,.int .u64 x.hi] 46) none);have A3:=Blk.new wr #[.string x.key,.int .u64 x.lo,.int .u64 x.hi] 46;have g3:wr.grownBy (wr.alloc (.cells #[.string x.key,.int .u64 x.lo,.int .u64 x.hi] 46)) none:=ga_ wr _ none;generalize wr.alloc _=w3 at *;generalize wr.heap.size=lb at *;clear c0 c1 c2 hM B3 B2;have b4:=B4.cell
   go_upto_region 10 with(go_at_call 61;refine(Hcl.out _ g3).mono ?_;rintro e w4 ⟨rfl,g4⟩)
   clear b4 B4;have M4:=M3.kept g4 (by simp);have A4:=(A3.same g4).cell;have K4:=Aa_ hg (Ak_ (Aa_ g3 g4) (some mb));have KW:=Aa_ hgw (Aa_ g3 g4)
   by_cases hq0:q=0
   ·subst hq0
    have hkey:=keyOf_string_mk underlying9 (s:=x.key) (by unfold maxLen;omega)
    have hkm:k<maxLen:=by unfold maxLen;omega
    go_wp2_with (at_mapUpdate;refine wpList_mapUpdate_own _ rfl _ _ _ 134 rfl 9 4 keyLaw underlying134 (plainElem (H:=Unit) Tryz.prog 4) mb k _ rfl M4 hkm _ _ _ rfl rfl hkey _ [] (plainElem_bool underlying4 true) ?_;intro w5 M5 g5)
    exact⟨⟨k+1,by omega,by go_num,fun i hi=>by
     rcases Nat.lt_or_ge i k with h|h
     ·exact Hall.out i h
     ·obtain rfl:i=k:=by omega
      exact Hqe.out,by rw[HS.out,Tw_];exact M5,Aa_ K4 g5⟩,by simp[RowKit.intOf];omega⟩
   ·have hqb :(q != 0)=true:=by simp[hq0]
    have HQ:=hh_ (HE.out.trans (hq.out hq0))
    go_wp2_with fail
    go_ret
    exact Ai_ HQ.out KW
  ·have hke:r.lines.take k=r.lines:=tk_ (by omega)
   rw[hke] at hM
   obtain rfl:k=r.lines.length:=by omega
   clear hke hk;obtain⟨hs1,hs2⟩:=Rp_ (keysN r.lines)
   have hkl :(keysN r.lines).length=r.lines.length:=by simp[keysN]
   rw[hkl] at hs1 hs2
   have H10:=hh_ fun h=>HE.out.trans (Ux_ Hall.out h)
   have H4:=hh_ fun h=>HE.out.trans (ao_ Hall.out h)
   have HM:=hh_ hM;generalize setS (keysN r.lines)=D at *;generalize hsz:Maps.size D=sz at *;have b3:=B3.cell
   by_cases hnd :(keysN r.lines).Nodup
   ·have hse:=hs2.2 hnd
    have HX:=hh_ (H4.out hnd);clear H10 H4 hnd hs1 hs2
    have hne :((sz:Int) !=(r.lines.length:Int))=false:=by rw[hse];simp
    have Hsz:=hh_ hsz;clear hsz hse
    have hcl:=fun w' (h:World.grownBy wr w' none)=>em_ _ r.lines w' (RdL.same RR.lines h) HW.out.lines
    rw[E1.out] at hcl
    have hT0:0≤loSum r.lines:=loSum_pos fun y hy=>(HW.out.lines y hy).lo.1
    obtain⟨ho0,ho1⟩:=HW.out.over;obtain⟨T,hT⟩:∃T,loSum r.lines=T:=⟨_,rfl⟩;rw[hT] at hcl hT0
    have H13:=hh_ fun h=>HX.out.trans (Rw_ (r:=r) (by rw[hT];exact h))
    have H3:=hh_ fun h h2=>HX.out.trans (Zx_ (r:=r) (by rw[hT];exact h) h2)
    have H0:=hh_ fun h h2=>HX.out.trans (as_ (r:=r) (by rw[hT];exact h) h2)
    clear hT HX
    by_cases hf:r.over+T≤18446744073709551615
    ·have f1:fitL T=true:=by unfold fitL;exact dt_ (by omega)
     have f2:satL T=T:=by unfold satL;rw[if_pos (by omega)]
     have f3:fitA T r.over=true:=by unfold fitA;exact dt_ (by omega)
     have f4:satA T r.over=T+r.over:=by unfold satA;rw[if_pos (by omega)]
     have hcl2:∀w',World.grownBy wr w' none→Calls Tryz.prog 62 #[.slice la r.lines.length lc] w' fun e w''=>e=.returned (.tuple #[.int .u64 T,.bool true])∧w'.grownBy w'' none:=fun w' h=>(hcl w' h).mono fun e w'' ⟨he,hg⟩=>⟨by rw[he,f1,f2],hg⟩
     have had:∀w',Calls Tryz.prog 28 #[.int .u64 T,.int .u64 r.over] w' fun e w''=>e=.returned (.tuple #[.int .u64 (T+r.over),.bool true])∧w'=w'':=fun w'=>(D2_ T r.over w' ⟨hT0,by omega⟩ ⟨ho0,ho1⟩).mono fun e w'' ⟨he,hg⟩=>⟨by rw[he,f3,f4],hg⟩
     have Hcl:=hh_ hcl2;have Had:=hh_ had;clear hcl hcl2 had f1 f2 f3 f4 HM
     by_cases ht:T+r.over=r.tot
     ·have htb :((T+r.over:Int) != r.tot)=false:=by rw[ht];simp
      have H3':=hh_ (H3.out (by omega));have H0':=hh_ (H0.out (by omega));clear H3 H0 H13 ht hf
      by_cases h7:r.rej.length=7
      ·obtain⟨g7,o7,c7,hv7,hg7,hc7⟩:=RdL.one Ca_ RR.rej (k:=0) (by omega)
       rw[E2.out] at hv7;cases hv7
       have h7b :((r.rej.length:Int) != 7)=false:=by rw[h7];rfl
       have h7c :(0:Int)<(r.rej.length:Int):=by omega
       rw[Nat.add_zero] at hc7;have H7:=hh_ h7;obtain⟨r0,hr0,hr1⟩:∃r0,r.rej[0]?=some r0∧wr.cell? ⟨g7,o7,none⟩=some (.int .u64 r0):=⟨r.rej[0],gq_ (by omega),hc7⟩;clear hc7;have hc7:=hr1;have Hr0:=hh_ hr0;clear hr0 hr1 h7
       have HC7:=hh_ fun w' (h:World.grownBy wr w' none)=>((An_ h).1 g7 o7 hg7 (by simp)).trans hc7
       have HB3:=hh_ B3;clear hc7 B3
       by_cases hz:r0=0
       ·have HZ:=hh_ (H0'.out (by rw[Hr0.out,hz];have:=H7.out;simp;omega))
        rw[hz] at HC7;clear H3' H0' Hr0 hz H7
        go_upto_region 17 with(first
         |(at_len;refine wpList_len_own _ rfl _ 134 rfl 9 4 underlying134 _ mb r.lines.length D rfl hM ?_;rw[Hsz.out])
         |(go_at_call 62;refine(Hcl.out _ (Ab_ _ _)).mono ?_;rintro e w6 ⟨rfl,g6⟩;have b6:=(HB3.out.same g6).cell;have c6:=HC7.out _ g6;have K6:=Aa_ hgw g6))
        go_wp2_with (go_at_call 28;refine(Had.out _).mono ?_;rintro e w7 ⟨rfl,rfl⟩)
        go_ret
        exact Ai_ HZ.out K6
       ·have hzb :((r0:Int) != 0)=true:=by simp[hz]
        have HZ:=hh_ (H3'.out (.inr (by rw[Hr0.out];simp[hz])));clear H3' H0' Hr0 hz H7
        go_upto_region 17 with(first
         |(at_len;refine wpList_len_own _ rfl _ 134 rfl 9 4 underlying134 _ mb r.lines.length D rfl hM ?_;rw[Hsz.out])
         |(go_at_call 62;refine(Hcl.out _ (Ab_ _ _)).mono ?_;rintro e w6 ⟨rfl,g6⟩;have b6:=(HB3.out.same g6).cell;have c6:=HC7.out _ g6;have K6:=Aa_ hgw g6))
        go_wp2_with (go_at_call 28;refine(Had.out _).mono ?_;rintro e w7 ⟨rfl,rfl⟩)
        go_ret
        exact Ai_ HZ.out K6
      ·have h7b :((r.rej.length:Int) != 7)=true:=by simp;omega
       have HZ:=hh_ (H3'.out (.inl h7));clear H3' H0' h7;have HB3:=hh_ B3
       go_upto_region 17 with(first
        |(at_len;refine wpList_len_own _ rfl _ 134 rfl 9 4 underlying134 _ mb r.lines.length D rfl hM ?_;rw[Hsz.out])
        |(go_at_call 62;refine(Hcl.out _ (Ab_ _ _)).mono ?_;rintro e w6 ⟨rfl,g6⟩;have b6:=(HB3.out.same g6).cell;have K6:=Aa_ hgw g6))
       go_wp2_with (go_at_call 28;refine(Had.out _).mono ?_;rintro e w7 ⟨rfl,rfl⟩)
       go_ret
       exact Ai_ HZ.out K6
     ·have htb :((T+r.over:Int) != r.tot)=true:=by simp[ht]
      have HZ:=hh_ (H13.out (.inr (by omega)));clear H3 H0 H13 ht hf;have HB3:=hh_ B3
      go_upto_region 17 with(first
       |(at_len;refine wpList_len_own _ rfl _ 134 rfl 9 4 underlying134 _ mb r.lines.length D rfl hM ?_;rw[Hsz.out])
       |(go_at_call 62;refine(Hcl.out _ (Ab_ _ _)).mono ?_;rintro e w6 ⟨rfl,g6⟩;have b6:=(HB3.out.same g6).cell;have K6:=Aa_ hgw g6))
      go_wp2_with (go_at_call 28;refine(Had.out _).mono ?_;rintro e w7 ⟨rfl,rfl⟩)
      go_ret
      exact Ai_ HZ.out K6
    ·have HZ:=hh_ (H13.out (.inl (by omega)))
     have hW1:=Ja_ hT0;have hfa:=Kf_ (n:=T) (x:=r.over) ho0
     have hfn:fitL (T+r.over)=false:=by unfold fitL;exact df_ (by omega)
     rw[hfn] at hfa;clear H3 H0 H13 HM hfn;have HB3:=hh_ B3
     have hcl2:∀w',World.grownBy wr w' none→Calls Tryz.prog 62 #[.slice la r.lines.length lc] w' fun e w''=>e=.returned (.tuple #[.int .u64 (satL T),.bool (fitL T)])∧w'.grownBy w'' none:=hcl
     have Hcl:=hh_ hcl2;clear hcl hcl2 hf;generalize fitL T=f1 at *;generalize satL T=s1 at *
     have Had:=hh_ fun w'=>D2_ s1 r.over w' hW1 ⟨ho0,ho1⟩
     generalize fitA s1 r.over=f2 at *;generalize satA s1 r.over=s2 at *
     have hfe:f1=false∨f2=false:=by cases f1 <;> simp_all
     clear hfa
     rcases hfe with rfl|rfl
     ·go_upto_region 17 with(first
       |(at_len;refine wpList_len_own _ rfl _ 134 rfl 9 4 underlying134 _ mb r.lines.length D rfl hM ?_;rw[Hsz.out])
       |(go_at_call 62;refine(Hcl.out _ (Ab_ _ _)).mono ?_;rintro e w6 ⟨rfl,g6⟩;have b6:=(HB3.out.same g6).cell;have K6:=Aa_ hgw g6))
      go_wp2_with (go_at_call 28;refine(Had.out _).mono ?_;rintro e w7 ⟨rfl,rfl⟩)
      go_ret
      exact Ai_ HZ.out K6
     ·cases f1
      all_goals
       go_upto_region 17 with(first
        |(at_len;refine wpList_len_own _ rfl _ 134 rfl 9 4 underlying134 _ mb r.lines.length D rfl hM ?_;rw[Hsz.out])
        |(go_at_call 62;refine(Hcl.out _ (Ab_ _ _)).mono ?_;rintro e w6 ⟨rfl,g6⟩;have b6:=(HB3.out.same g6).cell;have K6:=Aa_ hgw g6))
       go_wp2_with (go_at_call 28;refine(Had.out _).mono ?_;rintro e w7 ⟨rfl,rfl⟩)
       go_ret
       exact Ai_ HZ.out K6
   ·have hne :((sz:Int) !=(r.lines.length:Int))=true:=by
     have:sz≠r.lines.length:=fun e=>hnd (hs2.1 e)
     simp;omega
    have HX:=hh_ (H10.out hnd);clear H10 H4 hnd hs1 hs2;have Hsz:=hh_ hsz;clear hsz
    go_wp2_with (at_len;refine wpList_len_own _ rfl _ 134 rfl 9 4 underlying134 _ mb r.lines.length D rfl hM ?_;rw[Hsz.out])
    go_ret
    exact Ai_ HX.out hgw
end
section
open Go.RowKit
theorem E1_ :(Tryz.prog.info? 26).map (·.size)=some 7:=by kernel_rfl
abbrev repA (win tot:Int) (vl:Value) (over trk rest:Int) (vr:Value):Array Value:=#[.int .i64 win,.int .u64 tot,vl,.int .u64 over,.int .i64 trk,.int .u64 rest,vr]
abbrev rep0:Array Value:=repA 0 0 (.slice none 0 0) 0 0 0 (.slice none 0 0)
theorem Ji_ (w:World) :(Instr.alloc 26 true (.tuple #[])).run Tryz.prog w=.ok (.pointer (some ⟨w.heap.size,0,none⟩)) (w.alloc (.cells rep0 26)):=by kernel_rfl
theorem H3_ {ops:Array Oper} {rest:List Oper} {o:Oper} {a:Act} {w:World} {Q:Exit→Act→World→Prop} (hgd:o.guard=none) (ho:o.op=.alloc 26)
  (h:∀w',Blk w' w.heap.size rep0→w.grownBy w' none→w.heap.size<w'.heap.size→wpList Tryz.prog ops Q rest (a.put o.dst (.pointer (some ⟨w.heap.size,0,none⟩))) w'):wpList Tryz.prog ops Q (o::rest) a w:=
 wpList_plain hgd fun _ hK=>by
  unfold Oper.wp execOp;simp only[ho,Ji_,Sem.run_bind,Sem.run_pure,Result.andThen_ok];exact hK _ _ (h _ (Blk.new w _ _) (ga_ w _ _) (by simp))
theorem A5_ {ops:Array Oper} {rest:List Oper} {o:Oper} {a:Act} {w:World} {Q:Exit→Act→World→Prop} (hgd:o.guard=none) (x y:Operand) (ho:o.op=.store 26 x y)
  (b:Nat) (hx:a.eval x=.pointer (some ⟨b,0,none⟩)) {win tot over trk rst:Int} {vl vr:Value} (hy:a.eval y=repV win tot vl over trk rst vr) (h1:vl.oneCell'=true) (h2:vr.oneCell'=true) (c0:Array Value) (hs:c0.size=7) (hb:Blk w b c0)
  (h:∀w',Blk w' b (repA win tot vl over trk rst vr)→w.grownBy w' (some b)→wpList Tryz.prog ops Q rest (a.put o.dst undef) w'):wpList Tryz.prog ops Q (o::rest) a w:=by
 obtain⟨t,hbl⟩:=hb.blk;have hst:=run_storeCells_at Tryz.prog b 0 t (repA win tot vl over trk rst vr).toList 0 c0 w hbl (by simp[hs]) (by intro v hv;simp at hv;rcases hv with rfl|rfl|rfl|rfl|rfl|rfl|rfl <;> first|rfl|assumption)
 have hz :(sizeOf 26).run Tryz.prog w=.ok 7 w:=by
  have:=E1_
  cases hq:Tryz.prog.info? 26 with
  | none=>rw[hq] at this;simp at this
  | some i=>rw[hq] at this;simp[sizeOf,typeInfo,hq];simpa using this
 refine wpList_plain hgd fun _ hK=>?_
 unfold Oper.wp execOp;simp only[ho,hx,hy,Instr.storeAt,Instr.sureAddr,storeVar,Sem.run_bind,Sem.run_pure,Result.andThen_ok,hz];simp only[Value.cells,List.size_toArray,lc_,List.length_nil,Nat.reduceAdd,ne_eq,not_true_eq_false,if_false];rw[hst];refine hK _ _ (h _ ⟨t,?_⟩ ⟨rfl,rfl,rfl,by simp,fun k _ hk=>setRow_other w b k _ (fun e=>hk (by simp[e]))⟩);rw[setRow_heap w b c0 _ t _ hbl];obtain⟨l,rfl⟩:∃l:List Value,c0=l.toArray:=⟨c0.toList,by simp⟩
 match l,hs with
 | [_,_,_,_,_,_,_],_=>rfl
theorem Ax_ {ops:Array Oper} {rest:List Oper} {o:Oper} {a:Act} {w:World} {Q:Exit→Act→World→Prop} (hgd:o.guard=none) (x:Operand) (ho:o.op=.load 26 x)
  (b:Nat) (hx:a.eval x=.pointer (some ⟨b,0,none⟩)) {win tot over trk rst:Int} {vl vr:Value} (hb:Blk w b (repA win tot vl over trk rst vr)) (h:wpList Tryz.prog ops Q rest (a.put o.dst (repV win tot vl over trk rst vr)) w):wpList Tryz.prog ops Q (o::rest) a w:=by
 obtain⟨t,hbl⟩:=hb.blk;exact wpList_load_row hgd _ x ho b hx t _ _ _ hbl underlying26 rfl E1_ h
end
section
open Go.RowKit Go.Sort
def byF (b:UInt8):List Value:=[.int .u8 b.toNat]
theorem Bl_ (b:UInt8) :(byF b).length=1:=rfl
theorem K5_ (b:UInt8):byF b=[Value.int .u8 b.toNat]:=rfl
theorem Dy_:OneF byF:=by intro x u hu;simp[byF] at hu;subst hu;rfl
theorem Dj_:Elt 63 5 (.int .u8 0) 1 1:=⟨underlying63,by kernel_rfl,rfl,by decide⟩
def vb (n:Nat):List UInt8:=if n<128 then [UInt8.ofNat n] else UInt8.ofNat (n%128+128)::vb (n/128)
termination_by n
decreasing_by omega
theorem E4_ {n:Nat} (h:n<128):vb n=[UInt8.ofNat n]:=by rw[vb,if_pos h]
theorem ay_ {n:Nat} (h:¬n<128):vb n=UInt8.ofNat (n%128+128)::vb (n/128):=by rw[vb,if_neg h]
theorem Z3_:∀(k n:Nat),n<128 ^ (k+1)→(vb n).length≤k+1
 | 0,n,h=>by rw[E4_ (by simpa using h)];simp
 | k+1,n,h=>by
  by_cases hn:n<128
  ·rw[E4_ hn];simp
  ·rw[ay_ hn,lc_]
   have:=Z3_ k (n/128) (by rw[Nat.div_lt_iff_lt_mul (by omega)];rw[Nat.pow_succ] at h;exact h)
   omega
theorem C4_ {n:Nat} (h:n<18446744073709551616) :(vb n).length≤10:=Z3_ 9 n (Nat.lt_trans h (by decide))
theorem Nb_ (n:Nat):IntKind.u8.wrap (n:Int) =((n%256:Nat):Int):=by
 have:=IntKind.wrap_u8 (n:Int)
 rw[this];omega
theorem d6_ {m:Nat} (h:m<256) :((UInt8.ofNat m).toNat:Int) =(m:Int):=by
 rw[UInt8.toNat_ofNat']
 omega
structure TagR where
 (name value:ByteArray)
def tagF (t:TagR):List Value:=[.string t.name,.string t.value]
theorem Av_ (t:TagR) :(tagF t).length=2:=rfl
theorem Cr_:OneF tagF:=by intro x u hu;simp[tagF] at hu;rcases hu with rfl|rfl <;> rfl
theorem B5_:Elt 54 53 (.agg #[.string ⟨#[]⟩,.string ⟨#[]⟩]) 2 32:=⟨underlying54,by kernel_rfl,rfl,by decide⟩
abbrev tagV (t:TagR):Value:=.agg #[.string t.name,.string t.value]
def nmB (t:TagR):List UInt8:=t.name.data.toList
def vlB (t:TagR):List UInt8:=t.value.data.toList
theorem O1_ (t:TagR) :(nmB t).length=t.name.size:=Array.length_toList
theorem fr_ (t:TagR) :(vlB t).length=t.value.size:=Array.length_toList
def TagW (t:TagR):Prop:=t.name.size≤9223372036854775807∧t.value.size≤9223372036854775807
def letB (b:UInt8):Bool:=(decide (97≤b.toNat)&&decide (b.toNat≤122))||(decide (48≤b.toNat)&&decide (b.toNat≤57))||decide (b.toNat=95)||decide (b.toNat=46)||decide (b.toNat=45)
def tagE (t:TagR):Int:=if (nmB t).all letB=false then 3 else if t.name.size=0 then 3 else if 32<t.name.size∨64<t.value.size then 4 else 0
theorem Rm_ {t:TagR} (h:tagE t=0) :(nmB t).all letB=true∧0<t.name.size∧t.name.size≤32∧t.value.size≤64:=by
 unfold tagE at h
 by_cases h1 :(nmB t).all letB=false
 ·rw[if_pos h1] at h;cases h
 rw[if_neg h1] at h
 by_cases h2:t.name.size=0
 ·rw[if_pos h2] at h;cases h
 rw[if_neg h2] at h
 by_cases h3:32<t.name.size∨64<t.value.size
 ·rw[if_pos h3] at h;cases h
 exact⟨by simpa using h1,by omega,by omega,by omega⟩
def Dt_:List TagR→Int
 | []=>0
 | t::l=>if tagE t≠0 then tagE t else Dt_ l
theorem Ox_ {l:List TagR} {j:Nat} (hj:j<l.length) (h:∀i (hi:i<l.length),i<j→tagE l[i]=0) (h2:tagE l[j]≠0):Dt_ l=tagE l[j]:=by
 induction l generalizing j with
 | nil=>simp at hj
 | cons a l ih=>
  cases j with
  | zero=>simp only[List.getElem_cons_zero] at h2 ⊢;unfold Dt_;rw[if_pos h2]
  | succ j=>
   have h0:=h 0 (by simp) (by omega);simp only[List.getElem_cons_zero] at h0;simp only[List.getElem_cons_succ] at h2 ⊢;unfold Dt_;rw[if_neg (by omega)];exact ih (by simpa using hj) (fun i hi hij=>by have:=h (i+1) (by simpa using hi) (by omega);simpa using this) h2
theorem Pt_ {l:List TagR} (h:∀t∈l,tagE t=0):Dt_ l=0:=by
 induction l with
 | nil=>rfl
 | cons a l ih=>
  unfold Dt_;rw[if_neg (by rw[h a (by simp)];simp)]
  exact ih fun o ho=>h o (List.mem_cons_of_mem _ ho)
theorem Sc_ {l:List TagR} (h:Dt_ l=0):∀t∈l,tagE t=0:=by
 induction l with
 | nil=>simp
 | cons a l ih=>
  unfold Dt_ at h
  by_cases h0:tagE a≠0
  ·rw[if_pos h0] at h;exact absurd h h0
  ·rw[if_neg h0] at h
   intro o ho
   rcases List.mem_cons.1 ho with rfl|ho
   ·omega
   ·exact ih h o ho
def lessT (L:List TagR) (x:TagR):Nat:=(L.takeWhile (fun y=>decide (nmB y<nmB x))).length
theorem Gm_ (L:List TagR) (k:TagR):lessT L k≤L.length:=List.Sublist.length_le (List.takeWhile_sublist _)
theorem Gc_ {L:List TagR} {k:TagR}:∀{i:Nat} (_:i<lessT L k) (h2:i<L.length),nmB L[i]<nmB k:=by
 induction L with
 | nil=>intro i h h2;simp at h2
 | cons a L ih=>
  intro i h h2
  by_cases ha:nmB a<nmB k
  ·cases i with
   | zero=>exact ha
   | succ i=>
    have:i<lessT L k:=by simp[lessT,ha] at h;simpa [lessT] using h
    simpa using ih this (by simpa using h2)
  ·simp[lessT,ha] at h
theorem Go_ {L:List TagR} {k:TagR} (h:lessT L k<L.length):¬nmB L[lessT L k]<nmB k:=by
 induction L with
 | nil=>simp at h
 | cons a L ih=>
  by_cases ha:nmB a<nmB k
  ·have e:lessT (a::L) k=lessT L k+1:=by simp[lessT,ha]
   have:=ih (by rw[e] at h;simpa using h)
   simpa [e] using this
  ·have e:lessT (a::L) k=0:=by simp[lessT,ha]
   simpa [e] using ha
def insT (L:List TagR) (x:TagR):List TagR:=L.take (lessT L x)++[x]++L.drop (lessT L x)
def sortT (L:List TagR):List TagR:=L.foldl insT []
theorem Fx_ (L:List TagR) (x:TagR):sortT (L++[x])=insT (sortT L) x:=by simp[sortT]
theorem Yg_ (L:List TagR) (x:TagR) :(insT L x).length=L.length+1:=by
 have:=Gm_ L x
 unfold insT
 simp;omega
theorem Yk_ (L:List TagR) (x y:TagR):y∈insT L x↔y∈L∨y=x:=by
 have e:L=L.take (lessT L x)++L.drop (lessT L x):=(List.take_append_drop _ _).symm;unfold insT;rw[List.mem_append,List.mem_append,List.mem_singleton]
 conv=>rhs;rw[e,List.mem_append]
 constructor
 ·rintro((h|h)|h)
  ·exact .inl (.inl h)
  ·exact .inr h
  ·exact .inl (.inr h)
 ·rintro((h|h)|h)
  ·exact .inl (.inl h)
  ·exact .inr h
  ·exact .inl (.inr h)
theorem Ch_ (L:List TagR) (y:TagR):y∈sortT L↔y∈L:=by
 have:∀(L a:List TagR),y∈L.foldl insT a↔y∈a∨y∈L:=by
  intro L
  induction L with
  | nil=>simp
  | cons x L ih=>intro a;rw[List.foldl_cons,ih,Yk_,List.mem_cons,or_assoc]
 simpa [sortT] using this L []
theorem E9_ (L:List TagR) :(sortT L).length=L.length:=by
 have:∀(l a:List TagR),(l.foldl insT a).length=a.length+l.length:=by
  intro l
  induction l with
  | nil=>simp
  | cons x l ih=>intro a;simp only[List.foldl_cons,ih,Yg_,lc_];omega
 simpa [sortT] using this L []
def AscT (L:List TagR):Prop:=L.Pairwise (fun x y=>nmB x<nmB y)
theorem Lc_ {a b:List UInt8} (h:¬a<b) (hne:a≠b):b<a:=by
 rcases Decidable.em (b<a) with h1|h1
 ·exact h1
 ·exact absurd (List.le_antisymm (List.not_lt.1 h1) (List.not_lt.1 h)) hne
theorem Xt_ {L:List TagR} {x:TagR} (h:AscT L) (hx:∀y∈L,nmB y≠nmB x):AscT (insT L x):=by
 have hle:=Gm_ L x;unfold AscT insT
 have hd:∀y∈L.drop (lessT L x),nmB x<nmB y:=by
  intro y hy;obtain⟨i,hi,rfl⟩:=List.getElem_of_mem hy;rw[List.length_drop] at hi;rw[List.getElem_drop];have h0:=Go_ (L:=L) (k:=x) (by omega);have h1:nmB x<nmB L[lessT L x]:=Lc_ h0 (hx _ (mg_ _))
  rcases Nat.eq_zero_or_pos i with rfl|hp
  ·simpa using h1
  ·exact List.lt_trans h1 (List.pairwise_iff_getElem.1 h (lessT L x) (lessT L x+i) (by omega) (by omega) (by omega))
 have ht:∀y∈L.take (lessT L x),nmB y<nmB x:=by
  intro y hy;obtain⟨i,hi,rfl⟩:=List.getElem_of_mem hy;rw[lk_] at hi;rw[List.getElem_take];exact Gc_ (by omega) (by omega)
 rw[List.append_assoc,List.pairwise_append];refine⟨List.Pairwise.sublist (List.take_sublist _ _) h,?_,?_⟩
 ·rw[List.singleton_append,List.pairwise_cons]
  exact⟨hd,List.Pairwise.sublist (List.drop_sublist _ _) h⟩
 ·intro y hy z hz
  rw[List.singleton_append,List.mem_cons] at hz
  rcases hz with rfl|hz
  ·exact ht y hy
  ·exact List.lt_trans (ht y hy) (hd z hz)
def Dif (L:List TagR):Prop:=(L.map nmB).Nodup
theorem Dif.take {L:List TagR} (h:Dif L) (k:Nat):Dif (L.take k):=by
 unfold Dif at *;rw[List.map_take];exact List.Nodup.sublist (List.take_sublist _ _) h
theorem D5_ {L:List TagR} {x:TagR}:Dif (L++[x])↔Dif L∧∀y∈L,nmB y≠nmB x:=by
 unfold Dif;rw[List.map_append,List.map_singleton,List.nodup_append]
 constructor
 ·rintro⟨h1,_,h3⟩
  exact⟨h1,fun y hy e=>h3 _ (List.mem_map.2 ⟨y,hy,rfl⟩) _ (by simp) e⟩
 ·rintro⟨h1,h2⟩
  refine⟨h1,by simp,fun a ha b hb=>?_⟩;obtain⟨y,hy,rfl⟩:=List.mem_map.1 ha;rw[ms_ hb];exact h2 y hy
theorem Gs_:∀{L:List TagR},Dif L→AscT (sortT L):=by
 intro L h
 have key:∀k,k≤L.length→AscT (sortT (L.take k)):=by
  intro k
  induction k with
  | zero=>intro _;simp[sortT,AscT]
  | succ k ih=>
   intro hk;have h1:=ih (by omega);have h2:=h.take (k+1);rw[tg_ (by omega)] at h2 ⊢;rw[Fx_]
   exact Xt_ h1 fun y hy=>(D5_.1 h2).2 y ((Ch_ _ _).1 hy)
 have:=key L.length (le_ _)
 rwa [tk_ (le_ _)] at this
theorem Rr_ {S:List TagR} {x:TagR} (h:AscT S) :(∃y∈S,nmB y=nmB x)↔∃(hk:lessT S x<S.length),nmB S[lessT S x]=nmB x:=by
 constructor
 ·rintro⟨y,hy,e⟩
  obtain⟨i,hi,rfl⟩:=List.getElem_of_mem hy
  rcases Nat.lt_trichotomy i (lessT S x) with h1|h1|h1
  ·have:=Gc_ h1 hi
   rw[e] at this;exact absurd this (List.lt_irrefl _)
  ·subst h1;exact⟨hi,e⟩
  ·have h2:=List.pairwise_iff_getElem.1 h (lessT S x) i (by omega) hi h1
   have h3:=Go_ (L:=S) (k:=x) (by omega);rw[e] at h2;exact absurd h2 h3
 ·rintro⟨hk,e⟩
  exact⟨_,mg_ hk,e⟩
instance (L:List TagR):Decidable (Dif L):=by unfold Dif;infer_instance
def sortE (L:List TagR):Int:=if L.length=0∨8<L.length then 5 else if Dt_ L≠0 then Dt_ L else if ¬Dif L then 5 else 0
theorem E5_ {L:List TagR} (h:L.length=0∨8<L.length):sortE L=5:=if_pos h
theorem K9_ {L:List TagR} (h:¬(L.length=0∨8<L.length)) (h2:Dt_ L≠0):sortE L=Dt_ L:=by unfold sortE;rw[if_neg h,if_pos h2]
theorem Lq_ {L:List TagR} (h:¬(L.length=0∨8<L.length)) (h2:Dt_ L=0) (h3:¬Dif L):sortE L=5:=by unfold sortE;rw[if_neg h,if_neg (by omega),if_pos h3]
theorem Pc_ {L:List TagR} (h:¬(L.length=0∨8<L.length)) (h2:Dt_ L=0) (h3:Dif L):sortE L=0:=by unfold sortE;rw[if_neg h,if_neg (by omega),if_neg (by simpa using h3)]
theorem Ol_ {L:List TagR} (h:sortE L=0):0<L.length∧L.length≤8∧(∀t∈L,tagE t=0)∧Dif L:=by
 unfold sortE at h
 by_cases h1:L.length=0∨8<L.length
 ·rw[if_pos h1] at h;cases h
 rw[if_neg h1] at h
 by_cases h2:Dt_ L≠0
 ·rw[if_pos h2] at h;exact absurd h h2
 rw[if_neg h2] at h
 by_cases h3:¬Dif L
 ·rw[if_pos h3] at h;cases h
 exact⟨by omega,by omega,Sc_ (Decidable.byContradiction h2),Decidable.byContradiction h3⟩
def tkB (t:TagR):List UInt8:=UInt8.ofNat t.name.size::nmB t++(UInt8.ofNat t.value.size::vlB t)
def kyB (L:List TagR):List UInt8:=L.flatMap tkB
theorem P6_ (L:List TagR) (t:TagR):kyB (L++[t])=kyB L++tkB t:=by simp[kyB]
def keyE (L:List TagR):Int:=if sortE L≠0 then sortE L else if 255<(kyB (sortT L)).length then 4 else 0
def keyY (L:List TagR):ByteArray:=if keyE L=0 then ⟨(kyB (sortT L)).toArray⟩ else ⟨#[]⟩
theorem Jh_ (L:List TagR) :(keyY L).size≤255:=by
 unfold keyY
 split
 case isTrue h=>
  unfold keyE at h
  by_cases h1:sortE L≠0
  ·rw[if_pos h1] at h;exact absurd h h1
  rw[if_neg h1] at h
  by_cases h2:255<(kyB (sortT L)).length
  ·rw[if_pos h2] at h;cases h
  ·simp[ByteArray.size];omega
 case isFalse h=>simp[ByteArray.size]
def letN (n:Nat):Bool:=(decide (97≤n)&&decide (n≤122))||(decide (48≤n)&&decide (n≤57))||decide (n=95)||decide (n=46)||decide (n=45)
theorem Ob_ (n:Nat) (w:World):Calls Tryz.prog 108 #[.int .u8 n] w fun e w'=>e=.returned (.bool (letN n))∧w=w':=by
 rcases(show(97≤n∧n≤122)∨(48≤n∧n≤57)∨n=95∨n=46∨n=45∨n<45∨n=47∨(58≤n∧n≤94)∨n=96∨123≤n by omega) with h|h|h|h|h|h|h|h|h|h
 ·obtain⟨h1,h2⟩:=h
  have i1 :(97:Int)≤(n:Int):=by omega
  have i2 :(n:Int)≤122:=by omega
  have HB:=hh_ (show letN n=true by simp[letN];omega)
  go_enter func108,ntmps108
  go_wp2_with fail
  go_ret
  exact⟨by rw[HB.out];rfl,rfl⟩
 ·obtain⟨h1,h2⟩:=h
  have i1 :(48:Int)≤(n:Int):=by omega
  have i2 :(n:Int)≤57:=by omega
  have HB:=hh_ (show letN n=true by simp[letN];omega)
  go_enter func108,ntmps108
  go_wp2_with fail
  go_ret
  exact⟨by rw[HB.out];rfl,rfl⟩
 ·subst h
  have HB:=hh_ (show letN 95=true from rfl);rw[show(((95:Nat):Nat):Int) =(95:Int) from rfl]
  go_enter func108,ntmps108
  go_wp2_with fail
  go_ret
  exact⟨by rw[HB.out];rfl,rfl⟩
 ·subst h
  have HB:=hh_ (show letN 46=true from rfl);rw[show(((46:Nat):Nat):Int) =(46:Int) from rfl]
  go_enter func108,ntmps108
  go_wp2_with fail
  go_ret
  exact⟨by rw[HB.out];rfl,rfl⟩
 ·subst h
  have HB:=hh_ (show letN 45=true from rfl);rw[show(((45:Nat):Nat):Int) =(45:Int) from rfl]
  go_enter func108,ntmps108
  go_wp2_with fail
  go_ret
  exact⟨by rw[HB.out];rfl,rfl⟩
 ·have i1 :(n:Int)<45:=by omega
  have HB:=hh_ (show letN n=false by simp[letN];omega);have f1 :((n:Int)==95)=false:=bf_ (by omega);have f2 :((n:Int)==46)=false:=bf_ (by omega);have f3 :((n:Int)==45)=false:=bf_ (by omega)
  go_enter func108,ntmps108
  go_wp2_with fail
  go_ret
  exact⟨by rw[HB.out];rfl,rfl⟩
 ·subst h
  have HB:=hh_ (show letN 47=false from rfl);rw[show(((47:Nat):Nat):Int) =(47:Int) from rfl]
  go_enter func108,ntmps108
  go_wp2_with fail
  go_ret
  exact⟨by rw[HB.out];rfl,rfl⟩
 ·obtain⟨h1,h2⟩:=h
  have i1 :(58:Int)≤(n:Int):=by omega
  have i2 :(n:Int)≤94:=by omega
  have i3:decide ((n:Int)≤57)=false:=df_ (by omega);have HB:=hh_ (show letN n=false by simp[letN];omega);have f1 :((n:Int)==95)=false:=bf_ (by omega);have f2 :((n:Int)==46)=false:=bf_ (by omega);have f3 :((n:Int)==45)=false:=bf_ (by omega)
  go_enter func108,ntmps108
  go_wp2_with fail
  go_ret
  exact⟨by rw[HB.out];rfl,rfl⟩
 ·subst h
  have HB:=hh_ (show letN 96=false from rfl);rw[show(((96:Nat):Nat):Int) =(96:Int) from rfl]
  go_enter func108,ntmps108
  go_wp2_with fail
  go_ret
  exact⟨by rw[HB.out];rfl,rfl⟩
 ·have i1 :(123:Int)≤(n:Int):=by omega
  have i3:decide ((n:Int)≤57)=false:=df_ (by omega);have i4:decide ((n:Int)≤122)=false:=df_ (by omega);have HB:=hh_ (show letN n=false by simp[letN];omega);have f1 :((n:Int)==95)=false:=bf_ (by omega);have f2 :((n:Int)==46)=false:=bf_ (by omega);have f3 :((n:Int)==45)=false:=bf_ (by omega)
  go_enter func108,ntmps108
  go_wp2_with fail
  go_ret
  exact⟨by rw[HB.out];rfl,rfl⟩
theorem V5_ (b:UInt8) (w:World):Calls Tryz.prog 108 #[.int .u8 b.toNat] w fun e w'=>e=.returned (.bool (letB b))∧w=w':=Ob_ b.toNat w
theorem P8_ {q:List UInt8} (h:∀i (hi:i<q.length),letB q[i]=true):q.all letB=true:=by
 rw[List.all_eq_true];intro x hx;obtain⟨i,hi,rfl⟩:=List.getElem_of_mem hx;exact h i hi
theorem Gv_ {q:List UInt8} {i:Nat} (hi:i<q.length) (h:letB q[i]=false):q.all letB=false:=by
 rw[List.all_eq_false];exact⟨_,mg_ hi,by simp[h]⟩
theorem fq_ (t:TagR) (w:World) (hW:TagW t):Calls Tryz.prog 73 #[tagV t] w (RetInt (tagE t) w):=by
 obtain⟨hn,hv⟩:=hW;have HN:=hh_ (O1_ t);have HX:=hh_ (show tagE t=if (nmB t).all letB=false then 3 else if t.name.size=0 then 3 else if 32<t.name.size∨64<t.value.size then 4 else 0 from rfl);have HQ:=hh_ (show nmB t=t.name.data.toList from rfl);generalize tagE t=E at *;generalize nmB t=q at *;obtain⟨y,v⟩:=t;dsimp only at *;have B1:=Blk.new w #[.string y,.string v] 53;have G1:=Ad_ (Ab_ w none) (.cells #[.string y,.string v] 53)
 go_enter func73,ntmps73
 go_upto_region 1 with fail
 generalize w.alloc _=w1 at *;generalize w.heap.size=b at *;have b1:=B1.cell
 go_wp2_with fail
 go_loopw [3] (fun s3 wk=>∃i:Nat,i≤q.length∧s3=.int .i64 i∧(∀j (hj:j<q.length),j<i→letB q[j]=true)∧w1=wk) (fun s3 _=>q.length-(RowKit.intOf s3).toNat)
 case atStart=>exact⟨0,zl_ _,rfl,by intro j hj h;omega,rfl⟩
 case round=>
  obtain⟨i,hi,rfl,hall,rfl⟩:=hrel;have Hall:=hh_ hall;have hql:=HN.out;clear hall
  by_cases hlt:i<q.length
  ·have hi1 :(i:Int)<(y.size:Int):=by omega
   have hi2:i<y.size:=by omega
   have hx:q[i]=y[i]'hi2:=by
    have:q[i]?=some (y[i]'hi2):=by
     rw[HQ.out]
     show y.data.toList[i]?=_
     rw[Array.getElem?_toList,Array.getElem?_eq_getElem (by exact hi2)];rfl
    rw[gq_ hlt] at this;exact Option.some.inj this
   have HF:=hh_ (show letB q[i]=false→E=3 from fun h=>by rw[HX.out,if_pos (Gv_ hlt h)])
   have HS:=hh_ (show letB q[i]=true→∀j (hj:j<q.length),j<i+1→letB q[j]=true from fun h j hj hji=>by
    rcases Nat.lt_or_ge j i with h1|h1
    ·exact Hall.out j hj h1
    ·obtain rfl:j=i:=by omega
     exact h)
   rw[hx] at HF HS
   have C:=hh_ fun w'=>V5_ (y[i]'hi2) w'
   have hi0 :(0:Int)≤(i:Int):=by omega
   clear hx Hall;cases hb:letB (y[i]'hi2)
   ·rw[hb] at C
    have HF2:=hh_ (HF.out hb);clear hb
    go_wp2_with (go_at_call 108;refine(C.out _).mono ?_;rintro e w' ⟨rfl,rfl⟩)
    go_ret
    exact Ai_ HF2.out G1
   ·rw[hb] at C
    have HS2:=hh_ (HS.out hb);clear hb
    go_wp2_with (go_at_call 108;refine(C.out _).mono ?_;rintro e w' ⟨rfl,rfl⟩)
    exact⟨⟨i+1,by omega,by go_num,HS2.out,by trivial⟩,by simp[RowKit.intOf];omega⟩
  ·have hi1:¬(i:Int)<(y.size:Int):=by omega
   have HA:=hh_ (show ¬q.all letB=false by rw[P8_ fun j hj=>Hall.out j hj (by omega)];simp)
   by_cases h0:y.size=0
   ·have HF:=hh_ (show E=3 by rw[HX.out,if_neg HA.out,if_pos h0])
    obtain rfl:y =⟨#[]⟩:=by
     obtain⟨⟨l⟩⟩:=y
     have:l=[]:=by simpa [ByteArray.size] using h0
     rw[this]
    clear h0
    go_wp2_with fail
    go_ret
    exact Ai_ HF.out G1
   ·have hne:y.toList.isEmpty=false:=by
     rw[ByteArray.toList_eq];obtain⟨⟨l⟩⟩:=y
     cases l with
     | nil=>exact absurd rfl h0
     | cons a l=>rfl
    have HF:=hh_ (show E=if 32<y.size∨64<v.size then 4 else 0 by rw[HX.out,if_neg HA.out,if_neg h0]);clear h0 HX
    by_cases h1:32<y.size
    ·have j1 :(32:Int)<(y.size:Int):=by omega
     have HF2:=hh_ (HF.out.trans (if_pos (.inl h1)));clear HF h1
     go_wp2_with fail
     go_ret
     exact Ai_ HF2.out G1
    ·have j1 :(y.size:Int)≤32:=by omega
     by_cases h2:64<v.size
     ·have j2 :(64:Int)<(v.size:Int):=by omega
      have HF2:=hh_ (HF.out.trans (if_pos (.inr h2)));clear HF h1 h2
      go_wp2_with fail
      go_ret
      exact Ai_ HF2.out G1
     ·have j2 :(v.size:Int)≤64:=by omega
      have HF2:=hh_ (HF.out.trans (if_neg (fun h=>h.elim h1 h2)));clear HF h1 h2
      go_wp2_with fail
      go_ret
      exact Ai_ HF2.out G1
theorem Tx_ (n:Nat) (w:World):Calls Tryz.prog 170 #[.int .u8 n] w fun e w'=>e=.returned (.bool (letN n))∧w=w':=by
 rcases(show(97≤n∧n≤122)∨(48≤n∧n≤57)∨n=95∨n=46∨n=45∨n<45∨n=47∨(58≤n∧n≤94)∨n=96∨123≤n by omega) with h|h|h|h|h|h|h|h|h|h
 ·obtain⟨h1,h2⟩:=h
  have i1 :(97:Int)≤(n:Int):=by omega
  have i2 :(n:Int)≤122:=by omega
  have HB:=hh_ (show letN n=true by simp[letN];omega)
  go_enter func170,ntmps170
  go_wp2_with fail
  go_ret
  exact⟨by rw[HB.out];rfl,rfl⟩
 ·obtain⟨h1,h2⟩:=h
  have i1 :(48:Int)≤(n:Int):=by omega
  have i2 :(n:Int)≤57:=by omega
  have HB:=hh_ (show letN n=true by simp[letN];omega)
  go_enter func170,ntmps170
  go_wp2_with fail
  go_ret
  exact⟨by rw[HB.out];rfl,rfl⟩
 ·subst h
  have HB:=hh_ (show letN 95=true from rfl);rw[show(((95:Nat):Nat):Int) =(95:Int) from rfl]
  go_enter func170,ntmps170
  go_wp2_with fail
  go_ret
  exact⟨by rw[HB.out];rfl,rfl⟩
 ·subst h
  have HB:=hh_ (show letN 46=true from rfl);rw[show(((46:Nat):Nat):Int) =(46:Int) from rfl]
  go_enter func170,ntmps170
  go_wp2_with fail
  go_ret
  exact⟨by rw[HB.out];rfl,rfl⟩
 ·subst h
  have HB:=hh_ (show letN 45=true from rfl);rw[show(((45:Nat):Nat):Int) =(45:Int) from rfl]
  go_enter func170,ntmps170
  go_wp2_with fail
  go_ret
  exact⟨by rw[HB.out];rfl,rfl⟩
 ·have i1 :(n:Int)<45:=by omega
  have HB:=hh_ (show letN n=false by simp[letN];omega);have f1 :((n:Int)==95)=false:=bf_ (by omega);have f2 :((n:Int)==46)=false:=bf_ (by omega);have f3 :((n:Int)==45)=false:=bf_ (by omega)
  go_enter func170,ntmps170
  go_wp2_with fail
  go_ret
  exact⟨by rw[HB.out];rfl,rfl⟩
 ·subst h
  have HB:=hh_ (show letN 47=false from rfl);rw[show(((47:Nat):Nat):Int) =(47:Int) from rfl]
  go_enter func170,ntmps170
  go_wp2_with fail
  go_ret
  exact⟨by rw[HB.out];rfl,rfl⟩
 ·obtain⟨h1,h2⟩:=h
  have i1 :(58:Int)≤(n:Int):=by omega
  have i2 :(n:Int)≤94:=by omega
  have i3:decide ((n:Int)≤57)=false:=df_ (by omega);have HB:=hh_ (show letN n=false by simp[letN];omega);have f1 :((n:Int)==95)=false:=bf_ (by omega);have f2 :((n:Int)==46)=false:=bf_ (by omega);have f3 :((n:Int)==45)=false:=bf_ (by omega)
  go_enter func170,ntmps170
  go_wp2_with fail
  go_ret
  exact⟨by rw[HB.out];rfl,rfl⟩
 ·subst h
  have HB:=hh_ (show letN 96=false from rfl);rw[show(((96:Nat):Nat):Int) =(96:Int) from rfl]
  go_enter func170,ntmps170
  go_wp2_with fail
  go_ret
  exact⟨by rw[HB.out];rfl,rfl⟩
 ·have i1 :(123:Int)≤(n:Int):=by omega
  have i3:decide ((n:Int)≤57)=false:=df_ (by omega);have i4:decide ((n:Int)≤122)=false:=df_ (by omega);have HB:=hh_ (show letN n=false by simp[letN];omega);have f1 :((n:Int)==95)=false:=bf_ (by omega);have f2 :((n:Int)==46)=false:=bf_ (by omega);have f3 :((n:Int)==45)=false:=bf_ (by omega)
  go_enter func170,ntmps170
  go_wp2_with fail
  go_ret
  exact⟨by rw[HB.out];rfl,rfl⟩
theorem W2_ (b:UInt8) (w:World):Calls Tryz.prog 170 #[.int .u8 b.toNat] w fun e w'=>e=.returned (.bool (letB b))∧w=w':=Tx_ b.toNat w
theorem Zj_ (t:TagR) (w:World) (hW:TagW t):Calls Tryz.prog 131 #[tagV t] w (RetInt (tagE t) w):=by
 obtain⟨hn,hv⟩:=hW;have HN:=hh_ (O1_ t);have HX:=hh_ (show tagE t=if (nmB t).all letB=false then 3 else if t.name.size=0 then 3 else if 32<t.name.size∨64<t.value.size then 4 else 0 from rfl);have HQ:=hh_ (show nmB t=t.name.data.toList from rfl);generalize tagE t=E at *;generalize nmB t=q at *;obtain⟨y,v⟩:=t;dsimp only at *;have B1:=Blk.new w #[.string y,.string v] 53;have G1:=Ad_ (Ab_ w none) (.cells #[.string y,.string v] 53)
 go_enter func131,ntmps131
 go_upto_region 1 with fail
 generalize w.alloc _=w1 at *;generalize w.heap.size=b at *;have b1:=B1.cell
 by_cases h0:y.size=0
 ·have HF:=hh_ (show E=3 by
   rw[HX.out,if_pos h0]
   split <;> rfl)
  obtain rfl:y =⟨#[]⟩:=by
   obtain⟨⟨l⟩⟩:=y
   have:l=[]:=by simpa [ByteArray.size] using h0
   rw[this]
  clear h0
  go_wp2_with fail
  go_ret
  exact Ai_ HF.out G1
 have hne:y.toList.isEmpty=false:=by
  rw[ByteArray.toList_eq];obtain⟨⟨l⟩⟩:=y
  cases l with
  | nil=>exact absurd rfl h0
  | cons a l=>rfl
 go_upto_region 4 with fail
 go_loopw [10] (fun s10 wk=>∃i:Nat,i≤q.length∧s10=.int .i64 i∧(∀j (hj:j<q.length),j<i→letB q[j]=true)∧w1=wk) (fun s10 _=>q.length-(RowKit.intOf s10).toNat)
 case atStart=>exact⟨0,zl_ _,rfl,by intro j hj h;omega,rfl⟩
 case round=>
  obtain⟨i,hi,rfl,hall,rfl⟩:=hrel;have Hall:=hh_ hall;have hql:=HN.out;clear hall
  by_cases hlt:i<q.length
  ·have hi1 :(i:Int)<(y.size:Int):=by omega
   have hi2:i<y.size:=by omega
   have hx:q[i]=y[i]'hi2:=by
    have:q[i]?=some (y[i]'hi2):=by
     rw[HQ.out]
     show y.data.toList[i]?=_
     rw[Array.getElem?_toList,Array.getElem?_eq_getElem (by exact hi2)];rfl
    rw[gq_ hlt] at this;exact Option.some.inj this
   have HF:=hh_ (show letB q[i]=false→E=3 from fun h=>by rw[HX.out,if_pos (Gv_ hlt h)])
   have HS:=hh_ (show letB q[i]=true→∀j (hj:j<q.length),j<i+1→letB q[j]=true from fun h j hj hji=>by
    rcases Nat.lt_or_ge j i with h1|h1
    ·exact Hall.out j hj h1
    ·obtain rfl:j=i:=by omega
     exact h)
   rw[hx] at HF HS
   have C:=hh_ fun w'=>W2_ (y[i]'hi2) w'
   have hi0 :(0:Int)≤(i:Int):=by omega
   clear hx Hall;cases hb:letB (y[i]'hi2)
   ·rw[hb] at C
    have HF2:=hh_ (HF.out hb);clear hb
    go_wp2_with (go_at_call 170;refine(C.out _).mono ?_;rintro e w' ⟨rfl,rfl⟩)
    go_ret
    exact Ai_ HF2.out G1
   ·rw[hb] at C
    have HS2:=hh_ (HS.out hb);clear hb
    go_wp2_with (go_at_call 170;refine(C.out _).mono ?_;rintro e w' ⟨rfl,rfl⟩)
    exact⟨⟨i+1,by omega,by go_num,HS2.out,by trivial⟩,by simp[RowKit.intOf];omega⟩
  ·have hi1:¬(i:Int)<(y.size:Int):=by omega
   have HA:=hh_ (show ¬q.all letB=false by rw[P8_ fun j hj=>Hall.out j hj (by omega)];simp);have HF:=hh_ (show E=if 32<y.size∨64<v.size then 4 else 0 by rw[HX.out,if_neg HA.out,if_neg h0]);clear h0 HX
   by_cases h1:32<y.size
   ·have j1 :(32:Int)<(y.size:Int):=by omega
    have HF2:=hh_ (HF.out.trans (if_pos (.inl h1)));clear HF h1
    go_wp2_with fail
    go_ret
    exact Ai_ HF2.out G1
   ·have j1 :(y.size:Int)≤32:=by omega
    by_cases h2:64<v.size
    ·have j2 :(64:Int)<(v.size:Int):=by omega
     have HF2:=hh_ (HF.out.trans (if_pos (.inr h2)));clear HF h1 h2
     go_wp2_with fail
     go_ret
     exact Ai_ HF2.out G1
    ·have j2 :(v.size:Int)≤64:=by omega
     have HF2:=hh_ (HF.out.trans (if_neg (fun h=>h.elim h1 h2)));clear HF h1 h2
     go_wp2_with fail
     go_ret
     exact Ai_ HF2.out G1
end
section
open Go.RowKit
def cutF:List UInt8→Option (List UInt8×List UInt8)
 | []=>none
 | b::r=>if r.length<b.toNat then none else some (r.take b.toNat,r.drop b.toNat)
theorem Va_ {l a r:List UInt8} (h:cutF l=some (a,r)):r.length<l.length:=by
 cases l with
 | nil=>cases h
 | cons b q=>
  simp only[cutF] at h
  by_cases hb:q.length<b.toNat
  ·rw[if_pos hb] at h;cases h
  ·rw[if_neg hb] at h
   obtain⟨rfl,rfl⟩:=by simpa using h
   simp;omega
theorem X5_ {l a r:List UInt8} (h:cutF l=some (a,r)):∃b:UInt8,l=b::(a++r)∧a.length=b.toNat:=by
 cases l with
 | nil=>cases h
 | cons b q=>
  simp only[cutF] at h
  by_cases hb:q.length<b.toNat
  ·rw[if_pos hb] at h;cases h
  ·rw[if_neg hb] at h
   obtain⟨rfl,rfl⟩:=by simpa using h
   exact⟨b,by rw[List.take_append_drop],by simp;omega⟩
def cut2 (l:List UInt8):Option (TagR×List UInt8):=match cutF l with
 | none=>none
 | some (a,r)=>match cutF r with
  | none=>none
  | some (b,s)=>some (⟨⟨a.toArray⟩,⟨b.toArray⟩⟩,s)
theorem cw_ {l:List UInt8} {t:TagR} {s:List UInt8} (h:cut2 l=some (t,s)):s.length<l.length:=by
 unfold cut2 at h
 split at h
 ·cases h
 ·rename_i a r h1
  split at h
  ·cases h
  ·rename_i b s' h2
   cases h;exact Nat.lt_trans (Va_ h2) (Va_ h1)
def splitP (l:List UInt8):Option (List TagR):=
 if l=[] then some [] else match _h:cut2 l with
  | none=>none
  | some (t,s)=>(splitP s).map (t::·)
termination_by l.length
decreasing_by exact cw_ _h
theorem Iz_:splitP []=some []:=by rw[splitP];rfl
theorem T1_ {l:List UInt8} (h:l≠[]) (h2:cut2 l=none):splitP l=none:=by
 rw[splitP,if_neg h]
 split
 ·rfl
 ·rename_i h3;rw[h2] at h3;cases h3
theorem Iw_ {l s:List UInt8} {t:TagR} (h:l≠[]) (h2:cut2 l=some (t,s)):splitP l =(splitP s).map (t::·):=by
 rw[splitP,if_neg h]
 split
 ·rename_i h3;rw[h2] at h3;cases h3
 ·rename_i t' s' h3
  rw[h2] at h3;cases h3;rfl
def Dk_ (L:List TagR) (r:List UInt8):Option (List TagR):=(splitP r).map (L++·)
theorem I4_ (L:List TagR):Dk_ L []=some L:=by simp[Dk_,Iz_]
theorem Qa_ (l:List UInt8):Dk_ [] l=splitP l:=by simp[Dk_]
theorem Fe_ {L:List TagR} {l:List UInt8} (h:l≠[]) (h2:cut2 l=none):Dk_ L l=none:=by unfold Dk_;rw[T1_ h h2];rfl
theorem Ii_ {L:List TagR} {l s:List UInt8} {t:TagR} (h:l≠[]) (h2:cut2 l=some (t,s)):Dk_ L l=Dk_ (L++[t]) s:=by
 unfold Dk_;rw[Iw_ h h2];cases splitP s <;> simp
def splitE (k:ByteArray):Int:=if 255<k.size then 4 else match splitP k.data.toList with
 | none=>3
 | some L=>if keyE L≠0∨keyY L≠k then 3 else 0
def splitL (k:ByteArray):List TagR:=if splitE k=0 then (splitP k.data.toList).getD [] else []
theorem Gx_ {k:ByteArray} (h:255<k.size):splitE k=4:=if_pos h
theorem Ff_ {k:ByteArray} (h:¬255<k.size) (h2:splitP k.data.toList=none):splitE k=3:=by unfold splitE;rw[if_neg h,h2]
theorem D8_ {k:ByteArray} {L:List TagR} (h:¬255<k.size) (h2:splitP k.data.toList=some L) (h3:keyE L≠0∨keyY L≠k):splitE k=3:=by unfold splitE;rw[if_neg h,h2];simp only;rw[if_pos h3]
theorem Hp_ {k:ByteArray} {L:List TagR} (h:¬255<k.size) (h2:splitP k.data.toList=some L) (h3:keyE L=0) (h4:keyY L=k):splitE k=0∧splitL k=L:=by
 have e:splitE k=0:=by unfold splitE;rw[if_neg h,h2];simp only;rw[if_neg (by simp[h3,h4])]
 exact⟨e,by unfold splitL;rw[if_pos e,h2];rfl⟩
end
section
open Go.RowKit Go.Sort
def CutP (l:List UInt8) (w:World) (e:Ending) (w':World):Prop:=
 w.grownBy w' none∧match cutF l with
  | none=>e=.returned (.tuple #[.string ⟨#[]⟩,.string ⟨#[]⟩,.bool false])
  | some (a,r)=>e=.returned (.tuple #[.string ⟨a.toArray⟩,.string ⟨r.toArray⟩,.bool true])
theorem Jw_ {l:List UInt8} {w:World} (h:cutF l=none):CutP l w (.returned (.tuple #[.string ⟨#[]⟩,.string ⟨#[]⟩,.bool false])) w:=⟨Ab_ _ _,by rw[h]⟩
theorem Pd_ {l a r:List UInt8} {w w':World} (h:cutF l=some (a,r)) (hg:w.grownBy w' none):CutP l w (.returned (.tuple #[.string ⟨a.toArray⟩,.string ⟨r.toArray⟩,.bool true])) w':=⟨hg,by rw[h]⟩
theorem O6_ (b:UInt8) (q:List UInt8) (n:Nat) :(⟨⟨b::q⟩⟩:ByteArray).extract 1 (1+n) =⟨(q.take n).toArray⟩:=by
 apply ByteArray.ext
 rw[ByteArray.data_extract]
 apply Array.ext'
 simp
theorem O8_ (b:UInt8) (q:List UInt8) (n:Nat) :(⟨⟨b::q⟩⟩:ByteArray).extract (1+n) (q.length+1) =⟨(q.drop n).toArray⟩:=by
 apply ByteArray.ext
 rw[ByteArray.data_extract]
 apply Array.ext'
 simp[Nat.add_comm 1 n]
 exact tk_ (by simp)
theorem fm_ (k:ByteArray) (w:World) (hk:k.size≤1000000):Calls Tryz.prog 64 #[.string k] w (CutP k.data.toList w):=by
 obtain⟨⟨l⟩⟩:=k
 cases l with
 | nil=>
  go_enter func64,ntmps64
  go_wp2_with fail
  go_ret3
  exact Jw_ rfl
 | cons b q=>
  have hs :(⟨(b::q).toArray⟩:ByteArray).size=q.length+1:=by simp[ByteArray.size]
  have hne :(⟨(b::q).toArray⟩:ByteArray).toList.isEmpty=false:=by rw[ByteArray.toList_eq];rfl
  have hq:q.length≤1000000:=by have :(⟨(b::q).toArray⟩:ByteArray).size≤1000000:=hk;omega
  have hw1:wrap64 (q.length:Int) =(q.length:Int):=by unfold wrap64;omega
  have hbb:=b.toNat_lt
  have hw2:wrap64 (b.toNat:Int) =(b.toNat:Int):=by unfold wrap64;omega
  have hw3:wrap64 (1+(b.toNat:Int))=1+(b.toNat:Int):=by unfold wrap64;omega
  have hx:∀h,(⟨⟨b::q⟩⟩:ByteArray)[0]'h=b:=fun _=>rfl
  by_cases hb:q.length<b.toNat
  ·have hb2 :(q.length:Int)<(b.toNat:Int):=by omega
   have hb3 :((⟨(b::q).toArray⟩:ByteArray).size:Int)-1<(b.toNat:Int):=by rw[hs];omega
   go_enter func64,ntmps64
   go_wp2_with fail
   go_ret3
   exact Jw_ (by simp only[cutF];rw[if_pos hb])
  ·have hb2:¬(q.length:Int)<(b.toNat:Int):=by omega
   have hb3:¬((⟨(b::q).toArray⟩:ByteArray).size:Int)-1<(b.toNat:Int):=by rw[hs];omega
   go_enter func64,ntmps64
   go_upto_region 4 with fail
   have i1 :(0:Int)≤1+(b.toNat:Int):=by omega
   have i2 :(1:Int)≤1+(b.toNat:Int):=by omega
   have i3:1+(b.toNat:Int)≤(q.length:Int)+1:=by omega
   have i4 :(1:Int)≤(q.length:Int)+1:=by omega
   go_quiet (fail)
   go_wp2_with fail
   go_ret3
   rw[O6_,O8_];exact Pd_ (by simp only[cutF];rw[if_neg hb]) (Ae_ (Ab_ w none) nq)
theorem Ye_ (v:Value) (l:List TagR) (w:World) (h:RdL tagF 2 w v l) (hl:l.length≤1000000):Calls Tryz.prog 132 #[v] w (RetOwn tagF 2 53 l w):=by
 obtain⟨a,c,rfl⟩:=h.shape;have H:=hh_ h
 have hb1:l.length*32≤140737488355328:=by omega
 have hb2:l.length≤9223372036854775807:=by omega
 cases a with
 | none=>
  have hn:l=[]:=by
   rcases h.2.2 with⟨h0,_⟩ |⟨g,off,cap,hv,_⟩
   ·exact List.length_eq_zero_iff.1 h0
   ·cases hv
  subst hn
  have hq:=fun w=>Lib.run_eql_slice_nil (P:=Tryz.prog) w _ _ none 0 c 0 0 (B5_).ht
  simp only[List.length_nil]
  go_enter func132,ntmps132
  go_wp2
  go_ret
  exact⟨_,rfl,Own.nil _ _ _ _ _,Ab_ _ _⟩
 | some ad=>
  clear h
  have hq:=fun w=>Lib.run_eql_slice_nil (P:=Tryz.prog) w _ _ (some ad) l.length c 0 0 (B5_).ht
  go_enter func132,ntmps132
  go_upto_region 3 with fail
  have N:=Aw_ (e:=53) tagF 2 (le_ w.heap.size);have R:=H.out.same (ga_ w (.cells #[] 53) none)
  go_wp2_with (at_builtin;refine A2_ B5_ Cr_ N R rfl hb1 hb2 (by simp) (by rfl) _ _ (by rfl) (by rfl) (by rfl) ?_;intro v4 w4 o4 g4 l4)
  go_ret
  exact⟨_,rfl,o4,Aa_ (ga_ w _ none) g4⟩
def cmpT (x y:TagR):Int:=Lib.compareBytes x.name.data.toList y.name.data.toList
theorem V9_ (x y:TagR) (w:World):Calls Tryz.prog 134 #[tagV x,tagV y] w (RetInt (cmpT x y) w):=by
 have hc:=hh_ fun w'=>Tryz.strings_Compare x.name y.name w'
 have HX:=hh_ (show cmpT x y=Lib.compareBytes x.name.data.toList y.name.data.toList from rfl);generalize cmpT x y=z at *;generalize Lib.compareBytes x.name.data.toList y.name.data.toList=r at *;have HG:=hh_ (fun w' h=>Aa_ (Ad_ (Ad_ (Ab_ w none) (.cells #[.string x.name,.string x.value] 53)) (.cells #[.string y.name,.string y.value] 53)) h:∀w',World.grownBy ((w.alloc (.cells #[.string x.name,.string x.value] 53)).alloc (.cells #[.string y.name,.string y.value] 53)) w' none→w.grownBy w' none)
 go_enter func134,ntmps134
 go_wp2_with (go_at_call 135;refine(hc.out _).mono ?_;rintro e w1 ⟨rfl,g1⟩)
 go_ret
 exact Ai_ HX.out (HG.out _ (Ab_ _ _))
theorem an_:∀a b:List UInt8,Lib.compareBytes a b<0↔a<b
 | [],[]=>by simp[Lib.compareBytes]
 | [],_::_=>by simp[Lib.compareBytes]
 | _::_,[]=>by simp[Lib.compareBytes]
 | a::r,b::bs=>by
  rw[List.cons_lt_cons_iff];unfold Lib.compareBytes
  by_cases h1:a<b
  ·simp[h1]
  ·rw[if_neg h1]
   by_cases h2:b<a
   ·rw[if_pos h2]
    refine⟨fun h=>absurd h (by omega),?_⟩;rintro(h |⟨rfl,_⟩)
    ·exact absurd h h1
    ·exact absurd h2 h1
   ·rw[if_neg h2,an_ r bs]
    have e:a=b:=UInt8.le_antisymm (UInt8.not_lt.1 h2) (UInt8.not_lt.1 h1);exact⟨fun h=>.inr ⟨e,h⟩,fun h=>h.elim (fun h=>absurd h h1) fun h=>h.2⟩
def befT (x y:TagR):Bool:=decide (nmB x<nmB y)
theorem Wr_ (x y:TagR):decide (cmpT x y<0)=befT x y:=by
 unfold cmpT befT;rw[Bool.eq_iff_iff];simp only[decide_eq_true_eq];exact an_ _ _
def insKT (x:TagR) (L:List TagR):Nat→Nat
 | 0=>0
 | k+1=>if ((L[k]?).map (befT x)).getD false then insKT x L k else k+1
theorem E7_ (x:TagR) (L:List TagR):∀k,insKT x L k≤k
 | 0=>le_ _
 | k+1=>by
  unfold insKT
  split
  ·exact Nat.le_succ_of_le (E7_ x L k)
  ·exact le_ _
def Ew_ (L:List TagR) (x:TagR):List TagR:=L.take (insKT x L L.length)++[x]++L.drop (insKT x L L.length)
theorem V7_ (L:List TagR) (x:TagR) :(Ew_ L x).length=L.length+1:=by
 have:=E7_ x L L.length
 unfold Ew_
 simp;omega
def sortS (l:List TagR):List TagR:=l.foldl Ew_ []
theorem I8_ (l:List TagR) (x:TagR):sortS (l++[x])=Ew_ (sortS l) x:=by simp[sortS]
theorem L2_ (l:List TagR) :(sortS l).length=l.length:=by
 have:∀(l a:List TagR),(l.foldl Ew_ a).length=a.length+l.length:=by
  intro l
  induction l with
  | nil=>simp
  | cons x l ih=>intro a;simp only[List.foldl_cons,ih,V7_,lc_];omega
 simpa [sortS] using this l []
theorem C7_ (x:TagR) (L:List TagR):∀{k j:Nat} (_:insKT x L k≤j) (_:j<k) (h:j<L.length),nmB x<nmB L[j]
 | 0,_,_,h2,_=>absurd h2 (by omega)
 | k+1,j,h1,h2,h3=>by
  unfold insKT at h1
  by_cases hc :((L[k]?).map (befT x)).getD false=true
  ·rw[if_pos hc] at h1
   by_cases hj:j<k
   ·exact C7_ x L h1 hj h3
   ·obtain rfl:j=k:=by omega
    rw[gq_ h3] at hc
    simpa [befT] using hc
  ·rw[if_neg hc] at h1;omega
theorem Dc_ (x:TagR) (L:List TagR):∀{k j:Nat} (_:insKT x L k=j+1) (h:j<L.length),¬nmB x<nmB L[j]
 | 0,_,h1,_=>absurd h1 (by simp[insKT])
 | k+1,j,h1,h3=>by
  unfold insKT at h1
  by_cases hc :((L[k]?).map (befT x)).getD false=true
  ·rw[if_pos hc] at h1
   exact Dc_ x L h1 h3
  ·rw[if_neg hc] at h1
   obtain rfl:k=j:=by omega
   rw[gq_ h3] at hc
   simpa [befT] using hc
theorem Y4_ {L:List TagR} {x:TagR} {p:Nat} (hp:p≤L.length) (h1:∀j (hj:j<L.length),j<p→nmB L[j]<nmB x) (h2:∀(hj:p<L.length),¬nmB L[p]<nmB x):lessT L x=p:=by
 rcases Nat.lt_trichotomy (lessT L x) p with h|h|h
 ·exact absurd (h1 _ (by omega) h) (Go_ (L:=L) (k:=x) (by omega))
 ·exact h
 ·have:=Gm_ L x
  exact absurd (Gc_ h (by omega)) (h2 (by omega))
theorem Zv_ {L:List TagR} {x:TagR} (h:AscT L) (hx:∀y∈L,nmB y≠nmB x):Ew_ L x=insT L x:=by
 have hle:=E7_ x L L.length
 have e:lessT L x=insKT x L L.length:=by
  refine Y4_ hle (fun j hj hjp=>?_) (fun hj=>?_)
  ·have h1:=Dc_ x L (k:=L.length) (j:=insKT x L L.length-1) (by omega) (by omega)
   have h2:nmB L[insKT x L L.length-1]<nmB x:=Lc_ h1 fun e=>hx _ (mg_ _) e.symm
   by_cases hjj:j=insKT x L L.length-1
   ·subst hjj;exact h2
   ·exact List.lt_trans (List.pairwise_iff_getElem.1 h j (insKT x L L.length-1) hj (by omega) (by omega)) h2
  ·exact fun h3=>List.lt_irrefl _ (List.lt_trans h3 (C7_ x L (k:=L.length) (le_ _) hj hj))
 unfold Ew_ insT;rw[e]
def AdjEq (S:List TagR):Prop:=∃i,∃h:i+1<S.length,nmB S[i]=nmB S[i+1]
theorem Tr_ {L:List TagR} {x:TagR} {p i:Nat} (hp:p≤L.length) (hi:i<p) :(L.take p++[x]++L.drop p)[i]?=L[i]?:=by
 have e :(L.take p).length=p:=by simp;omega
 rw[List.append_assoc,List.getElem?_append_left (by omega),List.getElem?_take,if_pos hi]
theorem cg_ {L:List TagR} {x:TagR} {p:Nat} (hp:p≤L.length) :(L.take p++[x]++L.drop p)[p]?=some x:=by
 have e :(L.take p).length=p:=by simp;omega
 rw[List.append_assoc,List.getElem?_append_right (by omega),e];simp
theorem a0_ {L:List TagR} {x:TagR} {p i:Nat} (hp:p≤L.length) (hi:p≤i) :(L.take p++[x]++L.drop p)[i+1]?=L[i]?:=by
 have e :(L.take p).length=p:=by simp;omega
 rw[List.append_assoc,List.getElem?_append_right (by omega),e,show i+1-p =(i-p)+1 by omega,List.singleton_append,List.getElem?_cons_succ,List.getElem?_drop,show p+(i-p)=i by omega]
theorem V6_ {S:List TagR} {i:Nat} {x y:TagR} (h1:S[i]?=some x) (h2:S[i+1]?=some y) (h:nmB x=nmB y):AdjEq S:=by
 obtain⟨a,rfl⟩:=gs_ h1;obtain⟨b,rfl⟩:=gs_ h2;exact⟨i,b,h⟩
theorem b2_ {L:List TagR} {x:TagR} (h:AdjEq L):AdjEq (Ew_ L x):=by
 obtain⟨i,hi,e⟩:=h;have hle:=E7_ x L L.length;unfold Ew_
 by_cases h1:insKT x L L.length≤i
 ·refine V6_ (i:=i+1) (x:=L[i]) (y:=L[i+1]) ?_ ?_ e
  ·rw[a0_ hle h1,gq_]
  ·rw[a0_ hle (by omega),gq_]
 ·by_cases h2:i+1<insKT x L L.length
  ·refine V6_ (i:=i) (x:=L[i]) (y:=L[i+1]) ?_ ?_ e
   ·rw[Tr_ hle (by omega),gq_]
   ·rw[Tr_ hle h2,gq_]
  ·have h3:insKT x L L.length=i+1:=by omega
   have h4:=Dc_ x L h3 (by omega);have h5:=C7_ x L (k:=L.length) (j:=i+1) (by omega) hi hi;rw[←e] at h5;exact absurd h5 h4
theorem cx_ {L:List TagR} {x y:TagR} (h:AscT L) (hy:y∈L) (e:nmB y=nmB x):AdjEq (Ew_ L x):=by
 obtain⟨i,hi,rfl⟩:=List.getElem_of_mem hy;have hle:=E7_ x L L.length
 have h1:i<insKT x L L.length:=by
  refine Nat.lt_of_not_le fun h1=>?_
  have:=C7_ x L (k:=L.length) h1 hi hi
  rw[e] at this;exact List.lt_irrefl _ this
 have h2:¬i+1<insKT x L L.length:=fun h2=>by
  have h3:=Dc_ x L (k:=L.length) (j:=insKT x L L.length-1) (by omega) (by omega);have h4:=List.pairwise_iff_getElem.1 h i (insKT x L L.length-1) hi (by omega) (by omega);rw[e] at h4;exact h3 h4
 unfold Ew_;refine V6_ (i:=i) (x:=L[i]) (y:=x) ?_ ?_ e
 ·rw[Tr_ hle h1,gq_]
 ·rw[show i+1=insKT x L L.length by omega];exact cg_ hle
theorem Yj_:∀(l:List TagR),(Dif l→sortS l=sortT l)∧(¬Dif l→AdjEq (sortS l)):=by
 intro l
 have key:∀k,k≤l.length→(Dif (l.take k)→sortS (l.take k)=sortT (l.take k))∧(¬Dif (l.take k)→AdjEq (sortS (l.take k))):=by
  intro k
  induction k with
  | zero=>intro _;exact⟨fun _=>by simp[sortS,sortT],fun h=>absurd (by simp[Dif]) h⟩
  | succ k ih=>
   intro hk;obtain⟨i1,i2⟩:=ih (by omega);rw[tg_ (by omega),I8_,Fx_]
   by_cases hd:Dif (l.take k)
   ·rw[i1 hd]
    have ha:=Gs_ hd
    constructor
    ·intro h
     exact Zv_ ha fun y hy=>(D5_.1 h).2 y ((Ch_ _ _).1 hy)
    ·intro h
     have:∃y∈l.take k,nmB y=nmB l[k]:=by
      refine Decidable.byContradiction fun hn=>h (D5_.2 ⟨hd,fun y hy e=>hn ⟨y,hy,e⟩⟩)
     obtain⟨y,hy,e⟩:=this;exact cx_ ha ((Ch_ _ _).2 hy) e
   ·exact⟨fun h=>absurd (D5_.1 h).1 hd,fun _=>b2_ (i2 hd)⟩
 have:=key l.length (le_ _)
 rwa [tk_ (le_ _)] at this
theorem Qk_ {S:List TagR} (h:AscT S):¬AdjEq S:=by
 rintro⟨i,hi,e⟩
 have:=List.pairwise_iff_getElem.1 h i (i+1) (by omega) hi (by omega)
 rw[e] at this;exact List.lt_irrefl _ this
theorem do_ (S R:List TagR) (x:TagR) {j:Nat} (hj:j≤S.length) :(S.take j++[x]++S.drop j++R)[j]?=some x:=by
 have e :(S.take j).length=j:=by simp;omega
 rw[List.append_assoc,List.append_assoc,List.getElem?_append_right (by omega),e];simp
theorem Oe_ (S R:List TagR) (x:TagR) {j k:Nat} (hj:j≤S.length) (hk:k<j) :(S.take j++[x]++S.drop j++R)[k]?=S[k]?:=by
 have e :(S.take j).length=j:=by simp;omega
 rw[List.append_assoc,List.append_assoc,List.getElem?_append_left (by omega),List.getElem?_take,if_pos hk]
theorem Pu_ (S R:List TagR) (x:TagR) (j:Nat) :(S.take j++[x]++S.drop j++R).length=S.length+1+R.length:=by
 simp;omega
theorem R3_ (S R:List TagR) (x:TagR) {j:Nat} (hj:j+1≤S.length) :((S.take (j+1)++[x]++S.drop (j+1)++R).set (j+1) S[j]).set j x=S.take j++[x]++S.drop j++R:=by
 have e1 :(S.take (j+1)).length=j+1:=by simp;omega
 have e2 :(S.take j).length=j:=by simp;omega
 have e3:S.take (j+1)=S.take j++[S[j]]:=tg_ (by omega);have e4:S.drop j=S[j]::S.drop (j+1):=List.drop_eq_getElem_cons (by omega);rw[List.append_assoc,List.append_assoc,List.set_append_right _ _ (by omega),e1,Nat.sub_self,e3];simp only[List.cons_append,List.nil_append,List.set_cons_zero,List.append_assoc];rw[List.set_append_right _ _ (by omega),e2,Nat.sub_self];simp only[List.set_cons_zero];rw[e4,List.cons_append]
theorem Own.storeT2 {B:Nat} {w:World} {g n cap:Nat} {l:List TagR} (h:Own tagF 2 53 B w (.slice (some ⟨g,0,none⟩) n cap) l) {i:Nat} (hi:i<l.length) (y:TagR) :
  Own tagF 2 53 B ((w.setCell ⟨g,i*2,none⟩ (.string y.name)).setCell ⟨g,i*2+1,none⟩ (.string y.value)) (.slice (some ⟨g,0,none⟩) n cap) (l.set i y) ∧
   w.grownBy ((w.setCell ⟨g,i*2,none⟩ (.string y.name)).setCell ⟨g,i*2+1,none⟩ (.string y.value)) (some g):=by
 have h1:=h.stored Av_ hi (show 0<2 by omega) (.string y.name) ⟨y.name,l[i].value⟩ rfl;have h2:=h1.1.stored Av_ (i:=i) (by simpa using hi) (show 1<2 by omega) (.string y.value) y (by simp[tagF]);refine⟨?_,Aa_ h1.2 h2.2⟩
 have:=h2.1
 rw[List.set_set] at this
 simpa using this
abbrev M7_:Value:=.func (Fn.func 134) #[] #[]
theorem N6_ (l:List TagR):sortS (l.take 1)++l.drop 1=l:=by
 cases l with
 | nil=>rfl
 | cons x l=>simp[sortS,Ew_,insKT]
theorem Zg_ (B:Nat) (a:Option Addr) (c:Nat) (l:List TagR) (w:World) (h:Own tagF 2 53 B w (.slice a l.length c) l) (hl:l.length≤1000000) :
  Calls Tryz.prog 189 #[.slice a l.length c,.int .i64 0,.int .i64 l.length,M7_] w fun e w'=>
   e=.returned (.tuple #[])∧Own tagF 2 53 B w' (.slice a l.length c) (sortS l)∧w.grownBy w' (Value.ownBlock (.slice a l.length c)):=by
 have hm:=h.len;have H:=hh_ h
 have hll :(l.length:Int)≤1000000:=by omega
 clear h;generalize hV :(Value.slice a l.length c).ownBlock=rb;have HV:=hh_ hV;clear hV
 go_enter func189,ntmps189
 go_wp2_with fail
 go_loopw [8,9,18,19] (fun s8 _ _ _ wk=>∃(i:Nat),1≤i∧s8=.int .i64 i∧Own tagF 2 53 B wk (.slice a l.length c) (sortS (l.take i)++l.drop i)∧w.grownBy wk rb) (fun s8 _ _ _ _=>l.length+1-(RowKit.intOf s8).toNat)
 case atStart=>exact⟨1,by omega,rfl,by rw[N6_];exact H.out,Ab_ _ _⟩
 case round=>
  obtain⟨i,hi,rfl,hO,hg⟩:=hrel
  by_cases hil:i<l.length
  ·have hdr:l.drop i=l[i]::l.drop (i+1):=List.drop_eq_getElem_cons hil
   have HS:=hh_ (show Ew_ (sortS (l.take i)) l[i]=sortS (l.take (i+1)) by rw[tg_ hil,I8_])
   have hSl :(sortS (l.take i)).length=i:=by rw[L2_,lk_];omega
   have hO2:Own tagF 2 53 B wr (.slice a l.length c) ((sortS (l.take i)).take i++[l[i]]++(sortS (l.take i)).drop i++l.drop (i+1)):=by
    rw[tk_ (by omega),List.drop_of_length_le (by omega),List.append_nil,List.append_assoc];rw[hdr] at hO;exact hO
   have hRl :(l.drop (i+1)).length=l.length-(i+1):=by simp
   have HO:=hh_ hO2;clear hO hO2 hdr;generalize sortS (l.take i)=S at *;obtain⟨R,hR⟩:∃R,l.drop (i+1)=R:=⟨_,rfl⟩;have HR:=hh_ hR;rw[hR] at hRl HO;clear hR;generalize l[i]=x at *;subst hSl;have HK:=hh_ (show Ew_ S x=S.take (insKT x S S.length)++[x]++S.drop (insKT x S S.length) from rfl);obtain⟨P,hP⟩:∃P,insKT x S S.length=P:=⟨_,rfl⟩;have Hst:=hh_ hP;rw[hP] at HK;clear hP;have HRl:=hh_ hRl;clear hRl
   go_wp2_with fail
   go_loopw [9,18,19] (fun s9 _ _ wk=>∃j:Nat,j≤S.length∧s9=.int .i64 j∧insKT x S j=P∧Own tagF 2 53 B wk (.slice a l.length c) (S.take j++[x]++S.drop j++R)∧w.grownBy wk rb) (fun s9 _ _ _=>(RowKit.intOf s9).toNat)
   case atStart=>exact⟨S.length,le_ _,rfl,Hst.out,HO.out,hg⟩
   case round=>
    clear HO hg;obtain⟨j,hj,rfl,hik,hO,hg⟩:=hrel;have Hik:=hh_ hik;clear hik;have hML:=Pu_ S R x j;have hmj:=do_ S R x hj;obtain⟨gv,cv,hv,hBg,hgv,hcv,hcx,hfz⟩:=hO.at_ Av_ (i:=j) (by omega)
    obtain⟨rfl,-,rfl⟩:a=some ⟨gv,0,none⟩∧l.length =(S.take j++[x]++S.drop j++R).length∧c=cv:=by simpa only[Value.slice.injEq] using hv
    clear hv
    have ex :(S.take j++[x]++S.drop j++R)[j]'(by omega)=x:=by
     have:=gq_ (l:=S.take j++[x]++S.drop j++R) (i:=j) (by omega)
     rw[hmj] at this;exact(Option.some.inj this).symm
    rw[ex] at hcx;have c0:=hcx 0 _ rfl;have c1:=hcx 1 _ rfl;rw[Nat.add_zero] at c0;clear hcx hmj ex
    by_cases hj0:0<j
    ·have hd:decide ((0:Int)<(j:Int))=true:=dt_ (by omega)
     obtain⟨k,hk⟩:∃k,j=k+1:=⟨j-1,by omega⟩
     have hkS:k<S.length:=by omega
     have hmk:=Oe_ S R x hj (k:=k) (by omega);rw[gq_ hkS] at hmk;obtain⟨gv',cv',hv',-,-,-,hcy,-⟩:=hO.at_ Av_ (i:=k) (by omega)
     obtain⟨hg',-,-⟩:some ⟨gv,0,none⟩=some (⟨gv',0,none⟩:Addr)∧l.length =(S.take j++[x]++S.drop j++R).length∧c=cv':=by simpa only[Value.slice.injEq] using hv'
     cases hg';clear hv'
     have ey :(S.take j++[x]++S.drop j++R)[k]'(by omega)=S[k]:=by
      have:=gq_ (l:=S.take j++[x]++S.drop j++R) (i:=k) (by omega)
      rw[hmk] at this;exact(Option.some.inj this).symm
     rw[ey] at hcy;have d0:=hcy 0 _ rfl;have d1:=hcy 1 _ rfl;rw[Nat.add_zero] at d0;clear hcy hmk ey;have hst:=hh_ (show insKT x S j=if befT x S[k] then insKT x S k else j by rw[hk,insKT,gq_ hkS];rfl);have hms:=hh_ (R3_ S R x (j:=k) (by omega));generalize S[k]=y at *;have hcn:=Wr_ x y
     have hjl :(j:Int)<(l.length:Int):=by omega
     have hkl :(k:Int)<(l.length:Int):=by omega
     have hk0 :(0:Int)≤(k:Int):=by omega
     have hs1:IntKind.i64.wrap ((j:Int)-1) =(k:Int):=by rw[IntWalk.i64_in _ (by omega)];omega
     have hs4 :(j:Int)-1 =(k:Int):=by omega
     have r0:=cell_regrown c0;have r1:=cell_regrown c1;have p0:=cell_regrown d0;have p1:=cell_regrown d1
     have r4:=Bi_ (w:=wr) fun w' hg=>V9_ x y w'
     have HC:=hh_ fun w' (h:World.grownBy wr w' none)=>And.intro (((An_ h).1 gv _ hgv (by simp)).trans c0) (And.intro (((An_ h).1 gv _ hgv (by simp)).trans c1) (And.intro (((An_ h).1 gv _ hgv (by simp)).trans d0) (((An_ h).1 gv _ hgv (by simp)).trans d1)))
     have HFz:=hh_ fun w' (h:World.grownBy wr w' none) o=>((An_ h).2 gv o hgv (by simp)).trans (hfz o)
     have Hk:=hh_ hk;have HML:=hh_ hML;clear hk hML hfz c0 c1 d0 d1;generalize cmpT x y=q at *;generalize befT x y=bb at *
     go_wp2_with fail
     (refine Tail.wp_region_tail_grown 17 (by kernel_rfl) (by kernel_rfl) ?_;simp only[List.take,List.drop];(repeat(go_big_quiet_step (with_reducible exact r4 _ _)));refine wn_ ?_;rintro _ ⟨⟨d5,os5⟩,rfl⟩)
     have K3:=Aa_ hg (Ak_ (A1_ wr d5 os5) rb);have O3:=hO.same (A1_ wr d5 os5);have G3:=A1_ wr d5 os5;generalize grow (redrawn wr d5) os5=w3 at *;clear r0 r1 p0 p1 r4 hs1;cases bb
     ·have Hst2:=hh_ (hst.out.trans (if_neg (by simp)))
      clear hst
      go_wp2_with fail
      exact⟨⟨S.length+1,by omega,by go_num,by rw[←HS.out,HK.out,←Hik.out,Hst2.out,HR.out];exact O3,K3⟩,by simp[RowKit.intOf];omega⟩
     ·have Hst2:=hh_ (hst.out.trans (if_pos rfl))
      clear hst
      go_wp2_with fail
      have Gd:wr.grownBy w3.drew none:=Aa_ G3 gw_
      (refine rz_ 14 #[false,false,true,true,true,false,false,false,false,false,false,false,false,false] (fun _ _ _ _ _=>False) ?_;simp only[ts_])
      (refine tq_ 9 ?_;(repeat(go_big_quiet_step (fail)));refine wn_ ?_)
      (refine to_ ?_;intro y9 my9 dy9)
      clear dy9;obtain⟨_,_,d0,d1⟩:=HC.out y9 (Aa_ Gd my9)
      go_wp2_with fail
      refine⟨Ab_ _ _,?_⟩;clear d0 d1
      (refine tq_ 3 ?_;(repeat(go_big_quiet_step (fail)));refine wn_ ?_)
      (refine to_ ?_;intro y13 my13 dy13)
      clear dy13;obtain⟨c0,c1,_,_⟩:=HC.out y13 (Aa_ Gd my13)
      go_wp2_with fail
      refine⟨Ab_ _ _,?_⟩;clear c0 c1
      (refine Rg.tree_nil ?_;intro z mz dz cz)
      clear dz cz;have hfz:=HFz.out z (Aa_ Gd mz);obtain⟨c0,c1,d0,d1⟩:=HC.out z (Aa_ Gd mz)
      have n0:¬(k*2=j*2):=by have:=Hk.out;omega
      have n1:¬(j*2=k*2):=by have:=Hk.out;omega
      have n2:¬(k*2=j*2+1):=by have:=Hk.out;omega
      have n3:¬(j*2+1=k*2):=by have:=Hk.out;omega
      have n4:¬(k*2+1=j*2):=by have:=Hk.out;omega
      have n5:¬(j*2=k*2+1):=by have:=Hk.out;omega
      have n6:¬(k*2+1=j*2+1):=by have:=Hk.out;omega
      have n7:¬(j*2+1=k*2+1):=by have:=Hk.out;omega
      go_wp2_with fail
      obtain rfl:=Hk.out;have Oz:=O3.same (Aa_ (show World.grownBy w3 w3.drew none from gw_) mz)
      have hlt1:k+1<(S.take (k+1)++[x]++S.drop (k+1)++R).length:=by rw[Pu_];omega
      have s1:=Oz.storeT2 hlt1 y;have s2:=s1.1.storeT2 (i:=k) (by rw[List.length_set];omega) x;have hrb:some gv=rb:=HV.out;have s3:=s2.1;rw[hms.out] at s3;exact⟨⟨k,by omega,rfl,by rw[←Hik.out,Hst2.out],s3,Aa_ K3 (Aa_ (Ak_ (Aa_ (show World.grownBy w3 w3.drew none from gw_) mz) rb) (hrb▸Aa_ s1.2 s2.2))⟩,by simp[RowKit.intOf]⟩
    ·obtain rfl:j=0:=by omega
     have hd:decide ((0:Int)<((0:Nat):Int))=false:=rfl;clear c0 c1
     go_wp2_with fail
     go_quiet (fail)
     go_wp2_with fail
     have hik2:P=0:=by rw[←Hik.out];rfl
     exact⟨⟨S.length+1,by omega,by go_num,by rw[←HS.out,HK.out,HR.out,hik2];exact hO.same (Ae_ (Ab_ _ _) _),Ae_ hg _⟩,by simp[RowKit.intOf];omega⟩
  ·have e1:sortS (l.take i)++l.drop i=sortS l:=by rw[tk_ (by omega),List.drop_of_length_le (by omega),List.append_nil]
   rw[e1] at hO
   go_wp2_with fail
   go_end0
   exact⟨rfl,hO,hg⟩
theorem ek_ (B:Nat) (a:Option Addr) (c:Nat) (l:List TagR) (q:Int) (w:World) (h:Own tagF 2 53 B w (.slice a l.length c) l) (hl:l.length≤8) :
  Calls Tryz.prog 171 #[.slice a l.length c,.int .i64 0,.int .i64 l.length,.int .i64 q,M7_] w fun e w'=>
   e=.returned (.tuple #[])∧Own tagF 2 53 B w' (.slice a l.length c) (sortS l)∧w.grownBy w' (Value.ownBlock (.slice a l.length c)):=by
 have hc:=hh_ (Zg_ B a c l w h (by omega))
 have h1 :(l.length:Int)≤12:=by omega
 have h2:wrap64 (l.length:Int) =(l.length:Int):=by unfold wrap64;omega
 clear h
 go_enter func171,ntmps171
 go_wp2_with fail
 go_loopw [1,2,3,10,11,12] (fun s1 s2 _ _ _ _ wk=>s1=.int .i64 0∧s2=.int .i64 l.length∧w=wk) (fun _ _ _ _ _ _ _=>0)
 case atStart=>exact⟨rfl,rfl,rfl⟩
 case round=>
  obtain⟨rfl,rfl,rfl⟩:=hrel
  go_wp2_with (go_at_call 189;refine hc.out.mono ?_;rintro e w2 ⟨rfl,o2,g2⟩)
  refine bodyPost_ret (results_none (h:=by kernel_rfl) ..) rfl ?_;exact⟨rfl,o2,g2⟩
theorem Nd_ (B:Nat) (a:Option Addr) (c:Nat) (l:List TagR) (w:World) (h:Own tagF 2 53 B w (.slice a l.length c) l) (hl:l.length≤8) :
  Calls Tryz.prog 133 #[.slice a l.length c,M7_] w fun e w'=>
   e=.returned (.tuple #[])∧Own tagF 2 53 B w' (.slice a l.length c) (sortS l)∧w.grownBy w' (Value.ownBlock (.slice a l.length c)):=by
 have hc:=hh_ fun q=>ek_ B a c l q w h hl
 have hw:IntKind.u64.wrap (l.length:Int) =(l.length:Int):=IntWalk.u64_in _ (by omega)
 have hb:=hh_ fun n w'=>Tryz.bits_Len n w'
 clear h
 go_enter func133,ntmps133
 go_wp2_with (first
  |(go_at_call 107;refine(hb.out _ _ (by omega) (by omega)).mono ?_;rintro e w1 ⟨rfl,rfl⟩)
  |(go_at_call 171;refine(hc.out _).mono ?_;rintro e w2 ⟨rfl,o2,g2⟩))
 go_end0
 exact⟨rfl,o2,g2⟩
theorem af_ (a b:ByteArray):Op.bytesLess a.toList b.toList=decide (a.data.toList<b.data.toList):=by
 rw[ByteArray.toList_eq,ByteArray.toList_eq,bytesLess_eq]
theorem H2_ (a b:ByteArray) :(a.toList==b.toList)=decide (a.data.toList=b.data.toList):=by
 rw[ByteArray.toList_eq,ByteArray.toList_eq,Bool.eq_iff_iff];simp
def Nk_ (L:List TagR) (w:World) (e:Ending) (w':World):Prop:=∃v,e=.returned (.tuple #[v,.int .i64 (sortE L)])∧Own tagF 2 53 w.heap.size w' v (if sortE L=0 then sortT L else [])∧w.grownBy w' none
theorem Ck_ {L:List TagR} {w w':World} {E:Int} (h:sortE L=E) (h0:E≠0) (hg:w.grownBy w' none):Nk_ L w (.returned (.tuple #[.slice none 0 0,.int .i64 E])) w':=
 ⟨_,by rw[h],by rw[if_neg (by omega)];exact Own.nil _ _ _ _ _,hg⟩
theorem Y3_ (v:Value) (L:List TagR) (w:World) (h:RdL tagF 2 w v L) (hW:∀t∈L,TagW t):Calls Tryz.prog 36 #[v] w (Nk_ L w):=by
 obtain⟨a,c,rfl⟩:=h.shape;have hm:=h.2.1;have H:=hh_ h;have HW:=hh_ hW;clear h hW
 by_cases h0:L.length=0
 ·have HE:=hh_ (E5_ (.inl h0))
  obtain rfl:L=[]:=List.eq_nil_of_length_eq_zero h0;clear h0
  go_enter func36,ntmps36
  go_wp2_with fail
  go_ret2
  exact Ck_ HE.out (by decide) (Ab_ _ _)
 have i0 :((L.length:Int)==0)=false:=bf_ (by omega)
 by_cases h8:8<L.length
 ·have HE:=hh_ (E5_ (.inr h8))
  have i8 :(8:Int)<(L.length:Int):=by omega
  clear h0
  go_enter func36,ntmps36
  go_wp2_with fail
  go_ret2
  exact Ck_ HE.out (by decide) (Ab_ _ _)
 have i8 :(L.length:Int)≤8:=by omega
 have Hfew:=hh_ (show ¬(L.length=0∨8<L.length) by omega);clear h0
 go_enter func36,ntmps36
 go_wp2_with fail
 go_loopw [21] (fun s21 wk=>∃i:Nat,i≤L.length∧s21=.int .i64 i∧(∀j (hj:j<L.length),j<i→tagE L[j]=0)∧w.grownBy wk none) (fun s21 _=>L.length-(RowKit.intOf s21).toNat)
 case atStart=>exact⟨0,zl_ _,rfl,by intro j hj h;omega,Ab_ _ _⟩
 case round=>
  obtain⟨i,hi,rfl,hall,hg⟩:=hrel;have Hall:=hh_ hall;have HGr:=hh_ hg;clear hall
  by_cases hlt:i<L.length
  ·obtain⟨gx,ox,cx,hv,hgx,hcx⟩:=(RdL.same H.out hg).at_ Av_ hlt
   cases hv;have c0:=hcx 0 _ rfl;have c1:=hcx 1 _ rfl;rw[Nat.add_zero] at c0;have hw:=HW.out _ (mg_ hlt)
   have HF:=hh_ (show ∀E:Int,E≠0→tagE L[i]=E→sortE L=E from fun E hE h=>by
    have h1:=Ox_ hlt Hall.out (by rw[h];exact hE)
    rw[K9_ Hfew.out (by rw[h1,h];exact hE),h1,h])
   have HS:=hh_ (show tagE L[i]=0→∀j (hj:j<L.length),j<i+1→tagE L[j]=0 from fun h j hj hji=>by
    rcases Nat.lt_or_ge j i with h1|h1
    ·exact Hall.out j hj h1
    ·obtain rfl:j=i:=by omega
     exact h)
   have C:=hh_ fun w'=>fq_ L[i] w' hw
   clear hcx hw Hall hg;generalize L[i]=x at *;generalize tagE x=EE at *
   by_cases hE:EE=0
   ·subst hE
    have HS2:=hh_ (HS.out rfl);clear HF HS
    go_wp2_with (go_at_call 73;refine(C.out _).mono ?_;rintro e w2 ⟨rfl,g2⟩)
    exact⟨⟨i+1,by omega,by go_num,HS2.out,Aa_ HGr.out (Aa_ (ga_ _ _ _) g2)⟩,by simp[RowKit.intOf];omega⟩
   ·have he2 :(EE != 0)=true:=by simpa using hE
    have he3 :(EE==0)=false:=by simpa using hE
    have HF2:=hh_ (HF.out EE hE rfl);have HE0:=hh_ hE;clear HF HS hE
    go_wp2_with (go_at_call 73;refine(C.out _).mono ?_;rintro e w2 ⟨rfl,g2⟩)
    go_ret2
    exact Ck_ HF2.out HE0.out (Aa_ HGr.out (Aa_ (ga_ _ _ _) g2))
  ·have HT:=hh_ (show Dt_ L=0 from Pt_ fun t ht=>by
    obtain⟨j,hj,rfl⟩:=List.getElem_of_mem ht
    exact Hall.out j hj (by omega))
   have hi1:¬(i:Int)<(L.length:Int):=by omega
   clear Hall
   go_upto_region 12 with fail
   clear hlt hi1
   go_loopw [33,7] (fun s33 s7 wk=>∃(j:Nat),j≤L.length∧s33=.int .i64 j∧Dif (L.take j)∧Own tagF 2 53 w.heap.size wk s7 (sortT (L.take j))∧w.grownBy wk none) (fun s33 _ _=>L.length-(RowKit.intOf s33).toNat)
   case atStart=>exact⟨0,zl_ _,rfl,by simp[Dif],Own.nil _ _ _ _ _,hg⟩
   case round=>
    clear hg HGr hi;obtain⟨j,hj,rfl,hdif,hO,hg⟩:=hrel;have HDf:=hh_ hdif;clear hdif
    by_cases hjl:j<L.length
    ·obtain⟨gx,ox,cx,hv,hgx,hcx⟩:=(RdL.same H.out hg).at_ Av_ hjl
     cases hv;have c0:=hcx 0 _ rfl;have c1:=hcx 1 _ rfl;rw[Nat.add_zero] at c0;have HT2:=hh_ (show sortT (L.take (j+1))=insT (sortT (L.take j)) L[j] by rw[tg_ hjl,Fx_]);have hfnd:=Rr_ (x:=L[j]) (Gs_ HDf.out)
     have HNo:=hh_ (p:=(∃(hk:lessT (sortT (L.take j)) L[j]<(sortT (L.take j)).length),nmB (sortT (L.take j))[lessT (sortT (L.take j)) L[j]]=nmB L[j])→sortE L=5) (fun h=>by
      obtain⟨y,hy,e⟩:=hfnd.2 h
      refine Lq_ Hfew.out HT.out fun hd=>?_
      have h2:=hd.take (j+1);rw[tg_ hjl] at h2
      exact(D5_.1 h2).2 y ((Ch_ _ _).1 hy) e)
     have HYes:=hh_ (p:=¬(∃(hk:lessT (sortT (L.take j)) L[j]<(sortT (L.take j)).length),nmB (sortT (L.take j))[lessT (sortT (L.take j)) L[j]]=nmB L[j])→Dif (L.take (j+1))) (fun h=>by
      rw[tg_ hjl]
      exact D5_.2 ⟨HDf.out,fun y hy e=>h (hfnd.1 ⟨y,(Ch_ _ _).2 hy,e⟩)⟩)
     have hsl :(sortT (L.take j)).length≤8:=by rw[E9_,lk_];omega
     clear hcx hfnd;generalize sortT (L.take j)=S at *;generalize L[j]=x at *;obtain⟨oa,oc,rfl⟩:=hO.shape
     go_upto_region 14 with fail
     have O2:=hO.same (ga_ wr (.cells #[.string x.name,.string x.value] 53) none);have G2:=Ad_ hg (.cells #[.string x.name,.string x.value] 53);have A2:=Blk.new wr #[.string x.name,.string x.value] 53;generalize wr.alloc _=w2 at *;generalize wr.heap.size=gk at *;have HN1:=hh_ (Gm_ S x)
     have HN2:=hh_ fun i (h:i<lessT S x) h2=>Gc_ (k:=x) h h2
     have HN3:=hh_ fun h=>Go_ (L:=S) (k:=x) h
     have HI:=hh_ (show insT S x=S.take (lessT S x)++[x]++S.drop (lessT S x) from rfl);clear hO hg c0 c1 hgx;generalize lessT S x=N at *;have hN:=HN1.out
     go_cut [10] (fun s10 wx=>s10=.int .i64 0∧w2=wx)
     case first=>
      go_wp2_with fail
      go_meet
      exact⟨rfl,rfl⟩
     obtain⟨rfl,rfl⟩:=hcut
     rename_i hK
     refine hK _ _ ?_
     apply wp_seq_k
     intro K1 hK1
     go_cut [10,37,38,39,40,41,42,43,44,45,46,47,48,49,50,51,52] (fun s10 _ _ _ _ _ _ _ _ _ _ _ _ _ _ _ _ wx=>s10=.int .i64 N∧w2.grownBy wx none)
     case first=>
      go_wp2_with fail
      go_loopw [10] (fun s10 wk=>∃m:Nat,m≤N∧s10=.int .i64 m∧w2.grownBy wk none) (fun s10 _=>N-(RowKit.intOf s10).toNat)
      case atStart=>exact⟨0,zl_ _,rfl,Ab_ _ _⟩
      case round=>
       obtain⟨m,hm,rfl,hgm⟩:=hrel;have am:=(A2.same hgm).cell
       by_cases hml:m<S.length
       ·obtain⟨go,oo,co,hvo,hgo,cm⟩:=(RdL.same O2.rd hgm).at_ Av_ hml
        cases hvo;have cm0:=cm 0 _ rfl;have cm1:=cm 1 _ rfl;rw[Nat.add_zero] at cm0
        have hml2 :(m:Int)<(S.length:Int):=by omega
        have hbl:=af_ S[m].name x.name;clear cm
        by_cases hmN:m<N
        ·have hlt:=HN2.out m hmN hml
         rw[dt_ (show S[m].name.data.toList<x.name.data.toList from hlt)] at hbl;generalize S[m]=y at *;clear hlt
         go_wp2_with fail
         go_quiet (fail)
         go_wp2_with fail
         exact⟨⟨m+1,by omega,by go_num,Ae_ hgm _⟩,by simp[RowKit.intOf];omega⟩
        ·obtain rfl:m=N:=by omega
         have hlt:=HN3.out hml;rw[df_ (show ¬S[m].name.data.toList<x.name.data.toList from hlt)] at hbl;generalize S[m]=y at *;clear hlt
         go_wp2_with fail
         go_quiet (fail)
         go_wp2_with fail
         go_meet
         exact⟨rfl,Ae_ hgm _⟩
       ·obtain rfl:m=N:=by omega
        have hml2:decide ((m:Int)<(S.length:Int))=false:=df_ (by omega)
        go_wp2_with fail
        go_quiet (fail)
        go_wp2_with fail
        go_meet
        exact⟨rfl,Ae_ hgm _⟩
     obtain⟨rfl,h3⟩:=hcut;refine hK1 _ _ ?_;have O3:=O2.same h3;have A3:=A2.same h3;have a3:=A3.cell
     by_cases hdup:∃(hk:N<S.length),nmB S[N]=nmB x
     ·have HF:=hh_ (HNo.out hdup)
      obtain⟨hml,he⟩:=hdup;obtain⟨go,oo,co,hvo,hgo,cm⟩:=(RdL.same O3.rd (Ab_ _ _)).at_ Av_ hml;cases hvo;have cm0:=cm 0 _ rfl;have cm1:=cm 1 _ rfl;rw[Nat.add_zero] at cm0
      have hml2 :(N:Int)<(S.length:Int):=by omega
      have hbe:=H2_ S[N].name x.name;rw[dt_ (show S[N].name.data.toList=x.name.data.toList from he)] at hbe;generalize S[N]=y at *;clear he cm HNo HYes HN1 HN2 HN3
      go_wp2_with fail
      go_quiet (fail)
      go_wp2_with fail
      go_ret2
      exact Ck_ HF.out (by decide) (Aa_ G2 (Ae_ h3 _))
     ·have HD2:=hh_ (HYes.out hdup)
      have O3':=hh_ O3;have A3':=hh_ A3
      apply wp_seq_k
      intro K3 hK3
      go_cut [53,54,55,56,57,58,59,60,61,62,63,64,65,66] (fun _ _ _ _ _ _ _ _ _ _ _ _ _ s66 wx=>s66=.bool false∧w2.grownBy wx none)
      case first=>
       by_cases hml:N<S.length
       ·obtain⟨go,oo,co,hvo,hgo,cm⟩:=O3.rd.at_ Av_ hml
        cases hvo;have cm0:=cm 0 _ rfl;have cm1:=cm 1 _ rfl;rw[Nat.add_zero] at cm0
        have hml2 :(N:Int)<(S.length:Int):=by omega
        have hbe:=H2_ S[N].name x.name;rw[df_ (show ¬S[N].name.data.toList=x.name.data.toList from fun e=>hdup ⟨hml,e⟩)] at hbe;generalize S[N]=y at *;clear hdup cm
        go_wp2_with fail
        go_quiet (fail)
        go_wp2_with fail
        go_meet
        exact⟨rfl,Ae_ h3 _⟩
       ·obtain rfl:N=S.length:=by omega
        clear hdup;have hml2:decide ((S.length:Int)<(S.length:Int))=false:=df_ (by omega)
        go_wp2_with fail
        go_quiet (fail)
        go_wp2_with fail
        go_meet
        exact⟨rfl,Ae_ h3 _⟩
      obtain⟨rfl,h4⟩:=hcut;clear a3 A3 O3 hK hK1 hdup;refine hK3 _ _ ?_;have O3:=O3'.out;have A3:=A3'.out;clear O3' A3';have O3:=O2.same h4;have A3:=A2.same h4;have G3:=Aa_ G2 h4;have hKl:=hN;have HSb:=hh_ hsl
      have hsl:S.length≤1000000:=by omega
      obtain⟨P,rfl⟩:∃P,P=N:=⟨_,rfl⟩;clear O2 A2 HNo HYes HN1 HN2 HN3 hN h3;have hcap:=O3.cap
      have hP0 :(0:Int)≤(P:Int):=by omega
      have hP1 :(P:Int)≤(S.length:Int):=by omega
      have hP2 :(P:Int)≤(oc:Int):=by omega
      have hP3 :(S.length:Int)≤(oc:Int):=by omega
      have hsz:=G3.size;refine wp_region_any (by kernel_rfl) ?_
      (refine Tail.take_put 8 75 (.slice oa S.length oc) rfl rfl (by kernel_rfl) (by kernel_rfl) (by kernel_rfl) (fun _ _ _ h=>h) (Or.inl ⟨by rfl,fun w=>?_⟩) ?_;· go_simp);simp only[List.setIfInBounds_toArray,List.set_cons_zero,List.set_cons_succ]
      (refine Tail.take_put 9 76 (.int .i64 P) rfl rfl (by kernel_rfl) (by kernel_rfl) (by kernel_rfl) (fun _ _ _ h=>h) (Or.inl ⟨by rfl,fun w=>?_⟩) ?_;· go_simp);simp only[List.setIfInBounds_toArray,List.set_cons_zero,List.set_cons_succ]
      (refine Tail.take_put 10 77 (.slice (if oc=P then oa else oa.map (·.add (P*2))) (S.length-P) (oc-P)) rfl rfl (by kernel_rfl) (by kernel_rfl) (by kernel_rfl) (fun _ _ _ h=>h) (Or.inl ⟨by rfl,fun w=>?_⟩) ?_;· go_simp);simp only[List.setIfInBounds_toArray,List.set_cons_zero,List.set_cons_succ]
      have RD:=hh_ fun w' (h:Own tagF 2 53 w.heap.size w' (.slice oa S.length oc) S)=>h.rd.drop Av_ hKl hcap (oc-P)
      generalize (if oc=P then oa else oa.map (·.add (P*2)))=od at *
      (refine ra_ 7 #[false,false,false,false,false,false,false,false,true,true,true,false,false] ?_;simp only[List.take,List.drop,Rg.tailL];simp (decide:=true) only[if_true,if_false])
      have Gd:wc.grownBy wc.drew none:=gw_;have Kd:=Aa_ G3 Gd
      have hb1 :(S.take P).length=P:=by simp;omega
      have hb2 :(S.take P).length*32≤140737488355328:=by rw[hb1];omega
      have hb3 :(S.take P).length≤9223372036854775807:=by rw[hb1];omega
      have hb4 :((S.take P).length+1)*32≤140737488355328:=by rw[hb1];omega
      have hb5 :(S.take P).length+1≤9223372036854775807:=by rw[hb1];omega
      have hb6 :(S.take P++[x]).length=P+1:=by rw[la_,hb1];rfl
      have hb7 :(S.drop P).length=S.length-P:=by simp
      have hb8 :((S.take P++[x]).length+(S.drop P).length)*32≤140737488355328:=by rw[hb6,hb7];omega
      have hb9 :(S.take P++[x]).length+(S.drop P).length≤9223372036854775807:=by rw[hb6,hb7];omega
      have Hb1:=hh_ hb1.symm;have Hb7:=hh_ hb7.symm;clear hb1 hb6 hb7
      (refine to_ ?_;intro y0 my0 dy0)
      clear dy0;have zy0:w.heap.size≤y0.heap.size:=(Aa_ Kd my0).size
      go_wp2_with fail
      refine⟨ga_ _ _ _,?_⟩;have N0:=Aw_ (e:=53) tagF 2 zy0;have hg0:wc.heap.size≤y0.heap.size:=(Aa_ Gd my0).size;generalize y0.alloc _=e0 at *;generalize y0.heap.size=g0 at *
      (refine tq_ 3 ?_;(repeat(go_big_quiet_step (fail)));refine wn_ ?_)
      (refine to_ ?_;intro y4 my4 dy4)
      have N4:=N0.same (dy4.out 0 (by omega) (by kernel_rfl));have K4:=Aa_ Gd my4;have R4:=(O3.rd.take Av_ hKl oc).same K4;have z4:=(Aa_ Kd my4).size
      go_wp2_with (at_builtin;refine A2_ B5_ Cr_ N4 R4 Hb1.out hb2 hb3 z4 (by rfl) _ _ (by rfl) (by rfl) (by rfl) ?_;intro v4 e4 o4 g4 l4;have Hg4:=hh_ g4;clear g4)
      refine⟨Hg4.out,?_⟩;have hv4:=Lies.ge l4 (fun k hk=>lt_ hg0 (K7_ _ _ _ k hk)) K4.size;clear R4 N0 N4 K4 z4 dy4 l4
      (refine to_ ?_;intro y5 my5 dy5)
      clear dy5;have a5:=(A3.same (Aa_ Gd my5)).cell
      go_wp2_with fail
      refine⟨Ab_ _ _,?_⟩;clear a5
      (refine to_ ?_;intro y6 my6 dy6)
      clear dy6
      go_wp2_with fail
      refine⟨ga_ _ _ _,?_⟩;have N6:=Blk.new y6 #[.string x.name,.string x.value] 53;generalize y6.alloc _=e6 at *;generalize y6.heap.size=g6 at *
      (refine Rg.tree_nil ?_;intro z mz dz cz)
      have o5:=o4.same (dz.out 4 (by omega));have N7:=(N6.same (dz.out 6 (by omega))).one Av_ x rfl;have Kz:=Aa_ Gd mz;have KK:=Aa_ Kd mz;have z7:=KK.size;have O7:=O3.same Kz
      have hlo:∀k,Value.ownBlock (.slice oa S.length oc)=some k→k<wc.heap.size:=fun k hk=>(O3.lt k hk).2
      have tok:=hh_ hP0;clear dz cz my0 my4 my5 my6 mz Hg4 Kz N6 o4 O3 A3 hg0 zy0 Gd Kd
      go_wp2_with (first
       |(at_builtin;have _t:=tok;refine app B5_ Cr_ o5 N7 rfl hb4 hb5 z7 (by rfl) _ _ (by rfl) (by rfl) (by rfl) ?_;intro v7 w7 o7 g7 l7;clear tok;have K7:=Ao_ KK o5 (le_ _) g7;have R8:=RD.out _ (O7.kept g7 (fun k hk e=>by have:=hlo k hk;have:=hv4 k e;omega));have z8:=K7.size)
       |(at_builtin;refine app B5_ Cr_ o7 R8 Hb7.out hb8 hb9 z8 (by rfl) _ _ (by rfl) (by rfl) (by rfl) ?_;intro v8 w8 o8 g8 l8;have K8:=Ao_ K7 o7 (le_ _) g8))
      exact⟨⟨j+1,by omega,by go_num,HD2.out,by rw[HT2.out,HI.out];exact o8,K8⟩,by simp[RowKit.intOf];omega⟩
    ·have hke:L.take j=L:=tk_ (by omega)
     rw[hke] at hO HDf;have HE:=hh_ (Pc_ Hfew.out HT.out HDf.out);obtain⟨oa,oc,rfl⟩:=hO.shape;have HO:=hh_ hO;clear hO hke
     go_wp2_with fail
     go_ret2
     exact⟨_,by rw[HE.out];rfl,by rw[HE.out,if_pos rfl];exact HO.out,hg⟩
theorem P4_ (w:World) (g:Nat) (b:UInt8) (h:w.cell? ⟨g,0,none⟩=some (.int .u8 b.toNat)) :(convert 63 9 (.slice (some ⟨g,0,none⟩) 1 1)).run Tryz.prog w=.ok (.string ⟨#[b]⟩) w:=by
 rw[run_convert_bytes_string w 63 9 5 _ 1 1 underlying63 underlying5 underlying9];rw[run_bytesToString w ⟨g,0,none⟩ 1 1 [(b.toNat:Int)]]
 ·show Result.ok (Value.string _) w=_
  congr 2
  simp[ByteArray.push,ByteArray.empty,ByteArray.emptyWithCapacity]
  all_goals rfl
 ·exact run_loadCells_list w ⟨g,0,none⟩ [.int .u8 b.toNat] (fun j v hv=>by
   cases j with
   | zero=>simp at hv;subst hv;exact h
   | succ j=>simp at hv)
theorem Z5_ (a b:ByteArray) :(a++b).data.toList=a.data.toList++b.data.toList:=by
 simp[ByteArray.data_append]
theorem Tb_ {a:ByteArray} {l:List UInt8} (h:a.data.toList=l):a =⟨l.toArray⟩:=by
 obtain⟨⟨x⟩⟩:=a;subst h;rfl
theorem I0_ {n:Nat}:IntKind.u8.wrap (n:Int) =(((UInt8.ofNat n).toNat:Nat):Int):=by
 rw[Nb_,UInt8.toNat_ofNat']
def KeyP (L:List TagR) (w:World) (e:Ending) (w':World):Prop:=e=.returned (.tuple #[.string (keyY L),.int .i64 (keyE L)])∧w.grownBy w' none
theorem Hg_ (v:Value) (L:List TagR) (w:World) (h:RdL tagF 2 w v L) (hW:∀t∈L,TagW t):Calls Tryz.prog 16 #[v] w (KeyP L w):=by
 obtain⟨a,c,rfl⟩:=h.shape;have C:=hh_ (Y3_ _ L w h hW);have HK:=hh_ (show keyE L=if sortE L≠0 then sortE L else if 255<(kyB (sortT L)).length then 4 else 0 from rfl);have HY:=hh_ (show keyY L=if keyE L=0 then ⟨(kyB (sortT L)).toArray⟩ else ⟨#[]⟩ from rfl);have H0:=hh_ (Ol_ (L:=L));have Hlen:=hh_ (E9_ L);have HM:=hh_ (Ch_ L);clear h hW
 go_enter func16,ntmps16
 by_cases hE:sortE L=0
 ·have C2:=C.out
  unfold Nk_ at C2;rw[hE,if_pos rfl] at C2;have C3:=hh_ C2;obtain⟨h0,h8,ht,-⟩:=H0.out hE;have HK2:=hh_ (HK.out.trans (if_neg (by omega)));have HT:=hh_ (fun t h=>Rm_ (ht t ((HM.out t).1 h)):∀t∈sortT L,_);clear C C2 HK H0 HM ht hE;generalize sortT L=S at *
  have hSl :(S.length:Int)≤8:=by have:=Hlen.out;omega
  go_wp2_with (go_at_call 36;refine C3.out.mono ?_;rintro e w2 ⟨v2,rfl,o2,g2⟩;obtain⟨a2,c2,rfl⟩:=o2.shape)
  have HO:=hh_ o2;have HG:=hh_ g2;clear o2 g2
  go_loopw [19,6] (fun s19 s6 wk=>∃(k:Nat) (O:ByteArray),k≤S.length∧s19=.int .i64 k∧s6=.string O∧O.data.toList=kyB (S.take k)∧O.size≤98*k∧w2.grownBy wk none) (fun s19 _ _=>S.length-(RowKit.intOf s19).toNat)
  case atStart=>exact⟨0,⟨#[]⟩,zl_ _,rfl,rfl,rfl,by simp[ByteArray.size],Ab_ _ _⟩
  case round=>
   obtain⟨k,O,hk,rfl,rfl,hO,hOl,hg⟩:=hrel;have HOl:=hh_ hO;clear hO
   by_cases hlt:k<S.length
   ·obtain⟨gx,ox,cx,hv,hgx,hcx⟩:=(RdL.same HO.out.rd hg).at_ Av_ hlt
    cases hv;have c0:=hcx 0 _ rfl;have c1:=hcx 1 _ rfl;rw[Nat.add_zero] at c0;obtain⟨-,-,hn32,hv64⟩:=HT.out _ (mg_ hlt);have HS:=hh_ (show kyB (S.take (k+1))=kyB (S.take k)++tkB S[k] by rw[tg_ hlt,P6_]);clear hcx;generalize S[k]=x at *;have hw1:=I0_ (n:=x.name.size);have hw2:=I0_ (n:=x.value.size);have HB:=hh_ (show tkB x=UInt8.ofNat x.name.size::nmB x++(UInt8.ofNat x.value.size::vlB x) from rfl);obtain⟨b1,hb1⟩:∃b,UInt8.ofNat x.name.size=b:=⟨_,rfl⟩;obtain⟨b2,hb2⟩:∃b,UInt8.ofNat x.value.size=b:=⟨_,rfl⟩;rw[hb1] at hw1 HB;rw[hb2] at hw2 HB;clear hb1 hb2
    have hc1:=fun w' g h=>P4_ w' g b1 h
    have hc2:=fun w' g h=>P4_ w' g b2 h
    go_wp2_with fail
    have hsz :(O++(⟨#[b1]⟩++x.name++⟨#[b2]⟩++x.value)).size≤98*(k+1):=by
     simp only[ByteArray.size_append];have e1 :(⟨#[b1]⟩:ByteArray).size=1:=rfl;have e2 :(⟨#[b2]⟩:ByteArray).size=1:=rfl;rw[e1,e2];omega
    exact⟨⟨k+1,_,by omega,by go_num,rfl,by rw[HS.out,HB.out];simp only[Z5_];rw[HOl.out];simp[nmB,vlB],hsz,Ad_ (Ad_ (Ad_ hg _) _) _⟩,by simp[RowKit.intOf];omega⟩
   ·have hke:S.take k=S:=tk_ (by omega)
    have HOf:=HOl.out;rw[hke] at HOf;clear hke
    by_cases hlong:255<O.size
    ·have j1 :(255:Int)<(O.size:Int):=by omega
     have HF:=hh_ (show keyE L=4 by rw[HK2.out,←HOf,if_pos (show 255<O.data.toList.length from hlong)]);clear hlong HOf
     go_wp2_with fail
     go_ret2
     exact⟨by rw[HF.out,HY.out,HF.out];rfl,Aa_ HG.out hg⟩
    ·have j1 :(O.size:Int)≤255:=by omega
     have HF:=hh_ (show keyE L=0 by rw[HK2.out,←HOf,if_neg (show ¬255<O.data.toList.length from hlong)]);have HQ:=hh_ (show keyY L=O by rw[HY.out,HF.out,if_pos rfl];exact(Tb_ HOf).symm);clear hlong HOf
     go_wp2_with fail
     go_ret2
     exact⟨by rw[HF.out,HQ.out];rfl,Aa_ HG.out hg⟩
 ·have C2:=C.out
  unfold Nk_ at C2;have HF:=hh_ (HK.out.trans (if_pos hE));have HF2:=hh_ (show keyY L =⟨#[]⟩ by rw[HY.out,HF.out,if_neg hE]);generalize sortE L=EE at *;rw[if_neg hE] at C2;have C3:=hh_ C2
  have he2 :(EE != 0)=true:=by simpa using hE
  have he3 :(EE==0)=false:=by simpa using hE
  clear C C2 HK H0 HM hE
  go_wp2_with (go_at_call 36;refine C3.out.mono ?_;rintro e w2 ⟨v2,rfl,o2,g2⟩;obtain⟨a2,c2,rfl⟩:=o2.shape)
  go_ret2
  exact⟨by rw[HF.out,HF2.out];rfl,g2⟩
theorem c8_ (v:Value) (L:List TagR) (w:World) (h:RdL tagF 2 w v L) (hW:∀t∈L,TagW t):Calls Tryz.prog 103 #[v] w (Nk_ L w):=by
 obtain⟨a,c,rfl⟩:=h.shape;have hm:=h.2.1;have H:=hh_ h;have HW:=hh_ hW;clear h hW
 by_cases h0:L.length=0
 ·have HE:=hh_ (E5_ (.inl h0))
  obtain rfl:L=[]:=List.eq_nil_of_length_eq_zero h0;clear h0
  go_enter func103,ntmps103
  go_wp2_with fail
  go_ret2
  exact Ck_ HE.out (by decide) (Ab_ _ _)
 have i0 :((L.length:Int)==0)=false:=bf_ (by omega)
 by_cases h8:8<L.length
 ·have HE:=hh_ (E5_ (.inr h8))
  have i8 :(8:Int)<(L.length:Int):=by omega
  clear h0
  go_enter func103,ntmps103
  go_wp2_with fail
  go_ret2
  exact Ck_ HE.out (by decide) (Ab_ _ _)
 have i8 :(L.length:Int)≤8:=by omega
 have Hfew:=hh_ (show ¬(L.length=0∨8<L.length) by omega);clear h0
 go_enter func103,ntmps103
 go_wp2_with fail
 go_loopw [19] (fun s19 wk=>∃i:Nat,i≤L.length∧s19=.int .i64 i∧(∀j (hj:j<L.length),j<i→tagE L[j]=0)∧w.grownBy wk none) (fun s19 _=>L.length-(RowKit.intOf s19).toNat)
 case atStart=>exact⟨0,zl_ _,rfl,by intro j hj h;omega,Ab_ _ _⟩
 case round=>
  obtain⟨i,hi,rfl,hall,hg⟩:=hrel;have Hall:=hh_ hall;have HGr:=hh_ hg;clear hall
  by_cases hlt:i<L.length
  ·obtain⟨gx,ox,cx,hv,hgx,hcx⟩:=(RdL.same H.out hg).at_ Av_ hlt
   cases hv;have c0:=hcx 0 _ rfl;have c1:=hcx 1 _ rfl;rw[Nat.add_zero] at c0;have hw:=HW.out _ (mg_ hlt)
   have HF:=hh_ (show ∀E:Int,E≠0→tagE L[i]=E→sortE L=E from fun E hE h=>by
    have h1:=Ox_ hlt Hall.out (by rw[h];exact hE)
    rw[K9_ Hfew.out (by rw[h1,h];exact hE),h1,h])
   have HS:=hh_ (show tagE L[i]=0→∀j (hj:j<L.length),j<i+1→tagE L[j]=0 from fun h j hj hji=>by
    rcases Nat.lt_or_ge j i with h1|h1
    ·exact Hall.out j hj h1
    ·obtain rfl:j=i:=by omega
     exact h)
   have C:=hh_ fun w'=>Zj_ L[i] w' hw
   clear hcx hw Hall hg;generalize L[i]=x at *;generalize tagE x=EE at *
   by_cases hE:EE=0
   ·subst hE
    have HS2:=hh_ (HS.out rfl);clear HF HS
    go_wp2_with (go_at_call 131;refine(C.out _).mono ?_;rintro e w2 ⟨rfl,g2⟩)
    exact⟨⟨i+1,by omega,by go_num,HS2.out,Aa_ HGr.out (Aa_ (ga_ _ _ _) g2)⟩,by simp[RowKit.intOf];omega⟩
   ·have he2 :(EE != 0)=true:=by simpa using hE
    have he3 :(EE==0)=false:=by simpa using hE
    have HF2:=hh_ (HF.out EE hE rfl);have HE0:=hh_ hE;clear HF HS hE
    go_wp2_with (go_at_call 131;refine(C.out _).mono ?_;rintro e w2 ⟨rfl,g2⟩)
    go_ret2
    exact Ck_ HF2.out HE0.out (Aa_ HGr.out (Aa_ (ga_ _ _ _) g2))
  ·have HT:=hh_ (show Dt_ L=0 from Pt_ fun t ht=>by
    obtain⟨j,hj,rfl⟩:=List.getElem_of_mem ht
    exact Hall.out j hj (by omega))
   have hi1:¬(i:Int)<(L.length:Int):=by omega
   have C1:=hh_ (Ye_ _ L wr (H.out.same hg) (by omega))
   have C2:=hh_ fun a c w' h=>Nd_ wr.heap.size a c L w' h (by omega)
   clear Hall hg
   go_upto_region 13 with(first
    |(go_at_call 132;refine C1.out.mono ?_;rintro e w2 ⟨v2,rfl,o2,g2⟩;obtain⟨a2,c2,rfl⟩:=o2.shape)
    |(go_at_call 133;refine(C2.out _ _ _ o2).mono ?_;rintro e w3 ⟨rfl,o3,g3⟩))
   have G3:=Ao_ (Aa_ HGr.out g2) o2 HGr.out.size g3;have O3:=o3.base (B':=w.heap.size) (fun k hk=>lt_ HGr.out.size (o3.lt k hk).1);have hSl:=L2_ L;have HI:=hh_ (Yj_ L);have HTA:=hh_ (Gs_ (L:=L));clear o2 g2 o3 g3 C1 C2 hlt hi1;obtain⟨S,hS⟩:∃S,sortS L=S:=⟨_,rfl⟩;rw[hS] at O3 hSl HI;clear hS
   have HOK:=hh_ (p:=(∀j (hj:j+1<S.length),nmB S[j]≠nmB S[j+1])→sortE L=0∧S=sortT L) (fun h=>by
    have hd:Dif L:=Decidable.byContradiction fun hn=>by
     obtain⟨j,hj,e⟩:=HI.out.2 hn;exact h j hj e
    exact⟨Pc_ Hfew.out HT.out hd,HI.out.1 hd⟩)
   have HBAD:=hh_ (p:=∀j (hj:j+1<S.length),nmB S[j]=nmB S[j+1]→sortE L=5) (fun j hj e=>by
    refine Lq_ Hfew.out HT.out fun hd=>?_
    exact(show ¬AdjEq S from by rw[HI.out.1 hd];exact Qk_ (HTA.out hd)) ⟨j,hj,e⟩)
   clear HI HTA;have HO:=hh_ O3;have HG:=hh_ G3;clear O3 G3
   go_loopw [8] (fun s8 wk=>∃i:Nat,1≤i∧s8=.int .i64 i∧i≤S.length+1∧(∀j (hj:j+1<S.length),j+1<i→nmB S[j]≠nmB S[j+1])∧w3.grownBy wk none) (fun s8 _=>S.length+1-(RowKit.intOf s8).toNat)
   case atStart=>exact⟨1,by omega,rfl,by omega,by intro j hj h;omega,Ab_ _ _⟩
   case round=>
    obtain⟨i,hi1,rfl,hi2,hall,hg⟩:=hrel;have Hall:=hh_ hall;clear hall
    by_cases hil:i<S.length
    ·obtain⟨k,rfl⟩:∃k,i=k+1:=⟨i-1,by omega⟩
     obtain⟨gx,ox,cx,hv,hgx,hcx⟩:=(RdL.same HO.out.rd hg).at_ Av_ hil;obtain⟨gy,oy,cy,hv2,-,hcy⟩:=(RdL.same HO.out.rd hg).at_ Av_ (show k<S.length by omega)
     obtain⟨rfl,-,rfl⟩:a2=some ⟨gx,ox,none⟩∧L.length=S.length∧c2=cx:=by simpa only[Value.slice.injEq] using hv
     obtain⟨hg2,-,-⟩:some ⟨gx,ox,none⟩=some (⟨gy,oy,none⟩:Addr)∧L.length=S.length∧c2=cy:=by simpa only[Value.slice.injEq] using hv2
     cases hg2;clear hv hv2;have c0:=hcx 0 _ rfl;have d0:=hcy 0 _ rfl;rw[Nat.add_zero] at c0 d0;clear hcx hcy
     have hlt2 :((k+1:Nat):Int)<(L.length:Int):=by omega
     have hk1 :(k:Int)<(L.length:Int):=by omega
     have hs1:IntKind.i64.wrap (((k+1:Nat):Int)-1) =(k:Int):=by rw[IntWalk.i64_in _ (by omega)];omega
     have hs2 :((k+1:Nat):Int)-1 =(k:Int):=by omega
     have HB:=hh_ (HBAD.out k hil)
     have HN:=hh_ (p:=nmB S[k]≠nmB S[k+1]→∀j (hj:j+1<S.length),j+1<k+1+1→nmB S[j]≠nmB S[j+1]) (fun h j hj hjk=>by
      by_cases e:j=k
      ·subst e;exact h
      ·exact Hall.out j hj (by omega))
     have hbe:=H2_ S[k+1].name S[k].name;have HX:=hh_ (show nmB S[k]=S[k].name.data.toList from rfl);have HY:=hh_ (show nmB S[k+1]=S[k+1].name.data.toList from rfl);generalize nmB S[k]=nx at *;generalize nmB S[k+1]=ny at *;generalize S[k]=x at *;generalize S[k+1]=y at *
     by_cases he:nx=ny
     ·rw[dt_ (show y.name.data.toList=x.name.data.toList by rw[←HX.out,←HY.out];exact he.symm)] at hbe
      have HF:=hh_ (HB.out he);clear he HN HB HX HY
      go_wp2_with fail
      go_quiet (fail)
      go_wp2_with fail
      go_ret2
      exact Ck_ HF.out (by decide) (Aa_ HG.out (Ae_ hg _))
     ·rw[df_ (show ¬y.name.data.toList=x.name.data.toList by rw[←HX.out,←HY.out];exact fun e=>he e.symm)] at hbe
      have HN2:=hh_ (HN.out he);clear he HN HB HX HY
      go_wp2_with fail
      go_quiet (fail)
      go_wp2_with fail
      exact⟨⟨k+1+1,by omega,by go_num,by omega,HN2.out,Ae_ hg _⟩,by simp[RowKit.intOf];omega⟩
    ·have HF:=hh_ (HOK.out (fun j hj=>Hall.out j hj (by omega)))
     go_wp2_with fail
     go_ret2
     refine⟨_,by rw[HF.out.1];rfl,?_,Aa_ HG.out hg⟩;rw[if_pos HF.out.1,←HF.out.2];exact HO.out.same hg
theorem Ts_ (s:ByteArray):cellsOf byF s.data.toList=Lib.strCells s:=by
 have:∀l:List UInt8,cellsOf byF l=l.map fun b=>Value.int .u8 b.toNat:=by
  intro l
  induction l with
  | nil=>rfl
  | cons x l ih=>simp only[cellsOf,List.flatMap_cons,List.map_cons] at *;rw[ih];rfl
 rw[this];rfl
theorem bj_ :(Tryz.prog.info? 5).map (fun i=>(i.zero,i.size,i.bytes))=some (some (.int .u8 0),1,1):=by kernel_rfl
theorem J4_ {B:Nat} {w:World} {v:Value} {l:List UInt8} {o:Oper} {a:Act} {ops:Array Oper} {rest:List Oper} {Q:Exit→Act→World→Prop} (hown:Own byF 1 5 B w v l) (s:ByteArray) (hb:l.length+s.size≤140737488355328) (hbase:B≤w.heap.size)
  (hgd:o.guard=none) (sl x:Operand) (ho:o.op=.call { callee:=.builtin .append,args:=#[sl,x],argTypes:=#[63,9] }) (hs:a.eval sl=v) (hx:a.eval x=.string s)
  (h:∀v' w',Own byF 1 5 B w' v' (l++s.data.toList)→w.grownBy w' v.ownBlock→wpList Tryz.prog ops Q rest (a.put o.dst v') w'):wpList Tryz.prog ops Q (o::rest) a w:=by
 obtain⟨i,hi,hz0,hz1,hz2⟩:=info_parts bj_
 refine Lib.wpList_append_own_string w hgd sl x 63 9 ho B 5 i underlying63 underlying9 hi hz0 hz1 hz2 v l.length _ hs hown s hx (by unfold maxLen;omega) hb hbase fun v' w' h1 h2 _=>h v' w' ?_ h2
 unfold Own;rw[Aq_,Ts_,la_];have e:s.data.toList.length=s.size:=Array.length_toList;rw[e];exact h1
end
end Go.Proofs.YtckmgjmeanloaaaGreat
