/- Several texts in one file: contracts of functions of the given program, and plain laws, for the proof of a statement. -/
import Derived.Test.YtckmgjmeanloaaaGreatBaac
import Derived.Deep.CutBlock
set_option maxHeartbeats 8000000
set_option maxRecDepth 100000
namespace Go.Proofs.YtckmgjmeanloaaaGreat
open Go.Proofs.Tryz
section
open Go.RowKit
def bigs:Nat→List UInt8→Nat
 | 0,_=>0
 | _,[]=>0
 | f+1,b::l=>if 128≤b.toNat then bigs f l+1 else 0
theorem De_:∀(f:Nat) (l:List UInt8),bigs f l≤f∧bigs f l≤l.length
 | 0,_=>by simp[bigs]
 | f+1,[]=>by simp[bigs]
 | f+1,b::l=>by
  have:=De_ f l
  simp only[bigs]
  split
  ·simp;omega
  ·simp
theorem Uv_:∀{f:Nat} {l:List UInt8} {i:Nat} (_:i<bigs f l) (h:i<l.length),128≤l[i].toNat
 | 0,_,_,h,_=>by simp[bigs] at h
 | f+1,[],_,h,_=>by simp[bigs] at h
 | f+1,b::l,0,h,_=>by
  simp only[bigs] at h
  split at h
  ·simpa
  ·omega
 | f+1,b::l,i+1,h,hl=>by
  simp only[bigs] at h
  split at h
  ·have:=Uv_ (f:=f) (l:=l) (i:=i) (by omega) (by simpa using hl)
   simpa using this
  ·omega
theorem St_:∀{f:Nat} {l:List UInt8} (_:bigs f l<f) (h:bigs f l<l.length),l[bigs f l].toNat<128
 | 0,_,h,_=>by omega
 | f+1,[],_,h=>by simp at h
 | f+1,b::l,h,hl=>by
  by_cases hb:128≤b.toNat
  ·have e:bigs (f+1) (b::l)=bigs f l+1:=by simp[bigs,hb]
   have:=St_ (f:=f) (l:=l) (by omega) (by rw[e] at hl;simpa using hl)
   simpa [e] using this
  ·have e:bigs (f+1) (b::l)=0:=by simp[bigs,hb]
   simp only[e,List.getElem_cons_zero];omega
def valU:List UInt8→Nat
 | []=>0
 | b::l=>b.toNat%128+128*valU l
theorem T8_ (l:List UInt8) (b:UInt8):valU (l++[b])=valU l+b.toNat%128*128 ^ l.length:=by
 induction l with
 | nil=>simp[valU]
 | cons a l ih=>
  simp only[List.cons_append,valU,ih,lc_,Nat.pow_succ];rw[Nat.mul_add,Nat.add_assoc]
  congr 2
  rw[Nat.mul_comm (128 ^ l.length) 128,←Nat.mul_assoc,←Nat.mul_assoc,Nat.mul_comm 128]
theorem dx_ (l:List UInt8):valU l<128 ^ l.length:=by
 induction l with
 | nil=>simp[valU]
 | cons b l ih=>
  simp only[valU,lc_,Nat.pow_succ]
  have:b.toNat%128<128:=Nat.mod_lt _ (by omega)
  omega
def readF (l:List UInt8):Nat×Nat×Int:=
 if bigs 10 l=10 then (0,0,3)
 else match l[bigs 10 l]? with
  | none=>(0,0,2)
  | some b=>if (bigs 10 l=9∧1<b.toNat)∨(0<bigs 10 l∧b.toNat=0) then (0,0,3) else (valU (l.take (bigs 10 l+1)),bigs 10 l+1,0)
theorem Dp_ {l:List UInt8} (h:bigs 10 l=10):readF l =(0,0,3):=by unfold readF;rw[if_pos h]
theorem Df_ {l:List UInt8} (h:bigs 10 l≠10) (h2:l.length=bigs 10 l):readF l =(0,0,2):=by
 unfold readF;rw[if_neg h,List.getElem?_eq_none (by omega)]
theorem Di_ {l:List UInt8} (h:bigs 10 l≠10) (h2:bigs 10 l<l.length) (h3 :(bigs 10 l=9∧1<l[bigs 10 l].toNat)∨(0<bigs 10 l∧l[bigs 10 l].toNat=0)):readF l =(0,0,3):=by
 unfold readF;rw[if_neg h,gq_ h2];simp only;rw[if_pos h3]
theorem Fd_ {l:List UInt8} (h:bigs 10 l≠10) (h2:bigs 10 l<l.length) (h3:¬((bigs 10 l=9∧1<l[bigs 10 l].toNat)∨(0<bigs 10 l∧l[bigs 10 l].toNat=0))):readF l =(valU (l.take (bigs 10 l+1)),bigs 10 l+1,0):=by
 unfold readF;rw[if_neg h,gq_ h2];simp only;rw[if_neg h3]
theorem Fp_ (l:List UInt8) :(readF l).2.1≤l.length:=by
 unfold readF
 split
 ·simp
 ·split
  ·simp
  ·rename_i b hb
   have:=(gs_ hb).1
   split <;> simp;omega
theorem Ek_ (l:List UInt8) :(readF l).1<18446744073709551616:=by
 by_cases h:bigs 10 l=10
 ·rw[Dp_ h];simp
 by_cases h2:bigs 10 l<l.length
 ·by_cases h3 :(bigs 10 l=9∧1<l[bigs 10 l].toNat)∨(0<bigs 10 l∧l[bigs 10 l].toNat=0)
  ·rw[Di_ h h2 h3];simp
  ·rw[Fd_ h h2 h3]
   show valU (l.take (bigs 10 l+1))<_
   rw[tg_ h2,T8_];have hb:=De_ 10 l
   have hb9:bigs 10 l=9→l[bigs 10 l].toNat≤1:=fun h9=>Nat.le_of_not_lt fun hc=>h3 (.inl ⟨h9,hc⟩)
   clear h3;have hv:=dx_ (l.take (bigs 10 l))
   have hl :(l.take (bigs 10 l)).length=bigs 10 l:=by rw[lk_];omega
   rw[hl] at hv ⊢;generalize l[bigs 10 l]=b at *;generalize valU (l.take (bigs 10 l))=V at *;have hbl:b.toNat%128<128:=Nat.mod_lt _ (by omega);generalize bigs 10 l=m at *
   by_cases h9:m=9
   ·have hb1:=hb9 h9
    subst h9
    have e :(128:Nat) ^ 9=9223372036854775808:=by decide
    rw[Nat.mod_eq_of_lt (show b.toNat<128 by omega)];rw[e] at hv ⊢
    omega
   ·have hp:128 ^ m≤128 ^ 8:=Nat.pow_le_pow_right (by omega) (by omega)
    have e :(128:Nat) ^ 8=72057594037927936:=by decide
    have hq:b.toNat%128*128 ^ m≤127*128 ^ 8:=Nat.mul_le_mul (by omega) hp;rw[e] at hp hq
    omega
 ·rw[Df_ h (by have:=De_ 10 l;omega)];simp
end
section
open Go.RowKit Go.Sort
theorem G3_ (l:List UInt8) (k:Nat):valU (l.drop k)≤valU l:=by
 induction l generalizing k with
 | nil=>simp
 | cons b l ih=>
  cases k with
  | zero=>simp
  | succ k=>
   have:=ih k
   simp only[List.drop_succ_cons,valU];omega
theorem Mu_ (v:Value) (l:List UInt8) (w:World) (h:RdL byF 1 w v l):Calls Tryz.prog 81 #[v] w (B8_ (.tuple #[.int .u64 (readF l).1,.int .i64 (readF l).2.1,.int .i64 (readF l).2.2]) w):=by
 obtain⟨a,c,rfl⟩:=h.shape;have hm:=h.2.1;have H:=hh_ h;have hM:=De_ 10 l;have HT:=hh_ (Dp_ (l:=l));have HSh:=hh_ (Df_ (l:=l));have HBd:=hh_ (Di_ (l:=l));have HOk:=hh_ (Fd_ (l:=l));have HW:=hh_ (Ek_ l)
 have HL:=hh_ fun i (h1:i<bigs 10 l) (h2:i<l.length)=>Uv_ h1 h2
 have HA:=hh_ fun(h1:bigs 10 l<10) (h2:bigs 10 l<l.length)=>St_ h1 h2
 clear h;generalize readF l=F at *;generalize bigs 10 l=M at *
 go_enter func81,ntmps81
 go_wp2
 go_loopw [5] (fun s5 wk=>∃i:Nat,i≤M∧s5=.int .i64 i∧w.grownBy wk none) (fun s5 _=>10-(RowKit.intOf s5).toNat)
 case atStart=>exact⟨0,zl_ _,rfl,Ab_ _ _⟩
 case round=>
  obtain⟨i,hi,rfl,hg⟩:=hrel
  by_cases hiM:i<M
  ·have hil:i<l.length:=by omega
   obtain⟨g,off,cap,hv,hgl,ci⟩:=(RdL.same H.out hg).one K5_ hil;cases hv;have hb:=HL.out i hiM hil
   have hb2 :(128:Int)≤(l[i].toNat:Int):=by omega
   generalize l[i]=b at *
   have hi0 :(0:Int)≤(i:Int):=by omega
   have hil2 :(i:Int)<(l.length:Int):=by omega
   have hi102 :(i:Int)<10:=by omega
   go_wp2_with fail
   exact⟨⟨i+1,by omega,by go_num,hg⟩,by simp[RowKit.intOf];omega⟩
  ·obtain rfl:i=M:=by omega
   by_cases h10:i=10
   ·have HF:=hh_ (HT.out h10)
    subst h10
    by_cases hl:10<l.length
    ·have hl2 :(10:Int)<(l.length:Int):=by omega
     go_wp2_with fail
     go_ret3
     exact Bf_ (by rw[HF.out];rfl) hg
    ·have hl2:¬(10:Int)<(l.length:Int):=by omega
     go_wp2_with fail
     go_ret3
     exact Bf_ (by rw[HF.out];rfl) hg
   ·by_cases hil:i<l.length
    ·obtain⟨g,off,cap,hv,hgl,ci⟩:=(RdL.same H.out hg).one K5_ hil
     cases hv;have hb:=HA.out (by omega) hil
     have hb2 :(l[i].toNat:Int)<128:=by omega
     have hb0 :(0:Int)≤(l[i].toNat:Int):=by omega
     by_cases hbad :(i=9∧1<l[i].toNat)∨(0<i∧l[i].toNat=0)
     ·have HF:=hh_ (HBd.out (by omega) hil hbad)
      rcases hbad with⟨h9,h1⟩ |⟨h0,h1⟩
      ·subst h9
       have h1' :(1:Int)<(l[9].toNat:Int):=by omega
       have hl9 :(9:Int)<(l.length:Int):=by omega
       clear h10 hb h1 HW HOk HBd HA HL HSh HT;generalize l[9]=b at *
       go_wp2_with fail
       go_ret3
       exact Bf_ (by rw[HF.out];rfl) hg
      ·have h1' :(l[i].toNat:Int)≤0:=by omega
       have hbz :((l[i].toNat:Int)==0)=true:=by rw[beq_iff_eq];omega
       have hi0 :(0:Int)<(i:Int):=by omega
       have hil2 :(i:Int)<(l.length:Int):=by omega
       have hi102 :(i:Int)<10:=by omega
       clear h10 hb h1 HW HOk HBd HA HL HSh HT
       by_cases h9:i=9
       ·subst h9
        generalize l[9]=b at *
        go_wp2_with fail
        go_ret3
        exact Bf_ (by rw[HF.out];rfl) hg
       ·have h9':¬((i:Int)=9):=by omega
        generalize l[i]=b at *
        go_wp2_with fail
        go_ret3
        exact Bf_ (by rw[HF.out];rfl) hg
     ·have hil2 :(i:Int)<(l.length:Int):=by omega
      have hi102 :(i:Int)<10:=by omega
      by_cases h9:i=9
      ·subst h9
       have h1':¬(1:Int)<(l[9].toNat:Int):=by omega
       have h1'' :((l[9].toNat:Int)==0)=false:=by rw[beq_eq_false_iff_ne];omega
       have HF:=hh_ (HOk.out (by omega) hil (by omega));have hTw:=HW.out;rw[HF.out] at hTw;have HTw:=hh_ (show valU (l.take (9+1))<18446744073709551616 from hTw);clear hTw
       go_wp2_with fail
       go_loopw [2,6] (fun s2 s6 wk=>∃j:Nat,j≤9+1∧s6=.int .i64 ((9:Nat)-(j:Int))∧s2=.int .u64 (valU ((l.take (9+1)).drop (9+1-j)))∧w.grownBy wk none) (fun _ s6 _=>((RowKit.intOf s6)+1).toNat)
       case atStart=>exact⟨0,zl_ _,by go_num,by rw[List.drop_of_length_le (by rw[lk_];omega)];rfl,hg⟩
       case round=>
        obtain⟨j,hj,rfl,rfl,hgj⟩:=hrel
        by_cases hjM:j≤9
        ·have hk:9-j<l.length:=by omega
         obtain⟨g2,off2,cap2,hv2,hgl2,cj⟩:=(RdL.same H.out hgj).one K5_ hk;cases hv2
         have hst :(l.take (9+1)).drop (9+1-(j+1))=l[9-j]::(l.take (9+1)).drop (9+1-j):=by
          rw[show 9+1-(j+1)=9-j by omega,List.drop_eq_getElem_cons (by rw[lk_];omega)]
          congr 1
          ·simp
          ·congr 1;omega
         have hle:=G3_ (l.take (9+1)) (9+1-(j+1));rw[hst] at hle;have HST:=hh_ hst;have hTw:=HTw.out;have hbt:=(l[9-j]).toNat_lt;simp only[valU] at hle;have hw1:IntKind.u64.wrap (((l[9-j]).toNat:Int)%128) =((l[9-j]).toNat:Int)%128:=IntWalk.u64_in _ (by omega);have hw2:IntKind.u64.wrap ((valU ((l.take (9+1)).drop (9+1-j)):Int)*128) =(valU ((l.take (9+1)).drop (9+1-j)):Int)*128:=IntWalk.u64_in _ (by omega);have hw3:IntKind.u64.wrap ((valU ((l.take (9+1)).drop (9+1-j)):Int)*128+((l[9-j]).toNat:Int)%128) =(valU ((l.take (9+1)).drop (9+1-j)):Int)*128+((l[9-j]).toNat:Int)%128:=IntWalk.u64_in _ (by omega)
         have hij :((9:Nat):Int)-(j:Int) =((9-j:Nat):Int):=by omega
         rw[hij];have HIJ:=hh_ hij;clear hst hle hTw hij;obtain⟨V1,hV1⟩:∃V1,valU ((l.take (9+1)).drop (9+1-j))=V1:=⟨_,rfl⟩;rw[hV1] at hw2 hw3 ⊢;have HV1:=hh_ hV1;clear hV1;generalize l[9-j]=b2 at *
         (try rw[Nat.zero_sub,Nat.add_zero] at cj)
         have hk0 :(0:Int)≤((9-j:Nat):Int):=by omega
         have hk1 :((9-j:Nat):Int)<(l.length:Int):=by omega
         go_wp2_with fail
         exact⟨⟨j+1,by omega,congrArg _ (by omega),congrArg _ (by rw[HST.out];simp only[valU];rw[HV1.out];omega),hgj⟩,by simp[RowKit.intOf] <;> omega⟩
        ·obtain rfl:j=9+1:=by omega
         have hz :((9:Nat):Int)-((9+1:Nat):Int)=-1:=by omega
         rw[hz];clear hz
         go_wp2_with fail
         go_ret3
         exact Bf_ (by rw[HF.out];simp) hgj
      ·have h9':¬((i:Int)=9):=by omega
       by_cases h0:i=0
       ·subst h0
        rw[Nat.add_zero] at ci;have HF:=hh_ (HOk.out (by omega) hil (by omega));have hTw:=HW.out;rw[HF.out] at hTw;have HTw:=hh_ (show valU (l.take (0+1))<18446744073709551616 from hTw);clear hTw
        go_wp2_with fail
        go_loopw [2,6] (fun s2 s6 wk=>∃j:Nat,j≤0+1∧s6=.int .i64 ((0:Nat)-(j:Int))∧s2=.int .u64 (valU ((l.take (0+1)).drop (0+1-j)))∧w.grownBy wk none) (fun _ s6 _=>((RowKit.intOf s6)+1).toNat)
        case atStart=>exact⟨0,zl_ _,by go_num,by rw[List.drop_of_length_le (by rw[lk_];omega)];rfl,hg⟩
        case round=>
         obtain⟨j,hj,rfl,rfl,hgj⟩:=hrel
         by_cases hjM:j≤0
         ·have hk:0-j<l.length:=by omega
          obtain⟨g2,off2,cap2,hv2,hgl2,cj⟩:=(RdL.same H.out hgj).one K5_ hk;cases hv2
          have hst :(l.take (0+1)).drop (0+1-(j+1))=l[0-j]::(l.take (0+1)).drop (0+1-j):=by
           rw[show 0+1-(j+1)=0-j by omega,List.drop_eq_getElem_cons (by rw[lk_];omega)]
           congr 1
           ·simp
           ·congr 1;omega
          have hle:=G3_ (l.take (0+1)) (0+1-(j+1));rw[hst] at hle;have HST:=hh_ hst;have hTw:=HTw.out;have hbt:=(l[0-j]).toNat_lt;simp only[valU] at hle;have hw1:IntKind.u64.wrap (((l[0-j]).toNat:Int)%128) =((l[0-j]).toNat:Int)%128:=IntWalk.u64_in _ (by omega);have hw2:IntKind.u64.wrap ((valU ((l.take (0+1)).drop (0+1-j)):Int)*128) =(valU ((l.take (0+1)).drop (0+1-j)):Int)*128:=IntWalk.u64_in _ (by omega);have hw3:IntKind.u64.wrap ((valU ((l.take (0+1)).drop (0+1-j)):Int)*128+((l[0-j]).toNat:Int)%128) =(valU ((l.take (0+1)).drop (0+1-j)):Int)*128+((l[0-j]).toNat:Int)%128:=IntWalk.u64_in _ (by omega)
          have hij :((0:Nat):Int)-(j:Int) =((0-j:Nat):Int):=by omega
          rw[hij];have HIJ:=hh_ hij;clear hst hle hTw hij;obtain⟨V1,hV1⟩:∃V1,valU ((l.take (0+1)).drop (0+1-j))=V1:=⟨_,rfl⟩;rw[hV1] at hw2 hw3 ⊢;have HV1:=hh_ hV1;clear hV1;generalize l[0-j]=b2 at *
          (try rw[Nat.zero_sub,Nat.add_zero] at cj)
          have hk0 :(0:Int)≤((0-j:Nat):Int):=by omega
          have hk1 :((0-j:Nat):Int)<(l.length:Int):=by omega
          go_wp2_with fail
          exact⟨⟨j+1,by omega,congrArg _ (by omega),congrArg _ (by rw[HST.out];simp only[valU];rw[HV1.out];omega),hgj⟩,by simp[RowKit.intOf] <;> omega⟩
         ·obtain rfl:j=0+1:=by omega
          have hz :((0:Nat):Int)-((0+1:Nat):Int)=-1:=by omega
          rw[hz];clear hz
          go_wp2_with fail
          go_ret3
          exact Bf_ (by rw[HF.out];simp) hgj
       ·have h0' :(0:Int)<(i:Int):=by omega
        have h1'' :((l[i].toNat:Int)==0)=false:=by rw[beq_eq_false_iff_ne];omega
        have HF:=hh_ (HOk.out (by omega) hil (by omega));have hTw:=HW.out;rw[HF.out] at hTw;have HTw:=hh_ (show valU (l.take (i+1))<18446744073709551616 from hTw);clear hTw
        go_wp2_with fail
        go_loopw [2,6] (fun s2 s6 wk=>∃j:Nat,j≤i+1∧s6=.int .i64 ((i:Nat)-(j:Int))∧s2=.int .u64 (valU ((l.take (i+1)).drop (i+1-j)))∧w.grownBy wk none) (fun _ s6 _=>((RowKit.intOf s6)+1).toNat)
        case atStart=>exact⟨0,zl_ _,by go_num,by rw[List.drop_of_length_le (by rw[lk_];omega)];rfl,hg⟩
        case round=>
         obtain⟨j,hj,rfl,rfl,hgj⟩:=hrel
         by_cases hjM:j≤i
         ·have hk:i-j<l.length:=by omega
          obtain⟨g2,off2,cap2,hv2,hgl2,cj⟩:=(RdL.same H.out hgj).one K5_ hk;cases hv2
          have hst :(l.take (i+1)).drop (i+1-(j+1))=l[i-j]::(l.take (i+1)).drop (i+1-j):=by
           rw[show i+1-(j+1)=i-j by omega,List.drop_eq_getElem_cons (by rw[lk_];omega)]
           congr 1
           ·simp
           ·congr 1;omega
          have hle:=G3_ (l.take (i+1)) (i+1-(j+1));rw[hst] at hle;have HST:=hh_ hst;have hTw:=HTw.out;have hbt:=(l[i-j]).toNat_lt;simp only[valU] at hle;have hw1:IntKind.u64.wrap (((l[i-j]).toNat:Int)%128) =((l[i-j]).toNat:Int)%128:=IntWalk.u64_in _ (by omega);have hw2:IntKind.u64.wrap ((valU ((l.take (i+1)).drop (i+1-j)):Int)*128) =(valU ((l.take (i+1)).drop (i+1-j)):Int)*128:=IntWalk.u64_in _ (by omega);have hw3:IntKind.u64.wrap ((valU ((l.take (i+1)).drop (i+1-j)):Int)*128+((l[i-j]).toNat:Int)%128) =(valU ((l.take (i+1)).drop (i+1-j)):Int)*128+((l[i-j]).toNat:Int)%128:=IntWalk.u64_in _ (by omega)
          have hij :((i:Nat):Int)-(j:Int) =((i-j:Nat):Int):=by omega
          rw[hij];have HIJ:=hh_ hij;clear hst hle hTw hij;obtain⟨V1,hV1⟩:∃V1,valU ((l.take (i+1)).drop (i+1-j))=V1:=⟨_,rfl⟩;rw[hV1] at hw2 hw3 ⊢;have HV1:=hh_ hV1;clear hV1;generalize l[i-j]=b2 at *
          (try rw[Nat.zero_sub,Nat.add_zero] at cj)
          have hk0 :(0:Int)≤((i-j:Nat):Int):=by omega
          have hk1 :((i-j:Nat):Int)<(l.length:Int):=by omega
          go_wp2_with fail
          exact⟨⟨j+1,by omega,congrArg _ (by omega),congrArg _ (by rw[HST.out];simp only[valU];rw[HV1.out];omega),hgj⟩,by simp[RowKit.intOf] <;> omega⟩
         ·obtain rfl:j=i+1:=by omega
          have hz :((i:Nat):Int)-((i+1:Nat):Int)=-1:=by omega
          rw[hz];clear hz
          go_wp2_with fail
          go_ret3
          exact Bf_ (by rw[HF.out];simp) hgj
    ·have HF:=hh_ (HSh.out (by omega) (by omega))
     obtain rfl:i=l.length:=by omega
     have h10':¬((l.length:Int)=10):=by omega
     go_wp2_with fail
     go_ret3
     exact Bf_ (by rw[HF.out];rfl) hg
end
section
open Go.RowKit
def numF (most:Nat) (over:Int) (l:List UInt8) (e:Int):Nat×List UInt8×Int:=
 if e≠0 then (0,l,e)
 else if (readF l).2.2≠0 then (0,l,(readF l).2.2)
 else if most<(readF l).1 then (0,l.drop (readF l).2.1,over)
 else ((readF l).1,l.drop (readF l).2.1,0)
abbrev weiF (l:List UInt8) (e:Int):Nat×List UInt8×Int:=numF 18446744073709551615 1 l e
theorem Lg_ (l:List UInt8) (h :(readF l).2.2≠0) :(readF l).1=0∧(readF l).2.1=0∧((readF l).2.2=2∨(readF l).2.2=3):=by
 by_cases h1:bigs 10 l=10
 ·rw[Dp_ h1];simp
 by_cases h2:bigs 10 l<l.length
 ·by_cases h3 :(bigs 10 l=9∧1<l[bigs 10 l].toNat)∨(0<bigs 10 l∧l[bigs 10 l].toNat=0)
  ·rw[Di_ h1 h2 h3];simp
  ·rw[Fd_ h1 h2 h3] at h;simp at h
 ·rw[Df_ h1 (by have:=De_ 10 l;omega)];simp
theorem Te_ {most:Nat} {over:Int} {l:List UInt8} {e:Int} :(numF most over l e).1<18446744073709551616∧(numF most over l e).1≤most:=by
 have:=Ek_ l
 unfold numF
 split
 ·simp
 ·split
  ·simp
  ·split
   ·simp
   ·simp;omega
theorem Cl_ {most:Nat} {over:Int} {l:List UInt8} {e:Int} :(numF most over l e).2.1.length≤l.length:=by
 unfold numF
 split
 ·exact le_ _
 ·split
  ·exact le_ _
  ·split <;> simp
end
section
open Go.RowKit Go.Sort
structure Rdr (B:Nat) (w:World) (g:Nat) (l:List UInt8) (e:Int):Prop where
 ex:∃a c,Blk w g #[.slice a l.length c,.int .i64 e]∧RdL byF 1 w (.slice a l.length c) l∧l.length≤c∧∀ad,a=some ad→0<l.length→ad.block<B
 hg:B≤g
theorem Do_ {α:Type} {f:α→List Value} {s:Nat} {w w':World} {a:Option Addr} {n c:Nat} {l:List α} {r:Option Nat} {B:Nat} (h:RdL f s w (.slice a n c) l) (hg:w.grownBy w' r) (ha:∀ad,a=some ad→0<l.length→ad.block<B) (hr:∀k,r=some k→B≤k):RdL f s w' (.slice a n c) l:=by
 cases r with
 | none=>exact h.same hg
 | some k=>exact Rd.kept0 h hg fun h0 q e a' n' c' hv=>by cases e;cases hv;have:=ha _ rfl h0;have:=hr k rfl;omega
theorem Rdr.kept {B:Nat} {w w':World} {g:Nat} {l:List UInt8} {e:Int} {r:Option Nat} (h:Rdr B w g l e) (hg:w.grownBy w' r) (hr:r≠some g) (hB:∀k,r=some k→B≤k):Rdr B w' g l e:=by
 obtain⟨a,c,h1,h2,h3,h4⟩:=h.ex;exact⟨⟨a,c,h1.kept hg hr,Do_ h2 hg h4 hB,h3,h4⟩,h.hg⟩
theorem Rdr.same {B:Nat} {w w':World} {g:Nat} {l:List UInt8} {e:Int} (h:Rdr B w g l e) (hg:w.grownBy w' none):Rdr B w' g l e:=h.kept hg (by simp) (by simp)
theorem Ld_ (ad:Addr) (k:Nat) :(ad.add k).block=ad.block:=by unfold Addr.add;split <;> rfl
theorem Rdr.setE {B:Nat} {w:World} {g:Nat} {l:List UInt8} {e:Int} (h:Rdr B w g l e) (f:Int):Rdr B (w.setCell ⟨g,1,none⟩ (.int .i64 f)) g l f∧w.grownBy (w.setCell ⟨g,1,none⟩ (.int .i64 f)) (some g):=by
 obtain⟨a,c,h1,h2,h3,h4⟩:=h.ex;have hg:w.grownBy (w.setCell ⟨g,1,none⟩ (.int .i64 f)) (some g):=Ac_ (Ab_ w (some g)) 1 (.int .i64 f);exact⟨⟨⟨a,c,h1.set_ 1 _ rfl,Do_ h2 hg h4 (fun k e=>by cases e;exact h.hg),h3,h4⟩,h.hg⟩,hg⟩
theorem Rdr.setB {B:Nat} {w:World} {g:Nat} {l:List UInt8} {e:Int} {a:Option Addr} {c:Nat} (h1:Blk w g #[.slice a l.length c,.int .i64 e]) (h2:RdL byF 1 w (.slice a l.length c) l) (h3:l.length≤c) (h4:∀ad,a=some ad→0<l.length→ad.block<B) (hB:B≤g) {k:Nat} (hk:k≤l.length) :
  Rdr B (w.setCell ⟨g,0,none⟩ (.slice (if c=k then a else a.map (·.add k)) (l.length-k) (c-k))) g (l.drop k) e∧w.grownBy (w.setCell ⟨g,0,none⟩ (.slice (if c=k then a else a.map (·.add k)) (l.length-k) (c-k))) (some g):=by
 have h5:=RdL.drop Bl_ h2 hk h3 (c-k);rw[Nat.mul_one] at h5;have hg:w.grownBy (w.setCell ⟨g,0,none⟩ (.slice (if c=k then a else a.map (·.add k)) (l.length-k) (c-k))) (some g):=Ac_ (Ab_ w (some g)) 0 _
 have h6:∀ad,(if c=k then a else a.map (·.add k))=some ad→0<(l.drop k).length→ad.block<B:=by
  intro ad e h0
  have h0':0<l.length:=by rw[List.length_drop] at h0;omega
  split at e
  ·exact h4 ad e h0'
  ·obtain⟨x,hx,rfl⟩:=Option.map_eq_some_iff.1 e
   rw[Ld_];exact h4 x hx h0'
 generalize (if c=k then a else a.map (·.add k))=a' at *;have hl :(l.drop k).length=l.length-k:=List.length_drop;refine⟨⟨⟨a',c-k,?_,?_,by omega,h6⟩,hB⟩,hg⟩
 ·rw[hl];exact h1.set_ 0 _ rfl
 ·rw[hl];exact Do_ h5 hg h6 fun k e=>by cases e;exact hB
theorem Vt_ {l:List UInt8} {a:Option Addr} {n c:Nat} {w:World} (h:RdL byF 1 w (.slice a n c) l) :(convert 63 9 (.slice a n c)).run Tryz.prog w=.ok (.string ⟨l.toArray⟩) w:=by
 obtain⟨a',c',hv⟩:=Rd.shape h;cases hv
 rcases h.2.2 with⟨h0,_⟩ |⟨g,off,cap,hv,_,hc⟩
 ·obtain rfl:l=[]:=List.eq_nil_of_length_eq_zero h0
  cases a with
  | none=>exact run_convert_bytes_nil w 63 5 underlying63 underlying5 0 c _ underlying9
  | some ad=>
   rw[run_convert_bytes_string w 63 9 5 _ _ c underlying63 underlying5 underlying9];rw[show([]:List UInt8).length=0 from rfl,run_bytesToString w ad 0 c []]
   ·rfl
   ·exact run_loadCells_list w ad [] (fun j v hv=>by simp at hv)
 ·cases hv
  have hcl:∀i,i<l.length→w.cell? ⟨g,off+i,none⟩=some (.int .u8 ((l.map fun b=>(b.toNat:Int)).getD i 0)):=by
   intro i hi
   have e:∀(l:List UInt8) (i:Nat),i<l.length→(cellsOf byF l)[i]?=some (.int .u8 ((l.map fun b=>(b.toNat:Int)).getD i 0)):=by
    intro l
    induction l with
    | nil=>intro i hi;simp at hi
    | cons b l ih=>
     intro i hi
     cases i with
     | zero=>simp[cellsOf,byF]
     | succ i=>
      have:=ih i (by simpa using hi)
      simpa [cellsOf,byF] using this
   exact hc i _ (e l i hi)
  rw[run_convert_bytes_arg w 63 5 underlying63 underlying5 g off l.length c (l.map fun b=>(b.toNat:Int)) (by simp) hcl _ underlying9]
  congr 2
  unfold strOfNums
  congr 2
  rw[List.map_map]
  conv=>rhs;rw[←List.map_id l]
  apply List.map_congr_left
  intro b _
  simp
def NumP (B g:Nat) (w:World) (F:Nat×List UInt8×Int) (en:Ending) (w':World):Prop:=
 en=.returned (.int .u64 F.1)∧Rdr B w' g F.2.1 F.2.2∧w.grownBy w' (some g)
theorem Rdr.new {w:World} {g:Nat} {l:List UInt8} {a:Option Addr} {c:Nat} {w':World} (hr:RdL byF 1 w (.slice a l.length c) l) (hc:l.length≤c) (hb:Blk w' g #[.slice a l.length c,.int .i64 0]) (hg:w.grownBy w' none) (hB:w.heap.size≤g):Rdr w.heap.size w' g l 0:=
 ⟨⟨a,c,hb,hr.same hg,hc,fun ad e h0=>by subst e;exact Rd.blockLt hr h0 _ _ _ rfl⟩,hB⟩
end
section
open Go.RowKit Go.Sort
structure KyS (w0:World) (gk:Nat) (x:TagR) (v:Value) (l:List UInt8) (w:World):Prop where
 own:Own byF 1 5 w0.heap.size w v l
 blk:Blk w gk #[.string x.name,.string x.value]
 G:w0.grownBy w none
 ne:∀k,v.ownBlock=some k→k≠gk
theorem Qc_ {B gk:Nat} {w:World} {v:Value} {l:List UInt8} {s:ByteArray} (h:Own byF 1 5 B w v l) (hl:0<l.length) (hA:w.cell? ⟨gk,0,none⟩=some (.string s)):∀k,v.ownBlock=some k→k≠gk:=by
 obtain⟨g,cap,rfl,-,-,-,hcx,-⟩:=h.at_ Bl_ hl;intro k hk e;have c0:=hcx 0 _ rfl
 have:g=k:=by simpa [Value.ownBlock] using hk
 subst this;subst e;rw[Nat.zero_mul,Nat.add_zero,hA] at c0;cases c0
section
variable {w0 w w':World} {gk:Nat} {x:TagR} {v v':Value} {l l':List UInt8}
theorem KyS.grown (h:KyS w0 gk x v l w) (hg:w.grownBy w' v.ownBlock):w0.grownBy w' none:=Ao_ h.G h.own (le_ _) hg
theorem KyS.next (h:KyS w0 gk x v l w) (o:Own byF 1 5 w0.heap.size w' v' l') (hl:0<l'.length) (hg:w.grownBy w' v.ownBlock):KyS w0 gk x v' l' w':=by
 have hb:=h.blk.kept hg (fun e=>h.ne gk e rfl);exact⟨o,hb,h.grown hg,Qc_ o hl (by rw[hb.cell];rfl)⟩
end
theorem szB (s:ByteArray):s.data.toList.length=s.size:=Array.length_toList
theorem ee_ (v:Value) (L:List TagR) (w:World) (h:RdL tagF 2 w v L) (hW:∀t∈L,TagW t):Calls Tryz.prog 65 #[v] w (KeyP L w):=by
 obtain⟨a,c,rfl⟩:=h.shape;have C:=hh_ (c8_ _ L w h hW);have HK:=hh_ (show keyE L=if sortE L≠0 then sortE L else if 255<(kyB (sortT L)).length then 4 else 0 from rfl);have HY:=hh_ (show keyY L=if keyE L=0 then ⟨(kyB (sortT L)).toArray⟩ else ⟨#[]⟩ from rfl);have H0:=hh_ (Ol_ (L:=L));have Hlen:=hh_ (E9_ L);have HM:=hh_ (Ch_ L);clear h hW
 go_enter func65,ntmps65
 by_cases hE:sortE L=0
 ·have C2:=C.out
  unfold Nk_ at C2;rw[hE,if_pos rfl] at C2;have C3:=hh_ C2;obtain⟨h0,h8,ht,-⟩:=H0.out hE;have HK2:=hh_ (HK.out.trans (if_neg (by omega)));have HT:=hh_ (fun t h=>Rm_ (ht t ((HM.out t).1 h)):∀t∈sortT L,_);clear C C2 HK H0 HM ht hE;generalize sortT L=S at *
  have hSl :(S.length:Int)≤8:=by have:=Hlen.out;omega
  go_upto_region 6 with(go_at_call 103;refine C3.out.mono ?_;rintro e w2 ⟨v2,rfl,o2,g2⟩;obtain⟨a2,c2,rfl⟩:=o2.shape)
  have HO:=hh_ o2;have HG:=hh_ g2;clear o2 g2
  go_loopw [19,6] (fun s19 s6 wk=>∃(k:Nat),k≤S.length∧s19=.int .i64 k∧Own byF 1 5 w2.heap.size wk s6 (kyB (S.take k))∧(kyB (S.take k)).length≤98*k∧w2.grownBy wk none) (fun s19 _ _=>S.length-(RowKit.intOf s19).toNat)
  case atStart=>exact⟨0,zl_ _,rfl,Own.nil _ _ _ _ _,by simp[kyB],Ab_ _ _⟩
  case round=>
   obtain⟨k,hk,rfl,hO,hOl,hg⟩:=hrel
   by_cases hlt:k<S.length
   ·obtain⟨gx,ox,cx,hv,hgx,hcx⟩:=(RdL.same HO.out.rd hg).at_ Av_ hlt
    cases hv;have c0:=hcx 0 _ rfl;have c1:=hcx 1 _ rfl;rw[Nat.add_zero] at c0;obtain⟨-,-,hn32,hv64⟩:=HT.out _ (mg_ hlt);have HS:=hh_ (show kyB (S.take (k+1))=kyB (S.take k)++tkB S[k] by rw[tg_ hlt,P6_]);clear hcx;generalize S[k]=x at *;generalize kyB (S.take k)=O at *;have hw1:=I0_ (n:=x.name.size);have hw2:=I0_ (n:=x.value.size);have HB:=hh_ (show tkB x=UInt8.ofNat x.name.size::nmB x++(UInt8.ofNat x.value.size::vlB x) from rfl);obtain⟨b1,hb1⟩:∃b,UInt8.ofNat x.name.size=b:=⟨_,rfl⟩;obtain⟨b2,hb2⟩:∃b,UInt8.ofNat x.value.size=b:=⟨_,rfl⟩;rw[hb1] at hw1 HB;rw[hb2] at hw2 HB;clear hb1 hb2;have Hcs1:=hh_ (show(#[Value.int .u8 (b1.toNat:Int)]:Array Value).toList=byF b1 from rfl);have Hcs2:=hh_ (show(#[Value.int .u8 (b2.toNat:Int)]:Array Value).toList=byF b2 from rfl);obtain⟨oa,oc,rfl⟩:=hO.shape;have hol:=hO.lt
    go_upto_region 8 with fail
    have S0:KyS w2 wr.heap.size x (.slice oa O.length oc) O (wr.alloc (.cells #[.string x.name,.string x.value] 53)):=
     ⟨hO.same (ga_ _ _ _),Blk.new _ _ _,Ad_ hg _,fun k hk e=>by have:=(hol k hk).2;omega⟩
    generalize wr.alloc _=e0 at *;generalize wr.heap.size=gk at *;clear hO hol hg c0 c1 hgx;have a0:=S0.blk.cell
    have hb1 :(O.length+1)*1≤140737488355328:=by omega
    have hb2:O.length+1≤9223372036854775807:=by omega
    have hz:=S0.G.size
    go_upto_region 9 with(at_builtin;refine A6_ Dj_ Dy_ Bl_ S0.own b1 hb1 hb2 hz Hcs1.out (by rfl) _ _ (by rfl) (by rfl) (by rfl) ?_;intro v3 e1 o3 g3 l3)
    have S1:=S0.next o3 (by simp) g3;clear S0 a0 o3 g3 l3 hb1 hb2 hz
    have hL1 :(O++[b1]).length=O.length+1:=by simp
    generalize hO1:O++[b1]=O1 at *;have HE1:=hh_ hO1.symm;clear hO1;obtain⟨oa1,oc1,rfl⟩:=S1.own.shape;have a0:=S1.blk.cell
    have hb1:O1.length+x.name.size≤140737488355328:=by omega
    have hz:=S1.G.size
    go_upto_region 10 with(at_builtin;refine J4_ S1.own x.name hb1 hz (by rfl) _ _ (by rfl) (by rfl) (by rfl) ?_;intro v4 e2 o4 g4)
    have S2:=S1.next o4 (by simp;omega) g4
    have hL2 :(O1++x.name.data.toList).length=O1.length+x.name.size:=by rw[la_,szB]
    have HE2:=hh_ (show O1++x.name.data.toList=O1++nmB x from rfl);clear S1 a0 o4 g4 hb1 hz;generalize O1++x.name.data.toList=O2 at *;obtain⟨oa2,oc2,rfl⟩:=S2.own.shape;have a0:=S2.blk.cell
    have hb1 :(O2.length+1)*1≤140737488355328:=by omega
    have hb2:O2.length+1≤9223372036854775807:=by omega
    have hz:=S2.G.size
    go_upto_region 11 with(at_builtin;refine A6_ Dj_ Dy_ Bl_ S2.own b2 hb1 hb2 hz Hcs2.out (by rfl) _ _ (by rfl) (by rfl) (by rfl) ?_;intro v5 e3 o5 g5 l5)
    have S3:=S2.next o5 (by simp) g5
    have hL3 :(O2++[b2]).length=O2.length+1:=by simp
    have HE3:=hh_ (show O2++[b2]=O2++[b2] from rfl);clear S2 a0 o5 g5 l5 hb1 hb2 hz;generalize hO3:O2++[b2]=O3 at *;replace HE3:=hh_ hO3;clear hO3;obtain⟨oa3,oc3,rfl⟩:=S3.own.shape;have a0:=S3.blk.cell
    have hb1:O3.length+x.value.size≤140737488355328:=by omega
    have hz:=S3.G.size
    go_upto_region 12 with(at_builtin;refine J4_ S3.own x.value hb1 hz (by rfl) _ _ (by rfl) (by rfl) (by rfl) ?_;intro v6 e4 o6 g6)
    have o6':=hh_ o6;have G6:=S3.grown g6
    have hL4 :(O3++x.value.data.toList).length=O3.length+x.value.size:=by rw[la_,szB]
    have HEQ:=hh_ (show O3++x.value.data.toList=kyB (S.take (k+1)) by rw[HS.out,HB.out,←HE3.out,HE2.out,HE1.out];simp[vlB]);clear S3 a0 o6 g6 hb1 hz
    go_wp2_with fail
    exact⟨⟨k+1,by omega,by go_num,by rw[←HEQ.out];exact o6'.out,by rw[←HEQ.out,hL4];omega,G6⟩,by simp[RowKit.intOf];omega⟩
   ·have hke:S.take k=S:=tk_ (by omega)
    rw[hke] at hO hOl;generalize kyB S=OO at *;obtain⟨oa,oc,rfl⟩:=hO.shape;have hcv:=Vt_ hO.rd;clear hke
    by_cases hlong:255<OO.length
    ·have j1 :(255:Int)<(OO.length:Int):=by omega
     have HF:=hh_ (show keyE L=4 by rw[HK2.out,if_pos hlong]);clear hlong hcv
     go_wp2_with fail
     go_ret2
     exact⟨by rw[HF.out,HY.out,HF.out];rfl,Aa_ HG.out hg⟩
    ·have j1 :(OO.length:Int)≤255:=by omega
     have HF:=hh_ (show keyE L=0 by rw[HK2.out,if_neg hlong]);have HQ:=hh_ (show keyY L =⟨OO.toArray⟩ by rw[HY.out,HF.out,if_pos rfl]);clear hlong
     go_wp2_with fail
     go_ret2
     exact⟨by rw[HF.out,HQ.out];rfl,Aa_ HG.out hg⟩
 ·have C2:=C.out
  unfold Nk_ at C2;have HF:=hh_ (HK.out.trans (if_pos hE));have HF2:=hh_ (show keyY L =⟨#[]⟩ by rw[HY.out,HF.out,if_neg hE]);generalize sortE L=EE at *;rw[if_neg hE] at C2;have C3:=hh_ C2
  have he2 :(EE != 0)=true:=by simpa using hE
  have he3 :(EE==0)=false:=by simpa using hE
  clear C C2 HK H0 HM hE
  go_wp2_with (go_at_call 103;refine C3.out.mono ?_;rintro e w2 ⟨v2,rfl,o2,g2⟩;obtain⟨a2,c2,rfl⟩:=o2.shape)
  go_ret2
  exact⟨by rw[HF.out,HF2.out];rfl,g2⟩
end
section
open Go.RowKit Go.Sort
def H1_ (k:ByteArray) (w:World) (e:Ending) (w':World):Prop:=∃v,e=.returned (.tuple #[v,.int .i64 (splitE k)])∧Own tagF 2 53 w.heap.size w' v (splitL k)∧w.grownBy w' none
theorem Bb_ {k:ByteArray} {w w':World} {E:Int} (h:splitE k=E) (h0:E≠0) (hg:w.grownBy w' none):H1_ k w (.returned (.tuple #[.slice none 0 0,.int .i64 E])) w':=
 ⟨_,by rw[h],by unfold splitL;rw[if_neg (by omega)];exact Own.nil _ _ _ _ _,hg⟩
theorem fu_ {r:List UInt8} (h:cutF r=none) (hr:r.length≤1000000) (w:World):Calls Tryz.prog 64 #[.string ⟨r.toArray⟩] w fun e w'=>e=.returned (.tuple #[.string ⟨#[]⟩,.string ⟨#[]⟩,.bool false])∧w.grownBy w' none:=
 (fm_ ⟨r.toArray⟩ w (by simpa [ByteArray.size] using hr)).mono fun e w' h1=>by
  unfold CutP at h1;rw[show(⟨r.toArray⟩:ByteArray).data.toList=r from rfl,h] at h1;exact⟨h1.2,h1.1⟩
theorem fx_ {r a s:List UInt8} (h:cutF r=some (a,s)) (hr:r.length≤1000000) (w:World):Calls Tryz.prog 64 #[.string ⟨r.toArray⟩] w fun e w'=>e=.returned (.tuple #[.string ⟨a.toArray⟩,.string ⟨s.toArray⟩,.bool true])∧w.grownBy w' none:=
 (fm_ ⟨r.toArray⟩ w (by simpa [ByteArray.size] using hr)).mono fun e w' h1=>by
  unfold CutP at h1;rw[show(⟨r.toArray⟩:ByteArray).data.toList=r from rfl,h] at h1;exact⟨h1.2,h1.1⟩
theorem Pb_ {r:List UInt8} (h:cutF r=none):cut2 r=none:=by unfold cut2;rw[h]
theorem Ow_ {r a s:List UInt8} (h:cutF r=some (a,s)) (h2:cutF s=none):cut2 r=none:=by unfold cut2;rw[h];simp only;rw[h2]
theorem Oz_ {r a s b u:List UInt8} (h:cutF r=some (a,s)) (h2:cutF s=some (b,u)):cut2 r=some (⟨⟨a.toArray⟩,⟨b.toArray⟩⟩,u):=by unfold cut2;rw[h];simp only;rw[h2]
theorem Gp_ {r a s:List UInt8} (h:cutF r=some (a,s)):a.length+s.length+1=r.length:=by
 obtain⟨b,rfl,_⟩:=X5_ h
 simp
theorem W6_ (k:ByteArray) (w:World) (hk:k.size≤9223372036854775807):Calls Tryz.prog 25 #[.string k] w (H1_ k w):=by
 by_cases hlong:255<k.size
 ·have HF:=hh_ (Gx_ hlong)
  have i1 :(255:Int)<(k.size:Int):=by omega
  clear hlong
  go_enter func25,ntmps25
  go_wp2_with fail
  go_ret2
  exact Bb_ HF.out (by decide) (Ab_ _ _)
 have i1:¬(255:Int)<(k.size:Int):=by omega
 have i2 :(k.size:Int)≤255:=by omega
 have Hl:=hh_ hlong;have hkl:k.data.toList.length=k.size:=szB k;clear hlong
 go_enter func25,ntmps25
 go_upto_region 5 with fail
 go_loopw [5,4] (fun s5 s4 wk=>∃(r:List UInt8) (O:List TagR),s5=.string ⟨r.toArray⟩∧Own tagF 2 53 w.heap.size wk s4 O∧Dk_ O r=splitP k.data.toList∧O.length+r.length≤255∧(∀t∈O,TagW t)∧w.grownBy wk none) (fun s5 _ _=>match s5 with | .string b=>b.size | _=>0)
 case atStart=>exact⟨k.data.toList,[],rfl,Own.nil _ _ _ _ _,Qa_ _,by simp;omega,by simp,Ab_ _ _⟩
 case round=>
  obtain⟨r,O,rfl,hO,hA,hOl,hW,hg⟩:=hrel;have HA:=hh_ hA;have HW:=hh_ hW;clear hA hW;obtain⟨oa,oc,rfl⟩:=hO.shape
  by_cases hr:r=[]
  ·subst hr
   have HA2:=hh_ (show splitP k.data.toList=some O by rw[←HA.out,I4_]);have CK:=hh_ (ee_ _ O wr hO.rd HW.out);have HO:=hh_ hO;have HG:=hh_ hg;clear hO hg HA
   by_cases hE:keyE O=0
   ·have hbe:=H2_ (keyY O) k
    by_cases hY:keyY O=k
    ·obtain⟨HF1,HF2⟩:=Hp_ Hl.out HA2.out hE hY
     have HF1:=hh_ HF1;have HF2:=hh_ HF2;rw[dt_ (by rw[hY])] at hbe;unfold KeyP at CK;rw[hE] at CK;generalize keyY O=ky at *;clear hE hY
     go_wp2_with (go_at_call 65;refine CK.out.mono ?_;rintro e w2 ⟨rfl,g2⟩)
     go_ret2
     exact⟨_,by rw[HF1.out];rfl,by rw[HF2.out];exact HO.out.same g2,Aa_ HG.out g2⟩
    ·have HF:=hh_ (D8_ Hl.out HA2.out (.inr hY))
     have hY2:¬(keyY O).data.toList=k.data.toList:=fun e=>hY (Tb_ e▸(Tb_ (a:=k) rfl).symm▸rfl)
     rw[df_ hY2] at hbe;unfold KeyP at CK;rw[hE] at CK;generalize keyY O=ky at *;clear hE hY hY2
     go_wp2_with (go_at_call 65;refine CK.out.mono ?_;rintro e w2 ⟨rfl,g2⟩)
     go_ret2
     exact Bb_ HF.out (by decide) (Aa_ HG.out g2)
   ·have HF:=hh_ (D8_ Hl.out HA2.out (.inl hE))
    unfold KeyP at CK;generalize keyY O=ky at *;generalize keyE O=EE at *
    have he2 :(EE != 0)=true:=by simpa using hE
    have he3 :(EE==0)=false:=by simpa using hE
    clear hE
    go_wp2_with (go_at_call 65;refine CK.out.mono ?_;rintro e w2 ⟨rfl,g2⟩)
    go_ret2
    exact Bb_ HF.out (by decide) (Aa_ HG.out g2)
  ·have hre:r.isEmpty=false:=by cases r <;> simp_all
   have hrl:r.length≤1000000:=by omega
   have HN:=hh_ hr;clear hr
   go_upto_region 8 with fail
   have A2:=Blk.new wr #[.string ⟨#[]⟩,.string ⟨#[]⟩] 53;have O2:=hO.same (ga_ wr (.cells #[.string ⟨#[]⟩,.string ⟨#[]⟩] 53) none);have G2:=Ad_ hg (.cells #[.string ⟨#[]⟩,.string ⟨#[]⟩] 53)
   have hlo:=fun k hk=>(hO.lt k hk).2
   have hz:=hg.size;generalize wr.alloc _=w2 at *;generalize wr.heap.size=gk at *;clear hO hg
   cases h1:cutF r with
   | none=>
    have HF:=hh_ (Ff_ Hl.out (by rw[←HA.out];exact Fe_ HN.out (Pb_ h1)));have C1:=hh_ (fu_ h1 hrl w2)
    have AA:=hh_ fun w' h=>A2.same (w':=w') h
    go_wp2_with (go_at_call 64;refine C1.out.mono ?_;rintro e w3 ⟨rfl,g3⟩;have a3:=(AA.out _ g3).cell;have f3:=(AA.out _ g3).free)
    go_ret2
    exact Bb_ HF.out (by decide) (Aj_ (Aa_ G2 g3) hz _)
   | some p=>
    obtain⟨ta,s⟩:=p;have hsl:=Gp_ h1;have C1:=hh_ (fx_ h1 hrl w2)
    have AA:=hh_ fun w' h=>A2.same (w':=w') h
    go_upto_region 11 with(go_at_call 64;refine C1.out.mono ?_;rintro e w3 ⟨rfl,g3⟩;have a3:=(AA.out _ g3).cell;have f3:=(AA.out _ g3).free)
    have A4:=(A2.same g3).set_ 0 (.string ⟨ta.toArray⟩) (cs':=#[.string ⟨ta.toArray⟩,.string ⟨#[]⟩]) rfl;have O4:=(O2.same g3).kept (Ac_ (Ab_ w3 (some gk)) 0 (.string ⟨ta.toArray⟩)) (fun q hq e=>by have:=hlo q hq;cases e;omega);have G4:=Aj_ (p:=⟨gk,0,none⟩) (Aa_ G2 g3) hz (.string ⟨ta.toArray⟩);clear O2 A2 AA C1 G2 a3 f3 g3;generalize w3.setCell ⟨gk,0,none⟩ (.string ⟨ta.toArray⟩)=w4 at *
    cases h2:cutF s with
    | none=>
     have HF:=hh_ (Ff_ Hl.out (by rw[←HA.out];exact Fe_ HN.out (Ow_ h1 h2)));have C1:=hh_ (fu_ h2 (by omega) w4)
     have AA:=hh_ fun w' h=>A4.same (w':=w') h
     go_wp2_with (go_at_call 64;refine C1.out.mono ?_;rintro e w5 ⟨rfl,g5⟩;have a5:=(AA.out _ g5).cell;have f5:=(AA.out _ g5).free)
     go_ret2
     exact Bb_ HF.out (by decide) (Aj_ (Aa_ G4 g5) hz _)
    | some p=>
     obtain⟨tb,u⟩:=p;have hul:=Gp_ h2;have C1:=hh_ (fx_ h2 (by omega) w4)
     have AA:=hh_ fun w' h=>A4.same (w':=w') h
     have HS:=hh_ (Ii_ (L:=O) HN.out (Oz_ h1 h2))
     go_upto_region 14 with(go_at_call 64;refine C1.out.mono ?_;rintro e w5 ⟨rfl,g5⟩;have a5:=(AA.out _ g5).cell;have f5:=(AA.out _ g5).free)
     have A6:=(A4.same g5).set_ 1 (.string ⟨tb.toArray⟩) (cs':=#[.string ⟨ta.toArray⟩,.string ⟨tb.toArray⟩]) rfl;have O6:=(O4.same g5).kept (Ac_ (Ab_ w5 (some gk)) 1 (.string ⟨tb.toArray⟩)) (fun q hq e=>by have:=hlo q hq;cases e;omega);have G6:=Aj_ (p:=⟨gk,1,none⟩) (Aa_ G4 g5) hz (.string ⟨tb.toArray⟩);clear O4 A4 AA C1 G4 a5 f5 g5;generalize w5.setCell ⟨gk,1,none⟩ (.string ⟨tb.toArray⟩)=w6 at *;have a6:=A6.cell
     have hb1 :(O.length+1)*32≤140737488355328:=by omega
     have hb2:O.length+1≤9223372036854775807:=by omega
     have hz6:=G6.size
     have hta:ta.length≤255:=by omega
     have htb:tb.length≤255:=by omega
     have HTw:=hh_ (show TagW ⟨⟨ta.toArray⟩,⟨tb.toArray⟩⟩ from⟨by show ta.toArray.size≤_;simp;omega,by show tb.toArray.size≤_;simp;omega⟩);have HOl:=hh_ (show(O++[(⟨⟨ta.toArray⟩,⟨tb.toArray⟩⟩:TagR)]).length+u.length≤255 by simp;omega);have HUl:=hh_ (show u.length<r.length by omega)
     go_wp2_with (at_builtin;refine A6_ B5_ Cr_ Av_ O6 ⟨⟨ta.toArray⟩,⟨tb.toArray⟩⟩ hb1 hb2 hz6 (by rfl) (by rfl) _ _ (by rfl) (by rfl) (by rfl) ?_;intro v7 w7 o7 g7 l7)
     refine⟨⟨u,_,rfl,o7,by rw[←HS.out,HA.out],HOl.out,?_,Ao_ G6 O6 (le_ _) g7⟩,?_⟩
     ·intro t ht
      rcases ma_ ht with ht|ht
      ·exact HW.out t ht
      ·rw[ms_ ht];exact HTw.out
     ·show u.toArray.size<r.toArray.size
      simpa using HUl.out
end
section
open Go.RowKit
@[go_sem] theorem a7_ {P:Program} (w:World) (ts:Array TypeId) (t:TypeId) (k k' k'' k3:IntKind) (x y z u:Int) :(Builtin.max_ ts t #[.int k x,.int k' y,.int k'' z,.int k3 u]).run P w=.ok (.int k (max (max (max x y) z) u)) w:=by
 have e:∀a b:Int,(if b>a then b else a)=max a b:=fun a b=>by
  rw[Int.max_def];split <;> split <;> omega
 simp[Builtin.max_,Builtin.max2,e]
theorem Lv_ (c:Cfg) (l:List (Int×Int)) (t:List Int) (w:World) (hn:CfgNums c) (hm:CfgMem c l t w) (hc:F1_ c l) :
  Calls Tryz.prog 75 #[c.val] w fun e w'=>e=.returned (.int .i64 0)∧w.grownBy w' none:=by
 obtain⟨a1,a2⟩:=hn.queue;obtain⟨a3,a4⟩:=hn.slots;obtain⟨a5,a6⟩:=hn.exact;obtain⟨a7,a8⟩:=hn.depth;obtain⟨a9,a10⟩:=hn.width;obtain⟨a11,a12⟩:=hn.top;obtain⟨a13,a14⟩:=hn.key;have b1:decide (c.Queue<1)=false:=df_ (by omega);have b2:decide (64<c.Queue)=false:=df_ (by omega);have b3:decide (c.Slots<1)=false:=df_ (by omega);have b4:decide (64<c.Slots)=false:=df_ (by omega);have b5:decide (c.Exact<0)=false:=df_ (by omega);have b6:decide (32<c.Exact)=false:=df_ (by omega);have b7:decide (c.Depth<1)=false:=df_ (by omega);have b8:decide (4<c.Depth)=false:=df_ (by omega);have b9:decide (c.Width<1)=false:=df_ (by omega);have b10:decide (256<c.Width)=false:=df_ (by omega);have b11:decide (c.Top<1)=false:=df_ (by omega);have b12:decide (64<c.Top)=false:=df_ (by omega);have b13:decide (c.Key<1)=false:=df_ (by omega);have b14:decide (255<c.Key)=false:=df_ (by omega);have hp:=hc.ok.pos;obtain⟨g,off,cap,hv,hgl,hcl⟩:=hm.classes.cell C9_ hp;obtain⟨p,hlast⟩:∃p,l[l.length-1]?=some p:=⟨l[l.length-1],gq_ (by omega)⟩;have c0:w.cell? ⟨g,off+(l.length-1)*2,none⟩=some (.int .i64 p.1):=hcl _ p hlast 0 _ rfl;obtain⟨q1,q2,q3⟩:=hc.last p hlast
 have e1 :((l.length:Int)-1).toNat=l.length-1:=by omega
 have e2 :(1:Int)≤l.length:=by omega
 have e3 :(0:Int)≤(l.length:Int)-1:=by omega
 have e4:1≤l.length:=hp;have e5:l.length≤8:=hc.ok.len;have b15:decide (p.1<max (max (max (8*c.Width) 32) 24) c.Key)=false:=df_ (by omega);have Hn:=hh_ hn;have Hm:=hh_ hm;have Hc:=hh_ hc;have Hv:=hh_ hv;have Hmode:=hh_ hn.mode;have hpos:=hh_ hp;clear hn hm hc hcl hlast hv a1 a2 a3 a4 a5 a6 a7 a8 a11 a12
 have am:∃m1 m2,(c.Mode != 1)=m1∧(c.Mode != 2)=m2∧(m1&&m2)=false:=by
  refine⟨_,_,rfl,rfl,?_⟩
  rcases Hmode.out with h|h <;> simp[h]
 obtain⟨m1,m2,am1,am2,am3⟩:=am;cases m1 <;> cases m2
 case true.true=>simp at am3
 all_goals
  clear am3
  go_enter func75,ntmps75
  go_upto_region 1 with(refine Au_ rfl _ rfl c rfl ?_;intro w1 B1 G1 z1)
  simp only[List.append_eq,List.cons_append,List.nil_append]
  go_wp2_with (first |(refine Au_ rfl _ rfl c rfl ?_;intro w1 B1 G1 z1) |(refine Al_ rfl _ rfl _ rfl c (by assumption) ?_) |(refine A0_ rfl _ rfl _ rfl c (by assumption) ?_) |(go_at_call 109;refine(Y1_ c _ Hn.out).mono ?_;rintro e w2 ⟨rfl,G2⟩;have B2:=B1.same G2;have K2:=Aa_ G1 G2;clear B1 G1 G2) |(go_at_call 110;refine(Wz_ c l t _ Hn.out (Hm.out.same K2)).mono ?_;rintro e w3 ⟨rfl,G3⟩;have B3:=B2.same G3;have K3:=Aa_ K2 G3;have hb3:=B3.cell;clear B2 G3 K2) |(go_at_call 111;refine(Ug_ _ l _ (Hm.out.same K3).classes Hc.out.ok).mono ?_;rintro e w4 ⟨rfl,G4⟩;have hb4:=(B3.same G4).cell;have K4:=hh_ (Aa_ K3 G4);simp only[Cfg.arr,Hv.out] at hb4;have hc4:=((An_ K4.out).1 _ (off+(l.length-1)*2) hgl (by simp)).trans c0;clear hb3 B3 G4 K3))
  go_ret
  exact⟨rfl,K4.out⟩
theorem K8_ (c:Cfg) (l:List (Int×Int)) (t:List Int) (w:World) (hn:CfgNums c) (hm:CfgMem c l t w) (hc:F1_ c l) :
  Calls Tryz.prog 77 #[c.val] w fun e w'=>e=.returned (.int .i64 (c.Shards*c.Windows*(c.Slots+c.Exact)))∧w.grownBy w' none:=by
 obtain⟨a1,a2⟩:=hn.shards;obtain⟨a3,a4⟩:=hn.windows;obtain⟨a5,a6⟩:=hn.slots;obtain⟨a7,a8⟩:=hn.exact
 have m1:c.Shards*c.Windows≤64:=by
  have:=Int.mul_le_mul a2 a4 (by omega) (by omega);simpa using this
 have m0:0≤c.Shards*c.Windows:=Int.mul_nonneg (by omega) (by omega)
 have m2:c.Shards*c.Windows*(c.Slots+c.Exact)≤6144:=by
  have:=Int.mul_le_mul m1 (show c.Slots+c.Exact≤96 by omega) (by omega) (by omega);simpa using this
 have m3:0≤c.Shards*c.Windows*(c.Slots+c.Exact):=Int.mul_nonneg m0 (by omega);have Hn:=hh_ hn;have Hm:=hh_ hm;have Hc:=hh_ hc;clear hn hm hc
 go_enter func77,ntmps77
 go_wp2_with (first |(refine Au_ rfl _ rfl c rfl ?_;intro w1 B1 G1 z1) |(refine Al_ rfl _ rfl _ rfl c (by assumption) ?_) |(go_at_call 75;refine(Lv_ c l t _ Hn.out (Hm.out.same G1) Hc.out).mono ?_;rintro e w2 ⟨rfl,G2⟩;have hb2:=(BoxAt.same (by assumption) G2).cell))
 go_ret
 exact⟨rfl,Aa_ G1 G2⟩
end
section
open Go.RowKit
attribute [local go_sem ↓] Ag_
attribute [local go_sem] Ah_
end
section
open Go.RowKit
theorem fb_ (sv:Value) (n:Nat) (xs:List Int) (w:World) (h:Rd w 1 sv n (xs.map (fun x=>Value.int .i64 x))) :
  Calls Tryz.prog 17 #[sv] w fun e w'=>e=.returned (.pointer (some ⟨w.heap.size,0,none⟩))∧Deck w'.heap.size w' w.heap.size∧w.grownBy w' none:=by
 obtain⟨a,cap,rfl⟩:=h.shape;have H:=hh_ h;clear h
 go_enter func17,ntmps17
 go_wp2
 go_ret
 have G:w.grownBy (w.alloc (.cells #[.slice a n cap,.int .i64 (0:Nat)] 94)) none:=ga_ w _ _;have R:=H.out
 have hlt:0<n→∀a' n' c',Value.slice a n cap=.slice (some a') n' c'→a'.block<w.heap.size:=fun h0=>R.blockLt h0
 exact⟨rfl,⟨_,xs,0,n,heap_alloc_new w _,zl_ _,R.same G,fun h0 a' n' c' hv=>by have:=hlt h0 a' n' c' hv;omega,by simp,fun h0 a' n' c' hv=>by have:=hlt h0 a' n' c' hv;simp;omega⟩,G⟩
structure Nums0 (c:Cfg):Prop where
 length:1≤c.Length∧c.Length≤20
 lateness:0≤c.Lateness∧c.Lateness<15
 windows:1≤c.Windows∧c.Windows≤4
 shards:1≤c.Shards∧c.Shards≤4
 queue:1≤c.Queue∧c.Queue≤64
 mode:c.Mode=1∨c.Mode=2
 slots:1≤c.Slots∧c.Slots≤4
 exact:0≤c.Exact∧c.Exact≤3
 promote:0≤c.Promote∧c.Promote<40
 depth:1≤c.Depth∧c.Depth≤3
 width:1≤c.Width∧c.Width≤9
 top:1≤c.Top∧c.Top≤6
 key:5≤c.Key∧c.Key≤255
 seed:0≤c.Seed∧c.Seed<18446744073709551616
structure MakeSt (B b r g:Nat) (w:World) (c:Cfg) (t:List Int) (wx:World):Prop where
 nums:Nums0 c
 deck:Deck B wx b
 box:BoxAt wx g c
 res:BoxAt wx r Cfg.zero
 table:RdL wordF 1 wx c.Table t
 tlen:t.length=16
 twords:J0_ t
 tblock:∀a n k,c.Table=.slice (some a) n k→r<a.block∧a.block<g
 lt:r<g
 old:B≤r
 low:w.heap.size=r
 grown:w.grownBy wx (some b)
theorem MakeSt.next {B b r g:Nat} {w:World} {c:Cfg} {t:List Int} {wx wy:World} (S:MakeSt B b r g w c t wx) (hd:Deck B wy b) (hg:wx.grownBy wy (some b)):MakeSt B b r g w c t wy:=by
 have hb:=hd.below;have h1:=S.old;have h2:=S.lt;refine⟨S.nums,hd,S.box.kept hg (by simp;omega),S.res.kept hg (by simp;omega),S.table.kept hg ?_,S.tlen,S.twords,S.tblock,S.lt,S.old,S.low,Aa_ S.grown hg⟩;intro b' hb' a n k hv;cases hb'
 have:=S.tblock a n k hv
 omega
theorem MakeSt.row {B b r g:Nat} {w:World} {c c':Cfg} {t:List Int} {wx wy:World} (S:MakeSt B b r g w c t wx) (hbox:BoxAt wy g c') (hn:Nums0 c') (ht:c'.Table=c.Table) (hg:wx.grownBy wy (some g)):MakeSt B b r g w c' t wy:=by
 have h1:=S.old;have h2:=S.lt;have h3:=S.low;have h4:=S.grown.size;refine⟨hn,S.deck.kept hg (by intro x hx;cases hx;omega),hbox,S.res.kept hg (by simp;omega),?_,S.tlen,S.twords,?_,S.lt,S.old,S.low,?_⟩
 ·rw[ht]
  refine S.table.kept hg ?_;intro b' hb' a n k hv;cases hb'
  have:=S.tblock a n k hv
  omega
 ·rw[ht];exact S.tblock
 ·exact⟨hg.os.trans S.grown.os,hg.tape.trans S.grown.tape,hg.output.trans S.grown.output,lt_ S.grown.size hg.size,fun i hi hnn=>(hg.block i (ll_ hi S.grown.size) (by simp;omega)).trans (S.grown.block i hi hnn)⟩
theorem MakeSt.set {B b r g:Nat} {w:World} {c c':Cfg} {t:List Int} {wx:World} (S:MakeSt B b r g w c t wx) (o:Nat) (v:Value) (hc:c.arr.setIfInBounds o v=c'.arr) (hn:Nums0 c') (ht:c'.Table=c.Table) :
  MakeSt B b r g w c' t (wx.setCell ⟨g,o,none⟩ v):=
 S.row (S.box.setF o v hc) hn ht (Ac_ (Ab_ wx _) o v)
theorem MakeSt.same {B b r g:Nat} {w:World} {c:Cfg} {t:List Int} {wx wy:World} (S:MakeSt B b r g w c t wx) (hg:wx.grownBy wy none):MakeSt B b r g w c t wy:=
 S.next (S.deck.kept hg (by simp)) (Ak_ hg _)
def Jb_ (l:List (Int×Int)):Array Value:=(cellsOf clsF l).toArray
def C5_ (w:World) (k:Nat) (l:List (Int×Int)):Prop:=w.heap[k]?=some (.cells (Jb_ l) 99)
theorem Vx_ (l:List (Int×Int)) (i:Nat) (hi:i<l.length) (v:Int) :(cellsOf clsF l).set (i*2+1) (.int .i64 v)=cellsOf clsF (l.set i ((l.getD i (0,0)).1,v)):=by
 induction l generalizing i with
 | nil=>simp at hi
 | cons p l ih=>
  cases i with
  | zero=>simp[cellsOf,clsF]
  | succ i=>
   have:=ih i (by simpa using hi)
   simp only[cellsOf,List.flatMap_cons,List.set_cons_succ,List.getD_cons_succ,clsF] at *;rw[←this,show(i+1)*2+1 =(i*2+1)+1+1 by omega]
   simp
theorem C5_.set {w:World} {k:Nat} {l:List (Int×Int)} (h:C5_ w k l) {i:Nat} (hi:i<l.length) (v:Int) :
  C5_ (w.setCell ⟨k,i*2+1,none⟩ (.int .i64 v)) k (l.set i ((l.getD i (0,0)).1,v)):=by
 unfold C5_;rw[D4_ _ h]
 simp[Jb_,Vx_ l i hi v]
theorem C5_.lt {w:World} {k:Nat} {l:List (Int×Int)} (h:C5_ w k l):k<w.heap.size:=(Array.getElem?_eq_some_iff.1 h).1
theorem C5_.kept {w w':World} {k:Nat} {l:List (Int×Int)} {r:Option Nat} (h:C5_ w k l) (hg:w.grownBy w' r) (hr:r≠some k):C5_ w' k l:=
 (hg.block k h.lt (fun e=>hr e.symm)).trans h
theorem C5_.rd {w:World} {k:Nat} {l:List (Int×Int)} (h:C5_ w k l) (hl:l.length≤9223372036854775807):RdL clsF 2 w (.slice (some ⟨k,0,none⟩) l.length l.length) l:=by
 refine⟨At_ _ 2 C9_ l,hl,.inr ⟨k,0,_,rfl,h.lt,fun j u hu=>?_⟩⟩;unfold C5_ at h;simp only[World.cell?,h,Jb_,Nat.zero_add]
 simpa using hu
theorem C5_.cell {w:World} {k:Nat} {l:List (Int×Int)} (h:C5_ w k l) {i:Nat} (hi:i<l.length):∃x,w.cell? ⟨k,i*2+1,none⟩=some (.int .i64 x):=by
 have hg:=El_ clsF 2 C9_ l i 1 (by omega) l[i] (gq_ hi);unfold C5_ at h;refine⟨l[i].2,?_⟩;simp only[World.cell?,h,Jb_]
 simpa [clsF] using hg
theorem C5_.free {w:World} {k:Nat} {l:List (Int×Int)} (h:C5_ w k l) (i:Nat):w.frozen? ⟨k,i,none⟩=false:=by
 unfold C5_ at h;simp[World.frozen?,h]
def fiveL:List (Int×Int):=[(8,0),(24,0),(32,0),(80,0),(256,0)]
def oneL:List (Int×Int):=[(256,0)]
theorem dq_:Og_ fiveL:=by
 refine⟨by decide,by decide,fun i p hp=>?_,fun i p q hp hq=>?_⟩
 ·have:=mo_ hp
  simp[fiveL] at this
  rcases this with rfl|rfl|rfl|rfl|rfl <;> simp
 ·have hi:i<4:=by have:=(gs_ hq).1;simp[fiveL] at this;omega
  have:i=0∨i=1∨i=2∨i=3:=by omega
  rcases this with rfl|rfl|rfl|rfl <;> simp[fiveL] at hp hq <;> subst hp <;> subst hq <;> simp
theorem fc_:Og_ oneL:=by
 refine⟨by decide,by decide,fun i p hp=>?_,fun i p q hp hq=>?_⟩
 ·have:=mo_ hp
  simp[oneL] at this
  subst this;simp
 ·have hi:=(gs_ hq).1;simp[oneL] at hi
structure ClsSt (B b r g:Nat) (w:World) (c:Cfg) (t:List Int) (k:Nat) (l:List (Int×Int)) (wx:World):Prop where
 st:MakeSt B b r g w c t wx
 spread:1≤c.Spread∧c.Spread≤c.Shards
 cls:C5_ wx k l
 val:c.Classes=.slice (some ⟨k,0,none⟩) l.length l.length
 lt:g<k
 len:0<l.length∧l.length≤8
theorem Ml_ {B b r g:Nat} {w:World} {c:Cfg} {t:List Int} {wx:World} (S:MakeSt B b r g w c t wx) (l:List (Int×Int)) (hl:0<l.length∧l.length≤8) (h:1≤c.Spread∧c.Spread≤c.Shards) :
  ClsSt B b r g w ⟨c.Length,c.Lateness,c.Windows,c.Shards,c.Spread,c.Queue,c.Mode,c.Slots,c.Exact,c.Promote,c.Depth,c.Width,c.Top,c.Key,.slice (some ⟨wx.heap.size,0,none⟩) l.length l.length,c.Table,c.Seed⟩ t wx.heap.size l
   ((wx.setCell ⟨g,14,none⟩ (.slice (some ⟨wx.heap.size,0,none⟩) l.length l.length)).alloc (.cells (Jb_ l) 99)):=by
 have h1:=S.set (c':=⟨c.Length,c.Lateness,c.Windows,c.Shards,c.Spread,c.Queue,c.Mode,c.Slots,c.Exact,c.Promote,c.Depth,c.Width,c.Top,c.Key,.slice (some ⟨wx.heap.size,0,none⟩) l.length l.length,c.Table,c.Seed⟩) 14 (.slice (some ⟨wx.heap.size,0,none⟩) l.length l.length) rfl
  ⟨S.nums.1,S.nums.2,S.nums.3,S.nums.4,S.nums.5,S.nums.6,S.nums.7,S.nums.8,S.nums.9,S.nums.10,S.nums.11,S.nums.12,S.nums.13,S.nums.14⟩ rfl
 refine⟨h1.same (ga_ _ _ _),h,?_,rfl,S.box.lt,hl⟩
 have:=heap_alloc_new (wx.setCell ⟨g,14,none⟩ (.slice (some ⟨wx.heap.size,0,none⟩) l.length l.length)) (.cells (Jb_ l) 99)
 unfold C5_;rw[←this]
 simp[World.setCell]
theorem ClsSt.next {B b r g:Nat} {w:World} {c:Cfg} {t:List Int} {k:Nat} {l:List (Int×Int)} {wx wy:World} (S:ClsSt B b r g w c t k l wx) (hd:Deck B wy b) (hg:wx.grownBy wy (some b)):ClsSt B b r g w c t k l wy:=by
 have h1:=hd.below;have h2:=S.st.old;have h3:=S.st.lt;have h4:=S.lt;exact⟨S.st.next hd hg,S.spread,S.cls.kept hg (by simp;omega),S.val,S.lt,S.len⟩
theorem ClsSt.same {B b r g:Nat} {w:World} {c:Cfg} {t:List Int} {k:Nat} {l:List (Int×Int)} {wx wy:World} (S:ClsSt B b r g w c t k l wx) (hg:wx.grownBy wy none):ClsSt B b r g w c t k l wy:=
 S.next (S.st.deck.kept hg (by simp)) (Ak_ hg _)
theorem ClsSt.nums {B b r g:Nat} {w:World} {c:Cfg} {t:List Int} {k:Nat} {l:List (Int×Int)} {wx:World} (S:ClsSt B b r g w c t k l wx):CfgNums c:=by
 have h:=S.st.nums;have h2:=S.spread
 have:=h.length;have:=h.lateness;have:=h.windows;have:=h.shards;have:=h.queue;have:=h.slots;have:=h.exact;have:=h.promote;have:=h.depth;have:=h.width;have:=h.top;have:=h.key
 exact⟨by omega,by omega,by omega,by omega,h2,by omega,h.mode,by omega,by omega,by omega,by omega,by omega,by omega,by omega,h.seed⟩
theorem ClsSt.mem {B b r g:Nat} {w:World} {c:Cfg} {t:List Int} {k:Nat} {l:List (Int×Int)} {wx:World} (S:ClsSt B b r g w c t k l wx):CfgMem c l t wx:=
 ⟨by rw[S.val];exact S.cls.rd (by have:=S.len;omega),S.st.table,S.st.tlen,S.st.twords⟩
end
section
open Go.RowKit Go.Sort
def limV (mode slots tot:Int):Int:=if slots<1∨64<slots then tot else if mode=1 then tot/slots else if mode=2 then tot/(slots+1) else tot
theorem Tg_ {t k:Int} (ht:W64 t) (hk:1≤k):W64 (t/k):=by
 unfold W64 at *;have h1:0≤t/k:=Int.ediv_nonneg ht.1 (by omega);have h2:t/k≤t:=Int.ediv_le_self _ ht.1
 omega
theorem aq_ {mode slots tot:Int} (ht:W64 tot):W64 (limV mode slots tot):=by
 unfold limV
 split
 ·exact ht
 ·split
  ·exact Tg_ ht (by omega)
  ·split
   ·exact Tg_ ht (by omega)
   ·exact ht
theorem bb_ (t k:Int) (w:World) (ht:W64 t) (hk:1≤k∧k≤100):Calls Tryz.prog 63 #[.int .u64 t,.int .i64 k] w fun e w'=>e=.returned (.int .u64 (t/k))∧w'=w:=by
 have h1:¬k<1:=by omega
 have hw:IntKind.u64.wrap k=k:=IntWalk.u64_in _ (by omega);have hd:Int.tdiv t k=t/k:=Int.tdiv_eq_ediv_of_nonneg ht.1
 have hk0:k≠0:=by omega
 have hk1 :(k==0)=false:=by simpa using hk0
 have hq:=Tg_ ht hk.1;have hw2:IntKind.u64.wrap (t/k)=t/k:=IntWalk.u64_in _ (by unfold W64 at hq;omega);have HX:=hh_ (show t/k=t/k from rfl)
 go_enter func63,ntmps63
 go_wp2_with fail
 go_ret
 exact⟨rfl,rfl⟩
theorem Xr_ (mode slots tot:Int) (w:World) (ht:W64 tot):Calls Tryz.prog 24 #[.int .i64 mode,.int .i64 slots,.int .u64 tot] w fun e w'=>e=.returned (.int .u64 (limV mode slots tot))∧w'=w:=by
 have HL:=hh_ (show limV mode slots tot=if slots<1∨64<slots then tot else if mode=1 then tot/slots else if mode=2 then tot/(slots+1) else tot from rfl);generalize limV mode slots tot=L at *
 by_cases h1:slots<1
 ·have HF:=hh_ (HL.out.trans (if_pos (.inl h1)))
  clear HL
  go_enter func24,ntmps24
  go_wp2_with fail
  go_ret
  exact⟨by rw[HF.out];rfl,rfl⟩
 by_cases h2:64<slots
 ·have HF:=hh_ (HL.out.trans (if_pos (.inr h2)))
  clear HL
  go_enter func24,ntmps24
  go_wp2_with fail
  go_ret
  exact⟨by rw[HF.out];rfl,rfl⟩
 have HF:=hh_ (HL.out.trans (if_neg (by omega)))
 have HS:=hh_ fun k w' hk=>bb_ tot k w' ht hk
 have hw:IntKind.i64.wrap (slots+1)=slots+1:=IntWalk.i64_in _ (by omega);clear HL
 by_cases h3:mode=1
 ·have h3' :(mode==1)=true:=by simpa using h3
  have HF2:=hh_ (HF.out.trans (if_pos h3))
  go_enter func24,ntmps24
  go_wp2_with (go_at_call 63;refine(HS.out _ _ (by omega)).mono ?_;rintro e w' ⟨rfl,rfl⟩)
  go_ret
  exact⟨by rw[HF2.out];rfl,rfl⟩
 have h3' :(mode==1)=false:=by simpa using h3
 have HF2:=hh_ (HF.out.trans (if_neg h3))
 by_cases h4:mode=2
 ·have h4' :(mode==2)=true:=by simpa using h4
  have HF3:=hh_ (HF2.out.trans (if_pos h4))
  go_enter func24,ntmps24
  go_wp2_with (go_at_call 63;refine(HS.out _ _ (by omega)).mono ?_;rintro e w' ⟨rfl,rfl⟩)
  go_ret
  exact⟨by rw[HF3.out];rfl,rfl⟩
 have h4' :(mode==2)=false:=by simpa using h4
 have HF3:=hh_ (HF2.out.trans (if_neg h4))
 go_enter func24,ntmps24
 go_wp2_with fail
 go_ret
 exact⟨by rw[HF3.out];rfl,rfl⟩
def lineBad (lim:Int) (x:Ln):Bool:=decide (splitE x.key≠0)||decide (lim<x.hi-x.lo)
def audBad (c:Cfg) (r:Rep):Bool:=decide (c.Top<r.lines.length)||(decide ((r.lines.length:Int)<c.Top)&&decide ((r.lines.length:Int)<r.trk))||(decide (r.trk=r.lines.length)&&decide (limV c.Mode c.Slots r.tot<r.rest))
def auditE (c:Cfg) (r:Rep):Int:=if repErr r≠0 then repErr r else if audBad c r=true then 13 else if r.lines.any (lineBad (limV c.Mode c.Slots r.tot))=true then 13 else 0
theorem Ij_ {lim:Int} {l:List Ln} {k:Nat} (hk:k<l.length) (h:lineBad lim l[k]=true):l.any (lineBad lim)=true:=List.any_eq_true.2 ⟨_,mg_ hk,h⟩
theorem Jf_ {lim:Int} {l:List Ln} (h:∀i (hi:i<l.length),lineBad lim l[i]=false):l.any (lineBad lim)=false:=by
 rw[List.any_eq_false];intro x hx;obtain⟨i,hi,rfl⟩:=List.getElem_of_mem hx
 simp[h i hi]
theorem O0_ (c:Cfg) (r:Rep) (w:World) (hR:RepRd w r) (hW:RepW r):Calls Tryz.prog 8 #[c.val,repV r.win r.tot r.vl r.over r.trk r.rest r.vr] w (RetInt (auditE c r) w):=by
 have HA:=hh_ (show auditE c r=if repErr r≠0 then repErr r else if audBad c r=true then 13 else if r.lines.any (lineBad (limV c.Mode c.Slots r.tot))=true then 13 else 0 from rfl);have HR:=hh_ hR;have HW:=hh_ hW;obtain⟨la,lc,e1⟩:=hR.lines.shape;obtain⟨ra,rc,e2⟩:=hR.rej.shape;have hlm:=hR.lines.2.1
 have CR:=hh_ fun w' (h:w.grownBy w' none)=>Q1_ r w' (hR.same h) hW
 rw[e1,e2] at CR ⊢;have E1:=hh_ e1;clear hR e1 e2;generalize auditE c r=AE at *
 go_enter func8,ntmps8
 go_upto_region 1 with(refine Au_ rfl _ rfl c rfl ?_;intro w1 B1 G1 z1)
 have D2:=Blk.new w1 (repA r.win r.tot (.slice la r.lines.length lc) r.over r.trk r.rest (.slice ra r.rej.length rc)) 26;have B2:=B1.same (ga_ w1 (.cells #[.int .i64 r.win,.int .u64 r.tot,.slice la r.lines.length lc,.int .u64 r.over,.int .i64 r.trk,.int .u64 r.rest,.slice ra r.rej.length rc] 26) none);have G2:=Ad_ G1 (.cells #[.int .i64 r.win,.int .u64 r.tot,.slice la r.lines.length lc,.int .u64 r.over,.int .i64 r.trk,.int .u64 r.rest,.slice ra r.rej.length rc] 26);generalize w1.alloc _=w2 at *;generalize w1.heap.size=rb at *;clear B1 G1
 by_cases hE:repErr r=0
 case neg=>
  have HF:=hh_ (HA.out.trans (if_pos hE));have C2:=hh_ (CR.out w2 G2);generalize repErr r=E at *
  have he2 :(E != 0)=true:=by simpa using hE
  have he3 :(E==0)=false:=by simpa using hE
  clear hE HA
  go_wp2_with (first
   |(refine Ax_ rfl _ rfl _ rfl D2 ?_)
   |(go_at_call 23;refine C2.out.mono ?_;rintro e w3 ⟨rfl,g3⟩))
  go_ret
  exact Ai_ HF.out (Aa_ G2 g3)
 case pos=>
  have HF:=hh_ (HA.out.trans (if_neg (by omega)));have C2:=hh_ (CR.out w2 G2);have OK:=hh_ (Up_ hE)
  have CL:=hh_ fun w'=>Xr_ c.Mode c.Slots r.tot w' HW.out.tot
  have HLw:=hh_ (aq_ (mode:=c.Mode) (slots:=c.Slots) HW.out.tot);rw[hE] at C2;have HBd:=hh_ (show audBad c r =(decide (c.Top<r.lines.length)||(decide ((r.lines.length:Int)<c.Top)&&decide ((r.lines.length:Int)<r.trk))||(decide (r.trk=r.lines.length)&&decide (limV c.Mode c.Slots r.tot<r.rest))) from rfl);generalize limV c.Mode c.Slots r.tot=lim at *;clear hE HA;have b2:=B2.cell
  go_upto_region 2 with(first
   |(refine Ax_ rfl _ rfl _ rfl D2 ?_)
   |(go_at_call 23;refine C2.out.mono ?_;rintro e w3 ⟨rfl,g3⟩))
  have D3:=D2.same g3;have B3:=B2.same g3;have G3:=Aa_ G2 g3;clear b2 D2 B2 G2 g3;have b3:=B3.cell;have d3:=D3.cell
  go_upto_region 6 with(go_at_call 24;refine(CL.out _).mono ?_;rintro e w4 ⟨rfl,hw4⟩;subst w4)
  generalize audBad c r=bb at *
  go_cut [27,28,29,30,31,32,33,34,35,36,37,38,39,40,41,42,43,44,45,46,47,48,49,50,51,52,53,54] (fun _ _ _ _ _ _ _ _ _ _ _ _ _ _ _ _ _ _ _ _ _ _ _ _ _ _ _ s54 wx=>s54=.bool bb∧w3=wx)
  case first=>
   have HBe:=hh_ (show decide (r.trk =(r.lines.length:Int)) =(r.trk==(r.lines.length:Int)) by rw[Bool.eq_iff_iff];simp);have HB2:=HBd.out;rw[HBe.out] at HB2;clear HBd HBe;generalize x1e:decide (c.Top<(r.lines.length:Int))=x1 at *;generalize x2e:decide ((r.lines.length:Int)<c.Top)=x2 at *;generalize x3e:decide ((r.lines.length:Int)<r.trk)=x3 at *;generalize x4e :(r.trk==(r.lines.length:Int))=x4 at *;generalize x5e:decide (lim<r.rest)=x5 at *;have HB3:=hh_ HB2;clear HB2;cases x1
   ·cases x2
    ·cases x4
     ·go_wp2_with fail
      go_meet
      exact⟨by rw[HB3.out];rfl,rfl⟩
     ·go_wp2_with fail
      go_meet
      exact⟨by rw[HB3.out];rfl,rfl⟩
    ·cases x3
     ·cases x4
      ·go_wp2_with fail
       go_meet
       exact⟨by rw[HB3.out];rfl,rfl⟩
      ·go_wp2_with fail
       go_meet
       exact⟨by rw[HB3.out];rfl,rfl⟩
     ·go_wp2_with fail
      go_meet
      exact⟨by rw[HB3.out];rfl,rfl⟩
   ·go_wp2_with fail
    go_meet
    exact⟨by rw[HB3.out];rfl,rfl⟩
  obtain⟨rfl,rfl⟩:=hcut
  cases bb with
  | true=>
   have HF2:=hh_ (HF.out.trans (if_pos rfl));clear HF
   go_wp2_with fail
   go_ret
   exact Ai_ HF2.out G3
  | false=>
   have HF2:=hh_ (HF.out.trans (if_neg (by simp)));clear HF HBd
   go_upto_region 9 with fail
   have G3':=hh_ G3;clear D3 B3 b3 d3 G3 C2 CL
   go_loopw [58] (fun s58 wk=>∃k:Nat,k≤r.lines.length∧s58=.int .i64 k∧(∀i (hi:i<r.lines.length),i<k→lineBad lim r.lines[i]=false)∧w3.grownBy wk none) (fun s58 _=>r.lines.length-(RowKit.intOf s58).toNat)
   case atStart=>exact⟨0,zl_ _,rfl,by intro i hi h;omega,Ab_ _ _⟩
   case round=>
    obtain⟨k,hk,rfl,hall,hg⟩:=hrel;have Hall:=hh_ hall;have HG:=hh_ (Aa_ G3'.out hg);clear hall
    by_cases hlt:k<r.lines.length
    ·obtain⟨g,off,cap,hv,hgl,hc⟩:=(HR.out.lines.same HG.out).at_ Ar_ hlt
     rw[E1.out] at hv;cases hv;have c0:=hc 0 _ rfl;have c1:=hc 1 _ rfl;have c2:=hc 2 _ rfl;rw[Nat.add_zero] at c0;obtain⟨-,hks,hlh,hht⟩:=OK.out.ln hlt;have hlw:=HW.out.lines _ (mg_ hlt);have HY:=hh_ (p:=lineBad lim r.lines[k]=true→AE=13) (fun h=>HF2.out.trans (if_pos (Ij_ hlt h)))
     have HN:=hh_ (p:=lineBad lim r.lines[k]=false→∀i (hi:i<r.lines.length),i<k+1→lineBad lim r.lines[i]=false) (fun h i hi hik=>by
      rcases Nat.lt_or_ge i k with h1|h1
      ·exact Hall.out i hi h1
      ·obtain rfl:i=k:=by omega
       exact h)
     have CS:=hh_ fun w'=>W6_ r.lines[k].key w' hlw.key
     have HBl:=hh_ (show lineBad lim r.lines[k] =(decide (splitE r.lines[k].key≠0)||decide (lim<r.lines[k].hi-r.lines[k].lo)) from rfl);clear hc;have hlo:=hlw.lo;have hhi:=hlw.hi;unfold W64 at hlo hhi;clear hlw;generalize lineBad lim r.lines[k]=bl at *;generalize r.lines[k]=x at *;have hwr:IntKind.u64.wrap (x.hi-x.lo)=x.hi-x.lo:=IntWalk.u64_in _ (by omega)
     by_cases hs:splitE x.key=0
     ·unfold H1_ at CS
      rw[hs] at CS
      by_cases hl:lim<x.hi-x.lo
      ·have HQ:=hh_ (HY.out (by rw[HBl.out,dt_ hl];simp))
       have hl2:decide (lim<x.hi-x.lo)=true:=dt_ hl;clear hs HY HN HBl
       go_wp2_with (go_at_call 25;refine(CS.out _).mono ?_;rintro e w5 ⟨v5,rfl,o5,g5⟩;obtain⟨a5,c5,rfl⟩:=o5.shape;have a6:=((Blk.new wr #[.string x.key,.int .u64 x.lo,.int .u64 x.hi] 46).same g5).cell)
       go_ret
       exact Ai_ HQ.out (Aa_ HG.out (Aa_ (ga_ _ _ _) g5))
      ·have HQ:=hh_ (HN.out (by rw[HBl.out,df_ hl,df_ (by simpa using hs)];rfl))
       have hl2:decide (lim<x.hi-x.lo)=false:=df_ hl;clear hs HY HN HBl
       go_wp2_with (go_at_call 25;refine(CS.out _).mono ?_;rintro e w5 ⟨v5,rfl,o5,g5⟩;obtain⟨a5,c5,rfl⟩:=o5.shape;have a6:=((Blk.new wr #[.string x.key,.int .u64 x.lo,.int .u64 x.hi] 46).same g5).cell)
       exact⟨⟨k+1,by omega,by go_num,HQ.out,Aa_ hg (Aa_ (ga_ _ _ _) g5)⟩,by simp[RowKit.intOf];omega⟩
     ·have HQ:=hh_ (HY.out (by rw[HBl.out,dt_ hs];rfl))
      unfold H1_ at CS;generalize splitE x.key=E at *
      have he2 :(E != 0)=true:=by simpa using hs
      have he3 :(E==0)=false:=by simpa using hs
      clear hs HY HN HBl
      go_wp2_with (go_at_call 25;refine(CS.out _).mono ?_;rintro e w5 ⟨v5,rfl,o5,g5⟩)
      go_ret
      exact Ai_ HQ.out (Aa_ HG.out (Aa_ (ga_ _ _ _) g5))
    ·have HQ:=hh_ (HF2.out.trans (if_neg (by rw[Jf_ fun i hi=>Hall.out i hi (by omega)];simp)))
     go_wp2_with fail
     go_ret
     exact Ai_ HQ.out HG.out
theorem K1_ (x y:Ln) (w:World):Calls Tryz.prog 35 #[lnV x,lnV y] w (B6_ (befB x y) w):=by
 have hb:=ac_ x.key y.key;obtain⟨b,hd⟩:∃b,decide (x.key.data.toList<y.key.data.toList)=b:=⟨_,rfl⟩;rw[hd] at hb
 by_cases h1:y.hi<x.hi
 ·have HB:=hh_ (show befB x y=true by simp[befB,h1])
  clear hd;generalize befB x y=q at *
  go_enter func35,ntmps35
  go_wp2
  go_ret
  exact A7_ HB.out (Ad_ (Ad_ (Ab_ _ _) _) _)
 ·have h1':decide (y.hi<x.hi)=false:=by simpa using h1
  by_cases h2:x.hi=y.hi
  ·have h2' :((x.hi:Int)==y.hi)=true:=by simp[h2]
   have HB:=hh_ (show befB x y=b by unfold befB;rw[h1',hd,dt_ h2];rfl);clear hd h2;generalize befB x y=q at *
   go_enter func35,ntmps35
   go_wp2
   go_ret
   exact A7_ HB.out (Ad_ (Ad_ (Ab_ _ _) _) _)
  ·have h2' :((x.hi:Int)==y.hi)=false:=by simp[h2]
   have HB:=hh_ (show befB x y=false by simp[befB,h1',h2]);clear hd h2;generalize befB x y=q at *
   go_enter func35,ntmps35
   go_wp2
   go_ret
   exact A7_ HB.out (Ad_ (Ad_ (Ab_ _ _) _) _)
def insK (x:Ln) (L:List Ln):Nat→Nat
 | 0=>0
 | k+1=>if ((L[k]?).map (befB x)).getD false then insK x L k else k+1
theorem Mz_ (x:Ln) (L:List Ln):∀k,insK x L k≤k
 | 0=>le_ _
 | k+1=>by
  unfold insK
  split
  ·exact Nat.le_succ_of_le (Mz_ x L k)
  ·exact le_ _
def insL (L:List Ln) (x:Ln):List Ln:=L.take (insK x L L.length)++[x]++L.drop (insK x L L.length)
theorem Wu_ (L:List Ln) (x:Ln) :(insL L x).length=L.length+1:=by
 have:=Mz_ x L L.length
 unfold insL
 simp;omega
def sortLn (l:List Ln):List Ln:=l.foldl insL []
theorem Ok_ (l:List Ln) (x:Ln):sortLn (l++[x])=insL (sortLn l) x:=by simp[sortLn]
theorem Ih_ (l:List Ln) :(sortLn l).length=l.length:=by
 have:∀(l a:List Ln),(l.foldl insL a).length=a.length+l.length:=by
  intro l
  induction l with
  | nil=>simp
  | cons x l ih=>intro a;simp only[List.foldl_cons,ih,Wu_,lc_];omega
 simpa [sortLn] using this l []
theorem ch_ (v:Value) (l:List Ln) (w:World) (h:RdL lnF 3 w v l) (hl:l.length≤1000000):Calls Tryz.prog 127 #[v] w (RetOwn lnF 3 46 (sortLn l) w):=by
 obtain⟨a,c,rfl⟩:=h.shape;have hm:=h.2.1;have H:=hh_ h
 have hll :(l.length:Int)≤1000000:=by omega
 clear h
 go_enter func127,ntmps127
 go_wp2_with fail
 go_loopw [3,9] (fun s3 s9 wk=>∃(j:Nat),j≤l.length∧s9=.int .i64 j∧Own lnF 3 46 w.heap.size wk s3 (sortLn (l.take j))∧w.grownBy wk none) (fun _ s9 _=>l.length-(RowKit.intOf s9).toNat)
 case atStart=>exact⟨0,zl_ _,rfl,Own.nil _ _ _ _ _,Ab_ _ _⟩
 case round=>
  obtain⟨j,hj,rfl,hO,hg⟩:=hrel
  by_cases hjl:j<l.length
  ·obtain⟨gx,ox,cx,hv,hgx,hcx⟩:=(RdL.same H.out hg).at_ Ar_ hjl
   cases hv;have c0:=hcx 0 _ rfl;have c1:=hcx 1 _ rfl;have c2:=hcx 2 _ rfl;rw[Nat.add_zero] at c0;have HT:=hh_ (show sortLn (l.take (j+1))=insL (sortLn (l.take j)) l[j] by rw[tg_ hjl,Ok_])
   have hsl :(sortLn (l.take j)).length≤1000000:=by rw[Ih_,lk_];omega
   clear hcx;generalize sortLn (l.take j)=S at *;generalize l[j]=x at *;obtain⟨oa,oc,rfl⟩:=hO.shape
   go_upto_region 5 with fail
   have O2:=hO.same (ga_ wr (.cells #[.string x.key,.int .u64 x.lo,.int .u64 x.hi] 46) none);have G2:=Ad_ hg (.cells #[.string x.key,.int .u64 x.lo,.int .u64 x.hi] 46);have A2:=Blk.new wr #[.string x.key,.int .u64 x.lo,.int .u64 x.hi] 46;generalize wr.alloc _=w2 at *;generalize wr.heap.size=gk at *;clear hO hg c0 c1 c2 hgx;have HK:=hh_ (show insL S x=S.take (insK x S S.length)++[x]++S.drop (insK x S S.length) from rfl);have hKl:=Mz_ x S S.length;obtain⟨P,hK⟩:∃P,insK x S S.length=P:=⟨_,rfl⟩;have Hst:=hh_ hK;rw[hK] at HK hKl;clear hK;have hsm:=O2.len
   go_cut [6] (fun s6 wx=>s6=.int .i64 S.length∧w2=wx)
   case first=>
    go_wp2_with fail
    go_meet
    exact⟨rfl,rfl⟩
   obtain⟨rfl,rfl⟩:=hcut
   rename_i hK
   refine hK _ _ ?_
   apply wp_seq_k
   intro K1 hK1
   go_cut [6,15,16,17,18,19,20,21,22,23,24,25,26,27] (fun s6 _ _ _ _ _ _ _ _ _ _ _ _ _ wx=>s6=.int .i64 P∧w2.grownBy wx none)
   case first=>
    go_wp2_with fail
    go_loopw [6] (fun s6 wk=>∃k:Nat,k≤S.length∧s6=.int .i64 k∧insK x S k=P∧w2.grownBy wk none) (fun s6 _=>(RowKit.intOf s6).toNat)
    case atStart=>exact⟨S.length,le_ _,rfl,Hst.out,Ab_ _ _⟩
    case round=>
     obtain⟨k,hk,rfl,hik,hgk⟩:=hrel;have Hik:=hh_ hik;clear hik
     by_cases hk0:0<k
     ·have hd:decide ((0:Int)<(k:Int))=true:=dt_ (by omega)
      obtain⟨k',hk'⟩:∃k',k=k'+1:=⟨k-1,by omega⟩
      have hkl:k'<S.length:=by omega
      obtain⟨gs,os,cs,hvs,hgs,hcs⟩:=(RdL.same O2.rd hgk).at_ Ar_ hkl;cases hvs;have d0:=cell_regrown (hcs 0 _ rfl);have d1:=cell_regrown (hcs 1 _ rfl);have d2:=cell_regrown (hcs 2 _ rfl);rw[Nat.add_zero] at d0;have a3:=(A2.same hgk).re;have hst:=hh_ (show insK x S k=if befB x S[k'] then insK x S k' else k by rw[hk',insK,gq_ hkl];rfl);generalize S[k']=y at *
      have r4:=Bi_ (w:=wr) fun w' hg=>K1_ x y w'
      clear hcs
      have hs1:IntKind.i64.wrap ((k:Int)-1) =(k':Int):=by rw[IntWalk.i64_in _ (by omega)];omega
      have hs2 :(k':Int)<(S.length:Int):=by omega
      have hs3 :(0:Int)≤(k':Int):=by omega
      have hs4 :(k:Int)-1 =(k':Int):=by omega
      have Hk':=hh_ hk';clear hk';generalize befB x y=bb at *
      go_wp2_with fail
      (refine Tail.wp_region_tail_grown 11 (by kernel_rfl) (by kernel_rfl) ?_;simp only[List.take,List.drop];(repeat(go_big_quiet_step (with_reducible exact r4 _ _)));refine wn_ ?_;rintro _ ⟨⟨d5,os5⟩,rfl⟩)
      have K3:=Aa_ hgk (A1_ wr d5 os5);generalize grow (redrawn wr d5) os5=w3 at *;clear d0 d1 d2 a3 r4 hs1 hs2 hs3;cases bb
      ·go_wp2_with fail
       go_meet
       exact⟨by rw[←Hik.out,hst.out];rfl,K3⟩
      ·go_wp2_with fail
       exact⟨⟨k',by omega,rfl,by rw[←Hik.out,hst.out];rfl,K3⟩,by have:=Hk'.out;simp[RowKit.intOf];omega⟩
     ·obtain rfl:k=0:=by omega
      have hd:decide ((0:Int)<((0:Nat):Int))=false:=rfl
      go_wp2_with fail
      go_quiet (fail)
      go_wp2_with fail
      go_meet
      exact⟨by rw[←Hik.out];rfl,Ae_ hgk _⟩
   obtain⟨rfl,h3⟩:=hcut;have O3:=O2.same h3;have A3:=A2.same h3;have G3:=Aa_ G2 h3;clear O2 A2 hK;refine hK1 _ _ ?_;clear hK1;have hcap:=O3.cap
   have hP0 :(0:Int)≤(P:Int):=by omega
   have hP1 :(P:Int)≤(S.length:Int):=by omega
   have hP2 :(P:Int)≤(oc:Int):=by omega
   have hP3 :(S.length:Int)≤(oc:Int):=by omega
   have hsz:=G3.size;refine wp_region_any (by kernel_rfl) ?_
   (refine Tail.take_put 8 36 (.slice oa S.length oc) rfl rfl (by kernel_rfl) (by kernel_rfl) (by kernel_rfl) (fun _ _ _ h=>h) (Or.inl ⟨by rfl,fun w=>?_⟩) ?_;· go_simp);simp only[List.setIfInBounds_toArray,List.set_cons_zero,List.set_cons_succ]
   (refine Tail.take_put 9 37 (.int .i64 P) rfl rfl (by kernel_rfl) (by kernel_rfl) (by kernel_rfl) (fun _ _ _ h=>h) (Or.inl ⟨by rfl,fun w=>?_⟩) ?_;· go_simp);simp only[List.setIfInBounds_toArray,List.set_cons_zero,List.set_cons_succ]
   (refine Tail.take_put 10 38 (.slice (if oc=P then oa else oa.map (·.add (P*3))) (S.length-P) (oc-P)) rfl rfl (by kernel_rfl) (by kernel_rfl) (by kernel_rfl) (fun _ _ _ h=>h) (Or.inl ⟨by rfl,fun w=>?_⟩) ?_;· go_simp);simp only[List.setIfInBounds_toArray,List.set_cons_zero,List.set_cons_succ]
   have RD:=hh_ fun w' (h:Own lnF 3 46 w.heap.size w' (.slice oa S.length oc) S)=>h.rd.drop Ar_ hKl hcap (oc-P)
   generalize (if oc=P then oa else oa.map (·.add (P*3)))=od at *
   (refine ra_ 7 #[false,false,false,false,false,false,false,false,true,true,true,false,false] ?_;simp only[List.take,List.drop,Rg.tailL];simp (decide:=true) only[if_true,if_false])
   have Gd:wc.grownBy wc.drew none:=gw_;have Kd:=Aa_ G3 Gd
   have hb1 :(S.take P).length=P:=by simp;omega
   have hb2 :(S.take P).length*32≤140737488355328:=by rw[hb1];omega
   have hb3 :(S.take P).length≤9223372036854775807:=by rw[hb1];omega
   have hb4 :((S.take P).length+1)*32≤140737488355328:=by rw[hb1];omega
   have hb5 :(S.take P).length+1≤9223372036854775807:=by rw[hb1];omega
   have hb6 :(S.take P++[x]).length=P+1:=by rw[la_,hb1];rfl
   have hb7 :(S.drop P).length=S.length-P:=by simp
   have hb8 :((S.take P++[x]).length+(S.drop P).length)*32≤140737488355328:=by rw[hb6,hb7];omega
   have hb9 :(S.take P++[x]).length+(S.drop P).length≤9223372036854775807:=by rw[hb6,hb7];omega
   have Hb1:=hh_ hb1.symm;have Hb7:=hh_ hb7.symm;clear hb1 hb6 hb7
   (refine to_ ?_;intro y0 my0 dy0)
   clear dy0;have zy0:w.heap.size≤y0.heap.size:=(Aa_ Kd my0).size
   go_wp2_with fail
   refine⟨ga_ _ _ _,?_⟩;have N0:=Aw_ (e:=46) lnF 3 zy0;have hg0:wc.heap.size≤y0.heap.size:=(Aa_ Gd my0).size;generalize y0.alloc _=e0 at *;generalize y0.heap.size=g0 at *
   (refine tq_ 3 ?_;(repeat(go_big_quiet_step (fail)));refine wn_ ?_)
   (refine to_ ?_;intro y4 my4 dy4)
   have N4:=N0.same (dy4.out 0 (by omega) (by kernel_rfl));have K4:=Aa_ Gd my4;have R4:=(O3.rd.take Ar_ hKl oc).same K4;have z4:=(Aa_ Kd my4).size
   go_wp2_with (at_builtin;refine A2_ Ez_ Ey_ N4 R4 Hb1.out hb2 hb3 z4 (by rfl) _ _ (by rfl) (by rfl) (by rfl) ?_;intro v4 e4 o4 g4 l4;have Hg4:=hh_ g4;clear g4)
   refine⟨Hg4.out,?_⟩;have hv4:=Lies.ge l4 (fun k hk=>lt_ hg0 (K7_ _ _ _ k hk)) K4.size;clear R4 N0 N4 K4 z4 dy4 l4
   (refine to_ ?_;intro y5 my5 dy5)
   clear dy5;have a5:=(A3.same (Aa_ Gd my5)).cell
   go_wp2_with fail
   refine⟨Ab_ _ _,?_⟩;clear a5
   (refine to_ ?_;intro y6 my6 dy6)
   clear dy6
   go_wp2_with fail
   refine⟨ga_ _ _ _,?_⟩;have N6:=Blk.new y6 #[.string x.key,.int .u64 x.lo,.int .u64 x.hi] 46;generalize y6.alloc _=e6 at *;generalize y6.heap.size=g6 at *
   (refine Rg.tree_nil ?_;intro z mz dz cz)
   have o5:=o4.same (dz.out 4 (by omega));have N7:=(N6.same (dz.out 6 (by omega))).one Ar_ x rfl;have Kz:=Aa_ Gd mz;have KK:=Aa_ Kd mz;have z7:=KK.size;have O7:=O3.same Kz
   have hlo:∀k,Value.ownBlock (.slice oa S.length oc)=some k→k<wc.heap.size:=fun k hk=>(O3.lt k hk).2
   have tok:=hh_ hP0;clear dz cz my0 my4 my5 my6 mz Hg4 Kz N6 o4 O3 A3 hg0 zy0 Gd Kd
   go_wp2_with (first
    |(at_builtin;have _t:=tok;refine app Ez_ Ey_ o5 N7 rfl hb4 hb5 z7 (by rfl) _ _ (by rfl) (by rfl) (by rfl) ?_;intro v7 w7 o7 g7 l7;clear tok;have K7:=Ao_ KK o5 (le_ _) g7;have R8:=RD.out _ (O7.kept g7 (fun k hk e=>by have:=hlo k hk;have:=hv4 k e;omega));have z8:=K7.size)
    |(at_builtin;refine app Ez_ Ey_ o7 R8 Hb7.out hb8 hb9 z8 (by rfl) _ _ (by rfl) (by rfl) (by rfl) ?_;intro v8 w8 o8 g8 l8;have K8:=Ao_ K7 o7 (le_ _) g8))
   exact⟨⟨j+1,by omega,by go_num,by rw[HT.out,HK.out];exact o8,K8⟩,by simp[RowKit.intOf];omega⟩
  ·have hke:l.take j=l:=tk_ (by omega)
   rw[hke] at hO
   go_wp2_with fail
   go_ret
   exact⟨_,rfl,hO,hg⟩
theorem Su_ {n:Int} (h:n≤18446744073709551615):satL n=n:=by unfold satL;rw[if_pos h]
theorem Tn_ {n:Int} (h:n≤18446744073709551615):fitL n=true:=by unfold fitL;exact dt_ h
theorem Um_ (r:Rep) (w:World) (hR:RepRd w r) (hW:RepW r) (p :(r.win<0∨1099511627776<r.win∨9223372036854775808<r.tot∨r.tot<r.rest)∨64<r.lines.length∨r.trk<r.lines.length∨768<r.trk):Calls Tryz.prog 15 #[repV r.win r.tot r.vl r.over r.trk r.rest r.vr] w (RetInt (repErr r) w):=by
 have HR:=hh_ hR;have HW:=hh_ hW;obtain⟨la,lc,e1⟩:=hR.lines.shape;obtain⟨ra,rc,e2⟩:=hR.rej.shape;have hlm:=hR.lines.2.1;have hrm:=hR.rej.2.1;clear hR hW;rw[e1,e2];have E1:=hh_ e1;have E2:=hh_ e2;clear e1 e2
 by_cases p1:r.win<0∨1099511627776<r.win∨9223372036854775808<r.tot∨r.tot<r.rest
 ·have HE:=hh_ (fs_ p1)
  have hg:=hh_ (Ad_ (Ab_ w none) (.cells #[.int .i64 r.win,.int .u64 r.tot,.slice la r.lines.length lc,.int .u64 r.over,.int .i64 r.trk,.int .u64 r.rest,.slice ra r.rej.length rc] 26));generalize repErr r=q at *
  rcases p1 with h|h|h|h
  all_goals
   go_enter func15,ntmps15
   go_wp2_with fail
   all_goals
    go_ret
    exact Ai_ HE.out hg.out
 by_cases p2:64<r.lines.length∨r.trk<r.lines.length∨768<r.trk
 ·have HE:=hh_ (d3_ p1 p2)
  have hg:=hh_ (Ad_ (Ab_ w none) (.cells #[.int .i64 r.win,.int .u64 r.tot,.slice la r.lines.length lc,.int .u64 r.over,.int .i64 r.trk,.int .u64 r.rest,.slice ra r.rej.length rc] 26));generalize repErr r=q at *
  have q1:0≤r.win:=by omega
  have q2:r.win≤1099511627776:=by omega
  have q3:r.tot≤9223372036854775808:=by omega
  have q4:r.rest≤r.tot:=by omega
  clear p1
  rcases p2 with h|h|h
  ·have h' :(64:Int)<(r.lines.length:Int):=by omega
   go_enter func15,ntmps15
   go_wp2_with fail
   all_goals
    go_ret
    exact Ai_ HE.out hg.out
  all_goals
   go_enter func15,ntmps15
   go_wp2_with fail
   all_goals
    go_ret
    exact Ai_ HE.out hg.out
 exact absurd p (by simp only[not_or] at *;omega)
theorem Wx_ {ls:List Ln} {j k:Nat} (hjk:j<k) (hk:k<ls.length) (h:ls[j].key.data.toList=ls[k].key.data.toList):¬(keysN ls).Nodup:=by
 intro hn;have h1:=List.pairwise_iff_getElem.1 hn j k (by simp[keysN];omega) (by simp[keysN];omega) hjk
 apply h1
 simp only[keysN,List.getElem_map];exact h
theorem Ti_ {ls:List Ln} {k:Nat} {b:List UInt8} (hn :(keysN (ls.take k)).Nodup) (h:∀i (hi:i<ls.length),i<k→ls[i].key.data.toList≠b) :(keysN (ls.take k)++[b]).Nodup:=by
 rw[List.nodup_append];refine⟨hn,by simp,fun a ha c hc e=>?_⟩;rw[List.mem_singleton] at hc;subst hc;subst e;obtain⟨x,hx,rfl⟩:=List.mem_map.1 ha;obtain⟨i,hi,rfl⟩:=List.getElem_of_mem hx;rw[lk_] at hi;rw[List.getElem_take] at h;exact h i (by omega) (by omega) rfl
theorem cd_ (r:Rep) (w:World) (hR:RepRd w r) (hW:RepW r) (p1:¬(r.win<0∨1099511627776<r.win∨9223372036854775808<r.tot∨r.tot<r.rest)) (p2:¬(64<r.lines.length∨r.trk<r.lines.length∨768<r.trk)):Calls Tryz.prog 15 #[repV r.win r.tot r.vl r.over r.trk r.rest r.vr] w (RetInt (repErr r) w):=by
 have HR:=hh_ hR;have HW:=hh_ hW;obtain⟨la,lc,e1⟩:=hR.lines.shape;obtain⟨ra,rc,e2⟩:=hR.rej.shape;have hlm:=hR.lines.2.1;have hrm:=hR.rej.2.1;clear hR hW;rw[e1,e2];have E1:=hh_ e1;have E2:=hh_ e2;clear e1 e2;have HE:=hh_ (fa_ p1 p2)
 have q1:0≤r.win:=by omega
 have q2:r.win≤1099511627776:=by omega
 have q3:r.tot≤9223372036854775808:=by omega
 have q4:r.rest≤r.tot:=by omega
 have q5 :(r.lines.length:Int)≤64:=by omega
 have q6 :(r.lines.length:Int)≤r.trk:=by omega
 have q7:r.trk≤768:=by omega
 clear p1 p2
 go_enter func15,ntmps15
 go_upto_region 5 with fail
 have B1:=Blk.new w #[.int .i64 r.win,.int .u64 r.tot,.slice la r.lines.length lc,.int .u64 r.over,.int .i64 r.trk,.int .u64 r.rest,.slice ra r.rej.length rc] 26;have G1:=Ad_ (Ab_ w none) (.cells #[.int .i64 r.win,.int .u64 r.tot,.slice la r.lines.length lc,.int .u64 r.over,.int .i64 r.trk,.int .u64 r.rest,.slice ra r.rej.length rc] 26);generalize w.alloc _=w1 at *;generalize w.heap.size=b at *;clear q1 q2 q3 q4 q5 q6 q7;have b1:=B1.cell
 go_wp2_with fail
 clear b1;obtain⟨ho0,ho1⟩:=HW.out.over
 have hs0:satL (r.over+loSum (r.lines.take 0))=r.over:=by rw[show loSum (r.lines.take 0)=0 from rfl,Int.add_zero];exact Su_ ho1
 have hf0:fitL (r.over+loSum (r.lines.take 0))=true:=by rw[show loSum (r.lines.take 0)=0 from rfl,Int.add_zero];exact Tn_ ho1
 go_loopw [3,4,54] (fun s3 s4 s54 wk=>∃k:Nat,k≤r.lines.length∧s54=.int .i64 k∧(∀i,i<k→lnErrAt r.tot r.lines i=0)∧s3=.int .u64 (satL (r.over+loSum (r.lines.take k)))∧s4=.bool (fitL (r.over+loSum (r.lines.take k)))∧w1.grownBy wk none) (fun _ _ s54 _=>r.lines.length-(RowKit.intOf s54).toNat)
 case atStart=>exact⟨0,zl_ _,rfl,by intro i h;omega,by rw[hs0],by rw[hf0],Ab_ _ _⟩
 case round=>
  clear hs0 hf0;obtain⟨k,hk,rfl,hall,rfl,rfl,hg⟩:=hrel;have Hall:=hh_ hall;clear hall;have hgw:=Aa_ G1 hg;have B3:=B1.same hg;have RR:=HR.out.same hgw
  by_cases hlt:k<r.lines.length
  ·obtain⟨g,off,cap,hv,hgl,hc⟩:=RR.lines.at_ Ar_ hlt
   rw[E1.out] at hv;cases hv;have c0:=hc 0 _ rfl;have c1:=hc 1 _ rfl;have c2:=hc 2 _ rfl;rw[Nat.add_zero] at c0;clear hc;have hxw:=HW.out.lines _ (mg_ hlt)
   have hps:0≤loSum (r.lines.take k):=loSum_pos fun x hx=>(HW.out.lines x (List.mem_of_mem_take hx)).lo.1
   have HS1:=hh_ (show satL (r.over+loSum (r.lines.take (k+1)))=satA (satL (r.over+loSum (r.lines.take k))) r.lines[k].lo by rw[tg_ hlt,D6_,Jq_ (by omega) hxw.lo.1,Int.add_assoc]);have HS2:=hh_ (show fitL (r.over+loSum (r.lines.take (k+1))) =(fitL (r.over+loSum (r.lines.take k))&&fitA (satL (r.over+loSum (r.lines.take k))) r.lines[k].lo) by rw[tg_ hlt,D6_,Kf_ hxw.lo.1,Int.add_assoc]);have hw1:W64 (satL (r.over+loSum (r.lines.take k))):=Ja_ (by omega);have hw2:W64 r.lines[k].lo:=hxw.lo;have hkey:=hxw.key
   have hq:=hh_ fun h=>Iq_ hlt Hall.out h
   have Hnext:=hh_ (p:=lnErrAt r.tot r.lines k=0→∀i,i<k+1→lnErrAt r.tot r.lines i=0) (fun h i hi=>by
    rcases Nat.lt_or_ge i k with h2|h2
    ·exact Hall.out i h2
    ·obtain rfl:i=k:=by omega
     exact h)
   have HQ:=hh_ (p:=lnErrAt r.tot r.lines k=Cy_ r.tot (M2_ r.lines k) r.lines[k]) (by unfold lnErrAt;rw[gq_ hlt]);have HV:=hh_ (p:=lnErrAt r.tot r.lines k≠0→repErr r=lnErrAt r.tot r.lines k) (fun h=>HE.out.trans (hq.out h));have HV2:=hh_ (p:=∀v:Int,v≠0→Cy_ r.tot (M2_ r.lines k) r.lines[k]=v→repErr r=v) (fun v h1 h2=>by have h3:=HQ.out.trans h2;rw[HV.out (by omega),h3]);have Hn2:=hh_ (p:=Cy_ r.tot (M2_ r.lines k) r.lines[k]=0→∀i,i<k+1→lnErrAt r.tot r.lines i=0) (fun h=>Hnext.out (HQ.out.trans h));clear hq hxw hps HQ HV Hnext;generalize satL (r.over+loSum (r.lines.take k))=T at *;generalize fitL (r.over+loSum (r.lines.take k))=F at *;generalize r.lines[k]=x at *
   go_upto_region 9 with fail
   have B4:=B3.same (ga_ wr (.cells #[.string x.key,.int .u64 x.lo,.int .u64 x.hi] 46) none);have A3:=Blk.new wr #[.string x.key,.int .u64 x.lo,.int .u64 x.hi] 46;have g3:wr.grownBy (wr.alloc (.cells #[.string x.key,.int .u64 x.lo,.int .u64 x.hi] 46)) none:=ga_ wr _ none;generalize wr.alloc _=w3 at *;generalize wr.heap.size=lb at *;clear c0 c1 c2 B3 hgl;have b4:=B4.cell;have a4:=A3.cell;have R3:=RR.same g3;have hg3:=Aa_ hg g3;have hgw3:=Aa_ hgw g3;clear RR hg hgw g3
   have hk0 :(0:Int)≤(k:Int):=by omega
   have hk1 :(k:Int)<(r.lines.length:Int):=by omega
   go_upto_region 15 with fail
   ·go_ret
    exact Ai_ (HV2.out 3 (by decide) (Jk_ (by assumption))) hgw3
   ·go_ret
    exact Ai_ (HV2.out 4 (by decide) (Nm_ (by assumption) (by assumption))) hgw3
   ·go_ret
    exact Ai_ (HV2.out 1 (by decide) (Ea_ (by assumption) (by assumption) (by assumption))) hgw3
   rotate_left
   ·go_ret
    exact Ai_ (HV2.out 1 (by decide) (Ea_ (by assumption) (by assumption) (Or.inl (by assumption)))) hgw3
   have he:x.key.toList.isEmpty=false:=by assumption
   have hl :(x.key.size:Int)≤255:=by assumption
   have h3:x.lo≤x.hi:=by assumption
   have h4:x.hi≤r.tot:=And.right (show x.lo≤x.hi∧x.hi≤r.tot by assumption);have HL:=hh_ (fun p=>Om_ (p:=p) he hl h3 h4);clear he hl h3 h4
   have hR:=fun w'=>Ub_ T x.lo w' hw1 hw2
   have Hadd:=hh_ hR;clear hR
   cases k with
   | zero=>
    have HN:=hh_ (Hn2.out (HL.out _))
    go_quiet (fail)
    cases F
    ·go_wp2_with (go_at_call 31;refine(Hadd.out _).mono ?_;rintro e w' ⟨rfl,rfl⟩)
     exact⟨⟨0+1,by omega,by go_num,HN.out,by rw[HS1.out],by rw[HS2.out,Bool.false_and],Ae_ hg3 _⟩,by simp[RowKit.intOf];omega⟩
    ·go_wp2_with (go_at_call 31;refine(Hadd.out _).mono ?_;rintro e w' ⟨rfl,rfl⟩)
     exact⟨⟨0+1,by omega,by go_num,HN.out,by rw[HS1.out],by rw[HS2.out,Bool.true_and],Ae_ hg3 _⟩,by simp[RowKit.intOf];omega⟩
   | succ m=>
    obtain⟨g',off',cap',hv',hgl',hd⟩:=R3.lines.at_ Ar_ (show m<r.lines.length by omega);rw[E1.out] at hv';cases hv';have d0:=cell_regrown (hd 0 _ rfl);have d1:=cell_regrown (hd 1 _ rfl);have d2:=cell_regrown (hd 2 _ rfl);simp only[Nat.add_zero] at d0;clear hd
    have hpl:M2_ r.lines (m+1)=some r.lines[m]:=by simp[M2_,gq_ (show m<r.lines.length by omega)]
    rw[hpl] at HV2 Hn2;clear hpl;generalize r.lines[m]=y at *;have HL2:=hh_ (show Cy_ r.tot (some y) x=if !(befB y x) then 6 else 0 from HL.out (some y))
    have hs1:IntKind.i64.wrap (((m+1:Nat):Int)-1) =(m:Int):=by rw[IntWalk.i64_in _ (by omega)];omega
    have hs2 :((m+1:Nat):Int)-1 =(m:Int):=by omega
    have hgt:decide ((0:Int)<((m+1:Nat):Int))=true:=dt_ (by omega)
    have hl2 :(0:Int)≤(m:Int):=by omega
    have hl3 :(m:Int)<(r.lines.length:Int):=by omega
    have e1:=B4.re;have e2:=A3.re
    have r4:=Bi_ (w:=w3) fun w' hg=>K1_ y x w'
    clear b4 a4;generalize befB y x=bb at *
    (refine Tail.wp_region_tail_grown 14 (by kernel_rfl) (by kernel_rfl) ?_;simp only[List.take,List.drop];(repeat(go_big_quiet_step (with_reducible exact r4 _ _)));refine wn_ ?_;rintro _ ⟨⟨d5,os5⟩,rfl⟩)
    have K3:=A1_ w3 d5 os5;have A5:=(A3.same K3).cell;generalize grow (redrawn w3 d5) os5=w5 at *;clear d0 d1 d2 e1 e2 r4;cases bb
    ·go_wp2_with fail
     go_ret
     exact Ai_ (HV2.out 6 (by decide) HL2.out) (Aa_ hgw3 K3)
    ·have HN:=hh_ (Hn2.out HL2.out)
     cases F
     ·go_wp2_with (go_at_call 31;refine(Hadd.out _).mono ?_;rintro e w' ⟨rfl,rfl⟩)
      exact⟨⟨m+1+1,by omega,by go_num,HN.out,by rw[HS1.out],by rw[HS2.out,Bool.false_and],Aa_ hg3 K3⟩,by simp[RowKit.intOf];omega⟩
     ·go_wp2_with (go_at_call 31;refine(Hadd.out _).mono ?_;rintro e w' ⟨rfl,rfl⟩)
      exact⟨⟨m+1+1,by omega,by go_num,HN.out,by rw[HS1.out],by rw[HS2.out,Bool.true_and],Aa_ hg3 K3⟩,by simp[RowKit.intOf];omega⟩
  ·have hke:r.lines.take k=r.lines:=tk_ (by omega)
   rw[hke]
   obtain rfl:k=r.lines.length:=by omega
   clear hke hk
   have H10:=hh_ fun h=>HE.out.trans (Ux_ Hall.out h)
   have H4:=hh_ fun h=>HE.out.trans (ao_ Hall.out h)
   obtain⟨S,hS⟩:∃S,r.over+loSum r.lines=S:=⟨_,rfl⟩;have HSd:=hh_ hS;rw[hS];clear hS HE Hall;have b3:=B3.cell
   go_upto_region 22 with fail
   clear b3
   go_loopw [110] (fun s110 wk=>∃k:Nat,k≤r.lines.length∧s110=.int .i64 k∧(keysN (r.lines.take k)).Nodup∧wr.grownBy wk none) (fun s110 _=>r.lines.length-(RowKit.intOf s110).toNat)
   case atStart=>exact⟨0,zl_ _,rfl,by simp[keysN],Ab_ _ _⟩
   case round=>
    obtain⟨k,hk,rfl,hnd,hg2⟩:=hrel;have Hnd:=hh_ hnd;clear hnd;have R2:=RR.same hg2;have B2:=B3.same hg2;have hgw2:=Aa_ hgw hg2;have b2:=B2.cell
    by_cases hlt2:k<r.lines.length
    ·obtain⟨g,off,cap,hv,hgl,hc⟩:=R2.lines.at_ Ar_ hlt2
     rw[E1.out] at hv;cases hv;have c0:=hc 0 _ rfl;have c1:=hc 1 _ rfl;have c2:=hc 2 _ rfl;rw[Nat.add_zero] at c0;clear hc;have hcap:=(HR.out.lcap _ _ _ E1.out);have Hk:=hh_ (D9_ hlt2)
     have hk0 :(0:Int)≤(k:Int):=by omega
     have hk1 :(k:Int)<(r.lines.length:Int):=by omega
     have hk2 :(k:Int)≤(lc:Int):=by omega
     obtain⟨x,hx⟩:∃x,r.lines[k]=x:=⟨_,rfl⟩;have Hx:=hh_ hx;rw[hx] at c0 c1 c2 Hk;clear hx
     go_upto_region 24 with fail
     have B4:=B2.same (ga_ wr (.cells #[.string x.key,.int .u64 x.lo,.int .u64 x.hi] 46) none);have R4:=R2.same (ga_ wr (.cells #[.string x.key,.int .u64 x.lo,.int .u64 x.hi] 46) none);have A4:=Blk.new wr #[.string x.key,.int .u64 x.lo,.int .u64 x.hi] 46;have K4:=Ad_ hg2 (.cells #[.string x.key,.int .u64 x.lo,.int .u64 x.hi] 46);generalize wr.alloc _=w4 at *;generalize wr.heap.size=lb at *;clear c0 c1 c2 b2 B2 R2 hgw2 hg2 hgl;have b4:=B4.cell
     go_upto_region 25 with fail
     clear b4
     go_loopw [120] (fun s120 wk=>∃j:Nat,j≤k∧s120=.int .i64 j∧(∀i (hi:i<r.lines.length),i<j→r.lines[i].key.data.toList≠x.key.data.toList)∧w4.grownBy wk none) (fun s120 _=>k-(RowKit.intOf s120).toNat)
     case atStart=>exact⟨0,zl_ _,rfl,by intro i _ h;omega,Ab_ _ _⟩
     case round=>
      obtain⟨j,hj,rfl,hne,hg5⟩:=hrel;have Hne:=hh_ hne;clear hne
      by_cases hjl:j<k
      ·obtain⟨g',off',cap',hv',hgl',hd⟩:=(R4.same hg5).lines.at_ Ar_ (show j<r.lines.length by omega)
       rw[E1.out] at hv';cases hv';have d0:=hd 0 _ rfl;have d1:=hd 1 _ rfl;have d2:=hd 2 _ rfl;rw[Nat.add_zero] at d0;clear hd;obtain⟨y,hy⟩:∃y,r.lines[j]=y:=⟨_,rfl⟩;have Hy:=hh_ hy;rw[hy] at d0 d1 d2;clear hy;have a5:=(A4.same (Ad_ hg5 (.cells #[.string y.key,.int .u64 y.lo,.int .u64 y.hi] 46))).cell
       have hj0 :(0:Int)≤(j:Int):=by omega
       have hj1 :(j:Int)<(k:Int):=by omega
       have G5:=Ad_ hg5 (.cells #[.string y.key,.int .u64 y.lo,.int .u64 y.hi] 46);obtain⟨eb,heb⟩:∃eb,(x.key.toList==y.key.toList)=eb:=⟨_,rfl⟩;have Heb:=hh_ heb;have KW:=Aa_ hgw (Aa_ K4 G5);clear heb;rw[ByteArray.toList_eq,ByteArray.toList_eq] at Heb;cases eb
       ·have hb :(x.key.toList==y.key.toList)=false:=by rw[ByteArray.toList_eq,ByteArray.toList_eq];exact Heb.out
        go_wp2_with fail
        exact⟨⟨j+1,by omega,by go_num,fun i hi hij=>by
         rcases Nat.lt_or_ge i j with h|h
         ·exact Hne.out i hi h
         ·obtain rfl:i=j:=by omega
          rw[Hy.out]
          exact fun e=>by have:=Heb.out;rw[e] at this;simp at this,G5⟩,by simp[RowKit.intOf];omega⟩
       ·have hb :(x.key.toList==y.key.toList)=true:=by rw[ByteArray.toList_eq,ByteArray.toList_eq];exact Heb.out
        have HZ:=hh_ (H10.out (Wx_ hjl hlt2 (by rw[Hx.out,Hy.out];exact(eq_of_beq Heb.out).symm)))
        go_wp2_with fail
        go_ret
        exact Ai_ HZ.out KW
      ·obtain rfl:j=k:=by omega
       have HN:=hh_ (Ti_ Hnd.out Hne.out)
       go_wp2_with fail
       exact⟨⟨j+1,by omega,by go_num,by rw[Hk.out];exact HN.out,Aa_ K4 hg5⟩,by simp[RowKit.intOf];omega⟩
    ·obtain rfl:k=r.lines.length:=by omega
     rw[List.take_length] at Hnd;have HX:=hh_ (H4.out Hnd.out)
     have H13:=hh_ fun h=>HX.out.trans (Rw_ (r:=r) h)
     have H3:=hh_ fun h h2=>HX.out.trans (Zx_ (r:=r) h h2)
     have H0:=hh_ fun h h2=>HX.out.trans (as_ (r:=r) h h2)
     rw[HSd.out] at H13 H3 H0;clear HX H10 H4 Hnd
     by_cases hf:S≤18446744073709551615
     ·rw[Su_ hf,Tn_ hf]
      by_cases ht:S=r.tot
      ·have htb :((S:Int) != r.tot)=false:=by rw[ht];simp
       have H3':=hh_ (H3.out (by omega));have H0':=hh_ (H0.out (by omega));clear H3 H0 H13 ht hf
       by_cases h7:r.rej.length=7
       ·obtain⟨g7,o7,c7,hv7,hg7,hc7⟩:=RdL.one Ca_ R2.rej (k:=0) (by omega)
        rw[E2.out] at hv7;cases hv7
        have h7b :((r.rej.length:Int) != 7)=false:=by rw[h7];rfl
        have h7c :(0:Int)<(r.rej.length:Int):=by omega
        rw[Nat.add_zero] at hc7;have H7:=hh_ h7;obtain⟨r0,hr0,hr1⟩:∃r0,r.rej[0]?=some r0∧wr.cell? ⟨g7,o7,none⟩=some (.int .u64 r0):=⟨r.rej[0],gq_ (by omega),hc7⟩;clear hc7;have Hr0:=hh_ hr0;clear hr0 h7
        by_cases hz:r0=0
        ·have HZ:=hh_ (H0'.out (by rw[Hr0.out,hz];have:=H7.out;simp;omega))
         subst hz;clear H3' H0' Hr0 H7
         go_wp2_with fail
         go_ret
         exact Ai_ HZ.out hgw2
        ·have hzb :((r0:Int) != 0)=true:=by simp[hz]
         have HZ:=hh_ (H3'.out (.inr (by rw[Hr0.out];simp[hz])));clear H3' H0' Hr0 hz H7
         go_wp2_with fail
         go_ret
         exact Ai_ HZ.out hgw2
       ·have h7b :((r.rej.length:Int) != 7)=true:=by simp;omega
        have HZ:=hh_ (H3'.out (.inl h7));clear H3' H0' h7
        go_wp2_with fail
        go_ret
        exact Ai_ HZ.out hgw2
      ·have htb :((S:Int) != r.tot)=true:=by simp[ht]
       have HZ:=hh_ (H13.out (.inr (by omega)));clear H3 H0 H13 ht hf
       go_wp2_with fail
       go_ret
       exact Ai_ HZ.out hgw2
     ·have f1:fitL S=false:=by unfold fitL;exact df_ hf
      rw[f1];have HZ:=hh_ (H13.out (.inl (by omega)));clear H3 H0 H13 hf f1
      go_wp2_with fail
      go_ret
      exact Ai_ HZ.out hgw2
theorem Nx_ (r:Rep) (w:World) (hR:RepRd w r) (hW:RepW r):Calls Tryz.prog 15 #[repV r.win r.tot r.vl r.over r.trk r.rest r.vr] w (RetInt (repErr r) w):=by
 by_cases p1:r.win<0∨1099511627776<r.win∨9223372036854775808<r.tot∨r.tot<r.rest
 ·exact Um_ r w hR hW (.inl p1)
 by_cases p2:64<r.lines.length∨r.trk<r.lines.length∨768<r.trk
 ·exact Um_ r w hR hW (.inr p2)
 exact cd_ r w hR hW p1 p2
theorem ah_ (k:ByteArray) (w:World) (hk:k.size≤1000000):Calls Tryz.prog 66 #[.string k] w (CutP k.data.toList w):=by
 obtain⟨⟨l⟩⟩:=k
 cases l with
 | nil=>
  go_enter func66,ntmps66
  go_wp2_with fail
  go_ret3
  exact Jw_ rfl
 | cons b q=>
  have hs :(⟨(b::q).toArray⟩:ByteArray).size=q.length+1:=by simp[ByteArray.size]
  have hne :(⟨(b::q).toArray⟩:ByteArray).toList.isEmpty=false:=by rw[ByteArray.toList_eq];rfl
  have hq:q.length≤1000000:=by have :(⟨(b::q).toArray⟩:ByteArray).size≤1000000:=hk;omega
  have hw1:wrap64 (q.length:Int) =(q.length:Int):=by unfold wrap64;omega
  have hbb:=b.toNat_lt
  have hw2:wrap64 (b.toNat:Int) =(b.toNat:Int):=by unfold wrap64;omega
  have hw3:wrap64 (1+(b.toNat:Int))=1+(b.toNat:Int):=by unfold wrap64;omega
  have hx:∀h,(⟨⟨b::q⟩⟩:ByteArray)[0]'h=b:=fun _=>rfl
  by_cases hb:q.length<b.toNat
  ·have hz0 :((q.length:Int)+1==0)=false:=by rw[beq_eq_false_iff_ne];omega
   have hb2 :(q.length:Int)+1<1+(b.toNat:Int):=by omega
   have hb3 :((⟨(b::q).toArray⟩:ByteArray).size:Int)-1<(b.toNat:Int):=by rw[hs];omega
   go_enter func66,ntmps66
   go_wp2_with fail
   go_ret3
   exact Jw_ (by simp only[cutF];rw[if_pos hb])
  ·have hz0 :((q.length:Int)+1==0)=false:=by rw[beq_eq_false_iff_ne];omega
   have hb2:¬(q.length:Int)+1<1+(b.toNat:Int):=by omega
   have hb3:¬((⟨(b::q).toArray⟩:ByteArray).size:Int)-1<(b.toNat:Int):=by rw[hs];omega
   go_enter func66,ntmps66
   go_upto_region 3 with fail
   have i1 :(0:Int)≤1+(b.toNat:Int):=by omega
   have i2 :(1:Int)≤1+(b.toNat:Int):=by omega
   have i3:1+(b.toNat:Int)≤(q.length:Int)+1:=by omega
   have i4 :(1:Int)≤(q.length:Int)+1:=by omega
   go_quiet (fail)
   go_wp2_with fail
   go_ret3
   rw[O6_,O8_];exact Pd_ (by simp only[cutF];rw[if_neg hb]) (Ae_ (Ab_ w none) nq)
theorem U0_ {r:List UInt8} (h:cutF r=none) (hr:r.length≤1000000) (w:World):Calls Tryz.prog 66 #[.string ⟨r.toArray⟩] w fun e w'=>e=.returned (.tuple #[.string ⟨#[]⟩,.string ⟨#[]⟩,.bool false])∧w.grownBy w' none:=
 (ah_ ⟨r.toArray⟩ w (by simpa [ByteArray.size] using hr)).mono fun e w' h1=>by
  unfold CutP at h1;rw[show(⟨r.toArray⟩:ByteArray).data.toList=r from rfl,h] at h1;exact⟨h1.2,h1.1⟩
theorem a2_ {r a s:List UInt8} (h:cutF r=some (a,s)) (hr:r.length≤1000000) (w:World):Calls Tryz.prog 66 #[.string ⟨r.toArray⟩] w fun e w'=>e=.returned (.tuple #[.string ⟨a.toArray⟩,.string ⟨s.toArray⟩,.bool true])∧w.grownBy w' none:=
 (ah_ ⟨r.toArray⟩ w (by simpa [ByteArray.size] using hr)).mono fun e w' h1=>by
  unfold CutP at h1;rw[show(⟨r.toArray⟩:ByteArray).data.toList=r from rfl,h] at h1;exact⟨h1.2,h1.1⟩
theorem Xb_ (k:ByteArray) (w:World) (hk:k.size≤9223372036854775807):Calls Tryz.prog 27 #[.string k] w (H1_ k w):=by
 by_cases hlong:255<k.size
 ·have HF:=hh_ (Gx_ hlong)
  have i1 :(255:Int)<(k.size:Int):=by omega
  clear hlong
  go_enter func27,ntmps27
  go_wp2_with fail
  go_ret2
  exact Bb_ HF.out (by decide) (Ab_ _ _)
 have i1:¬(255:Int)<(k.size:Int):=by omega
 have i2 :(k.size:Int)≤255:=by omega
 have Hl:=hh_ hlong;have hkl:k.data.toList.length=k.size:=szB k;clear hlong
 go_enter func27,ntmps27
 go_upto_region 5 with fail
 go_loopw [5,4] (fun s5 s4 wk=>∃(r:List UInt8) (O:List TagR),s5=.string ⟨r.toArray⟩∧Own tagF 2 53 w.heap.size wk s4 O∧Dk_ O r=splitP k.data.toList∧O.length+r.length≤255∧(∀t∈O,TagW t)∧w.grownBy wk none) (fun s5 _ _=>match s5 with | .string b=>b.size | _=>0)
 case atStart=>exact⟨k.data.toList,[],rfl,Own.nil _ _ _ _ _,Qa_ _,by simp;omega,by simp,Ab_ _ _⟩
 case round=>
  obtain⟨r,O,rfl,hO,hA,hOl,hW,hg⟩:=hrel;have HA:=hh_ hA;have HW:=hh_ hW;clear hA hW;obtain⟨oa,oc,rfl⟩:=hO.shape
  by_cases hr:r=[]
  ·subst hr
   have HA2:=hh_ (show splitP k.data.toList=some O by rw[←HA.out,I4_]);have CK:=hh_ (Hg_ _ O wr hO.rd HW.out);have HO:=hh_ hO;have HG:=hh_ hg;clear hO hg HA
   by_cases hE:keyE O=0
   ·have hbe:=H2_ (keyY O) k
    by_cases hY:keyY O=k
    ·obtain⟨HF1,HF2⟩:=Hp_ Hl.out HA2.out hE hY
     have HF1:=hh_ HF1;have HF2:=hh_ HF2;rw[dt_ (by rw[hY])] at hbe;unfold KeyP at CK;rw[hE] at CK;generalize keyY O=ky at *;clear hE hY
     go_wp2_with (go_at_call 16;refine CK.out.mono ?_;rintro e w2 ⟨rfl,g2⟩)
     go_ret2
     exact⟨_,by rw[HF1.out];rfl,by rw[HF2.out];exact HO.out.same g2,Aa_ HG.out g2⟩
    ·have HF:=hh_ (D8_ Hl.out HA2.out (.inr hY))
     have hY2:¬(keyY O).data.toList=k.data.toList:=fun e=>hY (Tb_ e▸(Tb_ (a:=k) rfl).symm▸rfl)
     rw[df_ hY2] at hbe;unfold KeyP at CK;rw[hE] at CK;generalize keyY O=ky at *;clear hE hY hY2
     go_wp2_with (go_at_call 16;refine CK.out.mono ?_;rintro e w2 ⟨rfl,g2⟩)
     go_ret2
     exact Bb_ HF.out (by decide) (Aa_ HG.out g2)
   ·have HF:=hh_ (D8_ Hl.out HA2.out (.inl hE))
    unfold KeyP at CK;generalize keyY O=ky at *;generalize keyE O=EE at *
    have he2 :(EE != 0)=true:=by simpa using hE
    have he3 :(EE==0)=false:=by simpa using hE
    clear hE
    go_wp2_with (go_at_call 16;refine CK.out.mono ?_;rintro e w2 ⟨rfl,g2⟩)
    go_ret2
    exact Bb_ HF.out (by decide) (Aa_ HG.out g2)
  ·have hre:r.isEmpty=false:=by cases r <;> simp_all
   have hrl:r.length≤1000000:=by omega
   have HN:=hh_ hr;clear hr
   go_upto_region 8 with fail
   have A2:=Blk.new wr #[.string ⟨#[]⟩,.string ⟨#[]⟩] 53;have O2:=hO.same (ga_ wr (.cells #[.string ⟨#[]⟩,.string ⟨#[]⟩] 53) none);have G2:=Ad_ hg (.cells #[.string ⟨#[]⟩,.string ⟨#[]⟩] 53)
   have hlo:=fun k hk=>(hO.lt k hk).2
   have hz:=hg.size;generalize wr.alloc _=w2 at *;generalize wr.heap.size=gk at *;clear hO hg
   cases h1:cutF r with
   | none=>
    have HF:=hh_ (Ff_ Hl.out (by rw[←HA.out];exact Fe_ HN.out (Pb_ h1)));have C1:=hh_ (U0_ h1 hrl w2)
    have AA:=hh_ fun w' h=>A2.same (w':=w') h
    go_upto_region 9 with(go_at_call 66;refine C1.out.mono ?_;rintro e w3 ⟨rfl,g3⟩;have a3:=(AA.out _ g3).cell;have f3:=(AA.out _ g3).free)
    have A4:=(A2.same g3).set_ 0 (.string ⟨#[]⟩) (cs':=#[.string ⟨#[]⟩,.string ⟨#[]⟩]) rfl;have G4:=Aj_ (p:=⟨gk,0,none⟩) (Aa_ G2 g3) hz (.string ⟨#[]⟩);clear O2 A2 AA C1 G2 a3 f3 g3;generalize w3.setCell ⟨gk,0,none⟩ (.string ⟨#[]⟩)=w4 at *;have C1:=hh_ (U0_ (r:=[]) rfl (by simp) w4)
    have AA:=hh_ fun w' h=>A4.same (w':=w') h
    go_wp2_with (go_at_call 66;refine C1.out.mono ?_;rintro e w5 ⟨rfl,g5⟩;have a5:=(AA.out _ g5).cell;have f5:=(AA.out _ g5).free)
    go_ret2
    exact Bb_ HF.out (by decide) (Aj_ (Aa_ G4 g5) hz _)
   | some p=>
    obtain⟨ta,s⟩:=p;have hsl:=Gp_ h1;have C1:=hh_ (a2_ h1 hrl w2)
    have AA:=hh_ fun w' h=>A2.same (w':=w') h
    go_upto_region 9 with(go_at_call 66;refine C1.out.mono ?_;rintro e w3 ⟨rfl,g3⟩;have a3:=(AA.out _ g3).cell;have f3:=(AA.out _ g3).free)
    have A4:=(A2.same g3).set_ 0 (.string ⟨ta.toArray⟩) (cs':=#[.string ⟨ta.toArray⟩,.string ⟨#[]⟩]) rfl;have O4:=(O2.same g3).kept (Ac_ (Ab_ w3 (some gk)) 0 (.string ⟨ta.toArray⟩)) (fun q hq e=>by have:=hlo q hq;cases e;omega);have G4:=Aj_ (p:=⟨gk,0,none⟩) (Aa_ G2 g3) hz (.string ⟨ta.toArray⟩);clear O2 A2 AA C1 G2 a3 f3 g3;generalize w3.setCell ⟨gk,0,none⟩ (.string ⟨ta.toArray⟩)=w4 at *
    cases h2:cutF s with
    | none=>
     have HF:=hh_ (Ff_ Hl.out (by rw[←HA.out];exact Fe_ HN.out (Ow_ h1 h2)));have C1:=hh_ (U0_ h2 (by omega) w4)
     have AA:=hh_ fun w' h=>A4.same (w':=w') h
     go_wp2_with (go_at_call 66;refine C1.out.mono ?_;rintro e w5 ⟨rfl,g5⟩;have a5:=(AA.out _ g5).cell;have f5:=(AA.out _ g5).free)
     go_ret2
     exact Bb_ HF.out (by decide) (Aj_ (Aa_ G4 g5) hz _)
    | some p=>
     obtain⟨tb,u⟩:=p;have hul:=Gp_ h2;have C1:=hh_ (a2_ h2 (by omega) w4)
     have AA:=hh_ fun w' h=>A4.same (w':=w') h
     have HS:=hh_ (Ii_ (L:=O) HN.out (Oz_ h1 h2))
     go_upto_region 10 with(go_at_call 66;refine C1.out.mono ?_;rintro e w5 ⟨rfl,g5⟩;have a5:=(AA.out _ g5).cell;have f5:=(AA.out _ g5).free)
     have A6:=(A4.same g5).set_ 1 (.string ⟨tb.toArray⟩) (cs':=#[.string ⟨ta.toArray⟩,.string ⟨tb.toArray⟩]) rfl;have O6:=(O4.same g5).kept (Ac_ (Ab_ w5 (some gk)) 1 (.string ⟨tb.toArray⟩)) (fun q hq e=>by have:=hlo q hq;cases e;omega);have G6:=Aj_ (p:=⟨gk,1,none⟩) (Aa_ G4 g5) hz (.string ⟨tb.toArray⟩);clear O4 A4 AA C1 G4 a5 f5 g5;generalize w5.setCell ⟨gk,1,none⟩ (.string ⟨tb.toArray⟩)=w6 at *;have a6:=A6.cell
     have hb1 :(O.length+1)*32≤140737488355328:=by omega
     have hb2:O.length+1≤9223372036854775807:=by omega
     have hz6:=G6.size
     have hta:ta.length≤255:=by omega
     have htb:tb.length≤255:=by omega
     have HTw:=hh_ (show TagW ⟨⟨ta.toArray⟩,⟨tb.toArray⟩⟩ from⟨by show ta.toArray.size≤_;simp;omega,by show tb.toArray.size≤_;simp;omega⟩);have HOl:=hh_ (show(O++[(⟨⟨ta.toArray⟩,⟨tb.toArray⟩⟩:TagR)]).length+u.length≤255 by simp;omega);have HUl:=hh_ (show u.length<r.length by omega)
     go_wp2_with (at_builtin;refine A6_ B5_ Cr_ Av_ O6 ⟨⟨ta.toArray⟩,⟨tb.toArray⟩⟩ hb1 hb2 hz6 (by rfl) (by rfl) _ _ (by rfl) (by rfl) (by rfl) ?_;intro v7 w7 o7 g7 l7)
     refine⟨⟨u,_,rfl,o7,by rw[←HS.out,HA.out],HOl.out,?_,Ao_ G6 O6 (le_ _) g7⟩,?_⟩
     ·intro t ht
      rcases ma_ ht with ht|ht
      ·exact HW.out t ht
      ·rw[ms_ ht];exact HTw.out
     ·show u.toArray.size<r.toArray.size
      simpa using HUl.out
theorem e6_ (mode slots tot:Int) (w:World) (ht:W64 tot):Calls Tryz.prog 26 #[.int .i64 mode,.int .i64 slots,.int .u64 tot] w fun e w'=>e=.returned (.int .u64 (limV mode slots tot))∧w'=w:=by
 have HL:=hh_ (show limV mode slots tot=if slots<1∨64<slots then tot else if mode=1 then tot/slots else if mode=2 then tot/(slots+1) else tot from rfl);generalize limV mode slots tot=L at *
 by_cases h1:slots<1
 ·have HF:=hh_ (HL.out.trans (if_pos (.inl h1)))
  clear HL
  go_enter func26,ntmps26
  go_wp2_with fail
  go_ret
  exact⟨by rw[HF.out];rfl,rfl⟩
 by_cases h2:64<slots
 ·have HF:=hh_ (HL.out.trans (if_pos (.inr h2)))
  clear HL
  go_enter func26,ntmps26
  go_wp2_with fail
  go_ret
  exact⟨by rw[HF.out];rfl,rfl⟩
 have HF:=hh_ (HL.out.trans (if_neg (by omega)));have hw:IntKind.i64.wrap (slots+1)=slots+1:=IntWalk.i64_in _ (by omega);have hu1:IntKind.u64.wrap slots=slots:=IntWalk.u64_in _ (by omega);have hu2:IntKind.u64.wrap (slots+1)=slots+1:=IntWalk.u64_in _ (by omega);have hd1:Int.tdiv tot slots=tot/slots:=Int.tdiv_eq_ediv_of_nonneg ht.1;have hd2:Int.tdiv tot (slots+1)=tot/(slots+1):=Int.tdiv_eq_ediv_of_nonneg ht.1;have hq1:=Tg_ (k:=slots) ht (by omega);have hq2:=Tg_ (k:=slots+1) ht (by omega);have hv1:IntKind.u64.wrap (tot/slots)=tot/slots:=IntWalk.u64_in _ (by unfold W64 at hq1;omega);have hv2:IntKind.u64.wrap (tot/(slots+1))=tot/(slots+1):=IntWalk.u64_in _ (by unfold W64 at hq2;omega)
 have hz1 :(slots==0)=false:=by simp;omega
 have hz2 :(slots+1==0)=false:=by simp;omega
 have hz3:slots≠0:=by omega
 have hz4:slots+1≠0:=by omega
 clear HL
 by_cases h3:mode=1
 ·have h3' :(mode==1)=true:=by simpa using h3
  have HF2:=hh_ (HF.out.trans (if_pos h3))
  go_enter func26,ntmps26
  go_wp2_with fail
  go_ret
  exact⟨by rw[HF2.out];rfl,rfl⟩
 have h3' :(mode==1)=false:=by simpa using h3
 have HF2:=hh_ (HF.out.trans (if_neg h3))
 by_cases h4:mode=2
 ·have h4' :(mode==2)=true:=by simpa using h4
  have HF3:=hh_ (HF2.out.trans (if_pos h4))
  go_enter func26,ntmps26
  go_wp2_with fail
  go_ret
  exact⟨by rw[HF3.out];rfl,rfl⟩
 have h4' :(mode==2)=false:=by simpa using h4
 have HF3:=hh_ (HF2.out.trans (if_neg h4))
 go_enter func26,ntmps26
 go_wp2_with fail
 go_ret
 exact⟨by rw[HF3.out];rfl,rfl⟩
theorem Wg_ (c:Cfg) (r:Rep) (w:World) (hR:RepRd w r) (hW:RepW r):Calls Tryz.prog 9 #[c.val,repV r.win r.tot r.vl r.over r.trk r.rest r.vr] w (RetInt (auditE c r) w):=by
 have HA:=hh_ (show auditE c r=if repErr r≠0 then repErr r else if audBad c r=true then 13 else if r.lines.any (lineBad (limV c.Mode c.Slots r.tot))=true then 13 else 0 from rfl);have HR:=hh_ hR;have HW:=hh_ hW;obtain⟨la,lc,e1⟩:=hR.lines.shape;obtain⟨ra,rc,e2⟩:=hR.rej.shape;have hlm:=hR.lines.2.1
 have CR:=hh_ fun w' (h:w.grownBy w' none)=>Nx_ r w' (hR.same h) hW
 rw[e1,e2] at CR ⊢;have E1:=hh_ e1;clear hR e1 e2;generalize auditE c r=AE at *
 go_enter func9,ntmps9
 go_upto_region 1 with(refine Au_ rfl _ rfl c rfl ?_;intro w1 B1 G1 z1)
 have D2:=Blk.new w1 (repA r.win r.tot (.slice la r.lines.length lc) r.over r.trk r.rest (.slice ra r.rej.length rc)) 26;have B2:=B1.same (ga_ w1 (.cells #[.int .i64 r.win,.int .u64 r.tot,.slice la r.lines.length lc,.int .u64 r.over,.int .i64 r.trk,.int .u64 r.rest,.slice ra r.rej.length rc] 26) none);have G2:=Ad_ G1 (.cells #[.int .i64 r.win,.int .u64 r.tot,.slice la r.lines.length lc,.int .u64 r.over,.int .i64 r.trk,.int .u64 r.rest,.slice ra r.rej.length rc] 26);generalize w1.alloc _=w2 at *;generalize w1.heap.size=rb at *;clear B1 G1
 by_cases hE:repErr r=0
 case neg=>
  have HF:=hh_ (HA.out.trans (if_pos hE));have C2:=hh_ (CR.out w2 G2);generalize repErr r=E at *
  have he2 :(E != 0)=true:=by simpa using hE
  have he3 :(E==0)=false:=by simpa using hE
  clear hE HA
  go_wp2_with (first
   |(refine Ax_ rfl _ rfl _ rfl D2 ?_)
   |(go_at_call 15;refine C2.out.mono ?_;rintro e w3 ⟨rfl,g3⟩))
  go_ret
  exact Ai_ HF.out (Aa_ G2 g3)
 case pos=>
  have HF:=hh_ (HA.out.trans (if_neg (by omega)));have C2:=hh_ (CR.out w2 G2);have OK:=hh_ (Up_ hE)
  have CL:=hh_ fun w'=>e6_ c.Mode c.Slots r.tot w' HW.out.tot
  have HLw:=hh_ (aq_ (mode:=c.Mode) (slots:=c.Slots) HW.out.tot);rw[hE] at C2;have HBd:=hh_ (show audBad c r =(decide (c.Top<r.lines.length)||(decide ((r.lines.length:Int)<c.Top)&&decide ((r.lines.length:Int)<r.trk))||(decide (r.trk=r.lines.length)&&decide (limV c.Mode c.Slots r.tot<r.rest))) from rfl);generalize limV c.Mode c.Slots r.tot=lim at *;clear hE HA;have b2:=B2.cell
  go_upto_region 2 with(first
   |(refine Ax_ rfl _ rfl _ rfl D2 ?_)
   |(go_at_call 15;refine C2.out.mono ?_;rintro e w3 ⟨rfl,g3⟩))
  have D3:=D2.same g3;have B3:=B2.same g3;have G3:=Aa_ G2 g3;clear b2 D2 B2 G2 g3;have b3:=B3.cell;have d3:=D3.cell
  go_upto_region 5 with(go_at_call 26;refine(CL.out _).mono ?_;rintro e w4 ⟨rfl,hw4⟩;subst w4)
  generalize audBad c r=bb at *
  go_cut [23,24,25,26,27,28,29,30,31,32,33,34,35,36,37,38,39,40,41,42,43,44,45,46,47,48,49,50,51,52,53,54,55,56,57,58] (fun _ _ _ _ _ _ _ _ _ _ _ _ _ _ _ _ _ _ _ _ _ _ _ _ _ _ _ _ _ _ _ _ _ _ _ s58 wx=>s58=.bool bb∧w3=wx)
  case first=>
   have HBe:=hh_ (show decide (r.trk =(r.lines.length:Int)) =(r.trk==(r.lines.length:Int)) by rw[Bool.eq_iff_iff];simp);have HB2:=HBd.out;rw[HBe.out] at HB2;clear HBd HBe;generalize x1e:decide (c.Top<(r.lines.length:Int))=x1 at *;generalize x2e:decide ((r.lines.length:Int)<c.Top)=x2 at *;generalize x3e:decide ((r.lines.length:Int)<r.trk)=x3 at *;generalize x4e :(r.trk==(r.lines.length:Int))=x4 at *;generalize x5e:decide (lim<r.rest)=x5 at *;have HB3:=hh_ HB2;clear HB2;cases x1
   ·cases x2
    ·cases x4
     ·go_wp2_with fail
      go_meet
      exact⟨by rw[HB3.out];rfl,rfl⟩
     ·go_wp2_with fail
      go_meet
      exact⟨by rw[HB3.out];rfl,rfl⟩
    ·cases x3
     ·cases x4
      ·go_wp2_with fail
       go_meet
       exact⟨by rw[HB3.out];rfl,rfl⟩
      ·go_wp2_with fail
       go_meet
       exact⟨by rw[HB3.out];rfl,rfl⟩
     ·go_wp2_with fail
      go_meet
      exact⟨by rw[HB3.out];rfl,rfl⟩
   ·go_wp2_with fail
    go_meet
    exact⟨by rw[HB3.out];rfl,rfl⟩
  obtain⟨rfl,rfl⟩:=hcut
  cases bb with
  | true=>
   have HF2:=hh_ (HF.out.trans (if_pos rfl));clear HF
   go_wp2_with fail
   go_ret
   exact Ai_ HF2.out G3
  | false=>
   have HF2:=hh_ (HF.out.trans (if_neg (by simp)));clear HF HBd
   go_upto_region 8 with fail
   have G3':=hh_ G3;clear D3 B3 b3 d3 G3 C2 CL
   go_loopw [62] (fun s62 wk=>∃k:Nat,k≤r.lines.length∧s62=.int .i64 k∧(∀i (hi:i<r.lines.length),i<k→lineBad lim r.lines[i]=false)∧w3.grownBy wk none) (fun s62 _=>r.lines.length-(RowKit.intOf s62).toNat)
   case atStart=>exact⟨0,zl_ _,rfl,by intro i hi h;omega,Ab_ _ _⟩
   case round=>
    obtain⟨k,hk,rfl,hall,hg⟩:=hrel;have Hall:=hh_ hall;have HG:=hh_ (Aa_ G3'.out hg);clear hall
    by_cases hlt:k<r.lines.length
    ·obtain⟨g,off,cap,hv,hgl,hc⟩:=(HR.out.lines.same HG.out).at_ Ar_ hlt
     rw[E1.out] at hv;cases hv;have c0:=hc 0 _ rfl;have c1:=hc 1 _ rfl;have c2:=hc 2 _ rfl;rw[Nat.add_zero] at c0;obtain⟨-,hks,hlh,hht⟩:=OK.out.ln hlt;have hlw:=HW.out.lines _ (mg_ hlt);have HY:=hh_ (p:=lineBad lim r.lines[k]=true→AE=13) (fun h=>HF2.out.trans (if_pos (Ij_ hlt h)))
     have HN:=hh_ (p:=lineBad lim r.lines[k]=false→∀i (hi:i<r.lines.length),i<k+1→lineBad lim r.lines[i]=false) (fun h i hi hik=>by
      rcases Nat.lt_or_ge i k with h1|h1
      ·exact Hall.out i hi h1
      ·obtain rfl:i=k:=by omega
       exact h)
     have CS:=hh_ fun w'=>Xb_ r.lines[k].key w' hlw.key
     have HBl:=hh_ (show lineBad lim r.lines[k] =(decide (splitE r.lines[k].key≠0)||decide (lim<r.lines[k].hi-r.lines[k].lo)) from rfl);clear hc;have hlo:=hlw.lo;have hhi:=hlw.hi;unfold W64 at hlo hhi;clear hlw;generalize lineBad lim r.lines[k]=bl at *;generalize r.lines[k]=x at *;have hwr:IntKind.u64.wrap (x.hi-x.lo)=x.hi-x.lo:=IntWalk.u64_in _ (by omega)
     by_cases hs:splitE x.key=0
     ·unfold H1_ at CS
      rw[hs] at CS
      by_cases hl:lim<x.hi-x.lo
      ·have HQ:=hh_ (HY.out (by rw[HBl.out,dt_ hl];simp))
       have hl2:decide (lim<x.hi-x.lo)=true:=dt_ hl;clear hs HY HN HBl
       go_wp2_with (go_at_call 27;refine(CS.out _).mono ?_;rintro e w5 ⟨v5,rfl,o5,g5⟩;obtain⟨a5,c5,rfl⟩:=o5.shape;have a6:=((Blk.new wr #[.string x.key,.int .u64 x.lo,.int .u64 x.hi] 46).same g5).cell)
       go_ret
       exact Ai_ HQ.out (Aa_ HG.out (Aa_ (ga_ _ _ _) g5))
      ·have HQ:=hh_ (HN.out (by rw[HBl.out,df_ hl,df_ (by simpa using hs)];rfl))
       have hl2:decide (lim<x.hi-x.lo)=false:=df_ hl;clear hs HY HN HBl
       go_wp2_with (go_at_call 27;refine(CS.out _).mono ?_;rintro e w5 ⟨v5,rfl,o5,g5⟩;obtain⟨a5,c5,rfl⟩:=o5.shape;have a6:=((Blk.new wr #[.string x.key,.int .u64 x.lo,.int .u64 x.hi] 46).same g5).cell)
       exact⟨⟨k+1,by omega,by go_num,HQ.out,Aa_ hg (Aa_ (ga_ _ _ _) g5)⟩,by simp[RowKit.intOf];omega⟩
     ·have HQ:=hh_ (HY.out (by rw[HBl.out,dt_ hs];rfl))
      unfold H1_ at CS;generalize splitE x.key=E at *
      have he2 :(E != 0)=true:=by simpa using hs
      have he3 :(E==0)=false:=by simpa using hs
      clear hs HY HN HBl
      go_wp2_with (go_at_call 27;refine(CS.out _).mono ?_;rintro e w5 ⟨v5,rfl,o5,g5⟩)
      go_ret
      exact Ai_ HQ.out (Aa_ HG.out (Aa_ (ga_ _ _ _) g5))
    ·have HQ:=hh_ (HF2.out.trans (if_neg (by rw[Jf_ fun i hi=>Hall.out i hi (by omega)];simp)))
     go_wp2_with fail
     go_ret
     exact Ai_ HQ.out HG.out
end
section
abbrev Ap_:=List UInt8
theorem Cj_ (a:Ap_):¬a<a:=List.lt_irrefl a
theorem Dh_ {a b c:Ap_} (h:a<b) (h':b<c):a<c:=List.lt_trans h h'
theorem b_le {a b:Ap_}:a≤b↔¬b<a:=List.not_lt.symm
theorem fe_ {a b:Ap_} (h:a≤b) (h':b≤a):a=b:=List.le_antisymm h h'
theorem b_total (a b:Ap_):a≤b∨b≤a:=List.le_total a b
theorem b_lt {a b:Ap_} (h:a≤b) (hne:a≠b):a<b:=by
 rcases Decidable.em (a<b) with h1|h1
 ·exact h1
 ·exact absurd (fe_ h (b_le.2 h1)) hne
theorem Ql_ {a b c:Ap_} (h:a≤b) (h':b≤c):a≤c:=List.le_trans h h'
theorem b7_ {a b c:Ap_} (h:a≤b) (h':b<c):a<c:=by
 rcases Decidable.em (a=b) with e|e
 ·exact e▸h'
 ·exact Dh_ (b_lt h e) h'
theorem b8_ {a b:Ap_} (h:a<b):a≤b:=b_le.2 fun h'=>Cj_ _ (Dh_ h h')
end
end Go.Proofs.YtckmgjmeanloaaaGreat
