/- Contracts of functions, and laws. -/
import Derived.Test.YtckmgjmeanloaaaGreatBcaf
import Derived.Lib.RowBridge
set_option maxHeartbeats 8000000
set_option maxRecDepth 100000
namespace Go.Proofs.YtckmgjmeanloaaaGreat
open Go.Proofs.Tryz
variable {w w':World} {t:List Int} {k:ByteArray} {Q:Exit→Act→World→Prop} {ops:Array Oper} {o:Oper} {a:Act} {cs:Array Value}
section
open Go.RowKit Go.Sort
theorem Mm_ (S:Nat→Prop) (b:Nat) (L:List (Int×Int)) (acc:Int) (R:List Int) (r:Int) (w:World) (h:RLed S w b L acc R) :
  Calls prog 49 #[.pointer (some ⟨b,0,none⟩),.int .i64 r] w (fun e w'=>e=.returned (.int .i64 (rejE r))∧RLed S w' b L acc (rejR R r)∧GrownS S w w'):=by
 have H:=hh_ h
 by_cases hr:r<1∨6<r
 ·have h1:=hh_ (show rejE r=1 from if_pos hr)
  have h2:rejR R r=R:=if_pos hr;rw[h2];clear h
  by_cases hr1:r<1
  ·go_enter func49,ntmps49
   go_wp2
   go_ret
   exact⟨by rw[h1.out];rfl,H.out,GrownS.refl _ _⟩
  ·have hr2:6<r:=by omega
   go_enter func49,ntmps49
   go_wp2
   go_ret
   exact⟨by rw[h1.out];rfl,H.out,GrownS.refl _ _⟩
 ·have hr1:1≤r:=by omega
  have hr2:r≤6:=by omega
  obtain⟨k,rfl⟩:∃k:Nat,r=k:=⟨r.toNat,by omega⟩
  have hkl:k<R.length:=by rw[h.len];omega
  have hgd:R.getD k 0=R[k]:=by rw[List.getD_eq_getElem?_getD,gq_ hkl];rfl
  have h1:=hh_ (show rejE (k:Int)=0 from if_neg hr)
  have h2:rejR R (k:Int)=R.set k (satA R[k] 1):=by rw[←hgd];exact if_neg hr
  have HR2:=hh_ h2;have HRW:=hh_ (hy_ h.rw (k:Int));rw[h2];obtain⟨vw,vt,vr,H0⟩:=h.rl;obtain⟨g,cap,hv,_,hgl,hcap,hck,hfr⟩:=H0.or.at_ Bf_ hkl;have ck:=hck 0 _ rfl;rw[Nat.mul_one,Nat.add_zero] at ck;have fk:=hfr k;subst hv
  have C:=hh_ fun w=>Ft_ R[k] 1 w (h.rw _ (mg_ hkl)) ⟨by omega,by omega⟩
  have H0h:=hh_ H0;have hlr:=h.len
  have HC:=hh_ fun w' (h:World.grownBy w w' none)=>((Am_ h).1 g k hgl (by simp)).trans ck
  have HF:=hh_ fun w' (h:World.grownBy w w' none)=>((Am_ h).2 g k hgl (by simp)).trans fk
  have HB:=hh_ fun w' (h:World.grownBy w w' none)=>(H0.same h).blk.cell
  have HP:=hh_ fun w' (h:World.grownBy w w' none)=>(H0.same h).putR hkl (satA R[k] 1)
  clear hr hgd h2 ck fk hck hfr h H0;rw[hlr] at *;generalize R[k]=x at *
  have hk0 :(0:Int)≤(k:Int):=by omega
  have hk7 :(k:Int)<7:=by omega
  go_enter func49,ntmps49
  go_upto_region 3 with fail
  have K6:World.grownBy w w.drew none:=gw_
  (refine rn_ 14 (fun k _ w v w'=>match k with | 12=>v=.int .u64 (satA x 1)∧World.grownBy w w' none | _=>False) ?_;simp only[ts_])
  generalize w.drew=w6 at *
  (refine tq_ 3 ?_;(repeat(go_big_quiet_step (fail)));refine wn_ ?_)
  (refine to_ ?_;intro x3 mx3 dx3)
  clear dx3;have ax:=HB.out _ (Aa_ K6 mx3);unfold Bu_ at ax
  go_wp2_with fail
  refine⟨Ab_ _ _,?_⟩;clear ax
  (refine tq_ 4 ?_;(repeat(go_big_quiet_step (fail)));refine wn_ ?_)
  (refine to_ ?_;intro x8 mx8 dx8)
  clear dx8;have ax:=HB.out _ (Aa_ K6 mx8);unfold Bu_ at ax
  go_wp2_with fail
  refine⟨Ab_ _ _,?_⟩;clear ax
  (refine tq_ 2 ?_;(repeat(go_big_quiet_step (fail)));refine wn_ ?_)
  (refine to_ ?_;intro x11 mx11 dx11)
  clear dx11;have cx:=HC.out _ (Aa_ K6 mx11)
  go_wp2_with fail
  refine⟨Ab_ _ _,?_⟩;clear cx
  (refine tc_ ?_;intro x12 mx12 dx12;refine⟨?_,?_⟩;· (unfold Rg.callSpec;go_simp;(refine(C.out x12).mono ?_;rintro e w' ⟨rfl,rfl⟩;exact⟨_,rfl,rfl,Ab_ _ _⟩)))
  clear dx12;rintro v12 y12 ⟨rfl,g12⟩;refine⟨g12,?_⟩;clear g12;simp only[pt_]
  (refine tq_ 1 ?_;(repeat(go_big_quiet_step (fail)));refine wn_ ?_)
  (refine Rg.tree_nil ?_;intro z mz dz cz)
  have KZ:=Aa_ K6 mz;have cc:=HC.out _ KZ;have fz:=HF.out _ KZ;clear dz cz
  go_wp2
  go_ret
  obtain⟨H5,G5⟩:=HP.out z KZ;rw[HR2.out] at HRW;exact⟨by rw[h1.out];rfl,⟨⟨_,_,_,H5⟩,H.out.asc,H.out.keys,H.out.vals,by rw[List.length_set];exact H.out.len,HRW.out⟩,(GrownS.none_ (S:=S) KZ).trans G5 (fun _ hi _=>hi)⟩
theorem K7_ (S:Nat→Prop) (b:Nat) (L:List (Int×Int)) (acc:Int) (R:List Int) (w:World) (h:RLed S w b L acc R) (hl:L.length≤1000000000) :
  Calls prog 53 #[.pointer (some ⟨b,0,none⟩)] w (RetOwn intF 1 3 (L.map (·.1)) w):=by
 obtain⟨vw,vt,vr,H0⟩:=h.rl;obtain⟨oa,oc,rfl⟩:=H0.ow.shape
 have hlen :(L.map (·.1)).length=L.length:=by simp
 have hb1 :(L.map (·.1)).length*8≤140737488355328:=by omega
 have hb2 :(L.map (·.1)).length≤9223372036854775807:=by omega
 have ax:=(H0.same (ga_ w (.cells #[] 3) none)).blk.cell;unfold Bu_ at ax;have N:=A0_ (e:=3) intF 1 (le_ w.heap.size);have RW:=(H0.ow.rd).same (ga_ w (.cells #[] 3) none);clear h H0 hlen;generalize L.map (·.1)=W at *
 go_enter func53,ntmps53
 go_wp2_with (at_builtin;refine A5_ Ca_ B9_ N RW rfl hb1 hb2 (by simp) ?_;intro v4 w4 o4 g4 l4)
 go_ret
 exact⟨_,rfl,o4,Aa_ (ga_ w _ none) g4⟩
theorem L6_ (S:Nat→Prop) (b:Nat) (L:List (Int×Int)) (acc:Int) (R:List Int) (w:World) (h:RLed S w b L acc R) :
  Calls prog 58 #[.pointer (some ⟨b,0,none⟩)] w (RetOwn wordF 1 22 R w):=by
 obtain⟨vw,vt,vr,H0⟩:=h.rl;obtain⟨oa,oc,rfl⟩:=H0.or.shape;have hlen:=h.len
 have hb1:R.length*8≤140737488355328:=by omega
 have hb2:R.length≤9223372036854775807:=by omega
 have ax:=(H0.same (ga_ w (.cells #[] 22) none)).blk.cell;unfold Bu_ at ax;have N:=A0_ (e:=22) wordF 1 (le_ w.heap.size);have RW:=(H0.or.rd).same (ga_ w (.cells #[] 22) none);clear h H0 hlen
 go_enter func58,ntmps58
 go_wp2_with (at_builtin;refine A5_ Dk_ Dm_ N RW rfl hb1 hb2 (by simp) ?_;intro v4 w4 o4 g4 l4)
 go_ret
 exact⟨_,rfl,o4,Aa_ (ga_ w _ none) g4⟩
theorem Ji_ (S:Nat→Prop) (b:Nat) (L:List (Int×Int)) (acc:Int) (R:List Int) (w:World) (h:RLed S w b L acc R) :
  Calls prog 88 #[.pointer (some ⟨b,0,none⟩)] w (RetInt acc w):=by
 obtain⟨vw,vt,vr,H0⟩:=h.rl;have ax:=H0.blk.cell;unfold Bu_ at ax;clear h H0
 go_enter func88,ntmps88
 go_wp2
 go_ret
 exact Aj_ rfl (Ab_ _ _)
end
section
open Go.RowKit Go.Sort
theorem C1_ {L:List Fp} (h:L.Pairwise Off) {i j:Nat} {P Q:Fp} (hi:L[i]?=some P) (hj:L[j]?=some Q) (hne:i≠j):Off P Q:=by
 obtain⟨hi1,rfl⟩:=gs_ hi;obtain⟨hj1,rfl⟩:=gs_ hj
 rcases Nat.lt_or_gt_of_ne hne with hlt|hlt
 ·exact List.pairwise_iff_getElem.1 h i j hi1 hj1 hlt
 ·exact(List.pairwise_iff_getElem.1 h j i hj1 hi1 hlt).symm
theorem Ea_ {w:World} {L:List Fp} (h:L.Pairwise Off) (hl:∀P∈L,Low w P) {j:Nat} {P P':Fp} (hj:L[j]?=some P) (hn:∀i,P' i→P i∨w.heap.size≤i) :(L.set j P').Pairwise Off:=by
 have hjl:=(gs_ hj).1
 have ho:∀i Q,i≠j→L[i]?=some Q→Off Q P':=fun i Q hne hi k hk hf=>by
  rcases hn k hf with e|e
  ·exact C1_ h hi hj hne k hk e
  ·have:=hl Q (mo_ hi) k hk;omega
 refine List.pairwise_iff_getElem.2 fun a b ha hb hab=>?_
 rw[List.length_set] at ha hb
 by_cases hja:j=a
 ·subst hja
  rw[List.getElem_set_self,List.getElem_set_ne (by omega)];exact(ho b _ (by omega) (gq_ hb)).symm
 ·by_cases hjb:j=b
  ·subst hjb
   rw[List.getElem_set_self,List.getElem_set_ne hja];exact ho a _ (by omega) (gq_ ha)
  ·rw[List.getElem_set_ne hja,List.getElem_set_ne hjb]
   exact List.pairwise_iff_getElem.1 h a b ha hb hab
theorem RLed.tight {S:Fp} {w:World} {b:Nat} {L:List (Int×Int)} {acc:Int} {R:List Int} (h:RLed S w b L acc R):∃F:Fp,RLed F w b L acc R∧Low w F∧∀i,F i→S i:=by
 obtain⟨vw,vt,vr,r⟩:=h.rl;refine⟨fun i=>i=b∨ownF vw i∨ownF vt i∨ownF vr i,⟨⟨vw,vt,vr,⟨r.blk,r.ow,r.ot,r.or,.inl rfl,fun g hg=>⟨.inr (.inl hg),(r.sw g hg).2⟩,fun g hg=>⟨.inr (.inr (.inl hg)),(r.st g hg).2⟩,fun g hg=>⟨.inr (.inr (.inr hg)),(r.sr g hg).2⟩,r.awt,r.awr,r.atr⟩⟩,h.asc,h.keys,h.vals,h.len,h.rw⟩,fun i hi=>?_,fun i hi=>?_⟩
 ·rcases hi with rfl|hi|hi|hi
  ·exact r.blk.lt
  ·exact r.ow.low i hi
  ·exact r.ot.low i hi
  ·exact r.or.low i hi
 ·rcases hi with rfl|hi|hi|hi
  ·exact r.sb
  ·exact(r.sw i hi).1
  ·exact(r.st i hi).1
  ·exact(r.sr i hi).1
theorem RLed.mono {S T:Fp} {w:World} {b:Nat} {L:List (Int×Int)} {acc:Int} {R:List Int} (h:RLed S w b L acc R) (hT:∀i,S i→T i):RLed T w b L acc R:=by
 obtain⟨vw,vt,vr,r⟩:=h.rl;exact⟨⟨vw,vt,vr,⟨r.blk,r.ow,r.ot,r.or,hT _ r.sb,fun g hg=>⟨hT _ (r.sw g hg).1,(r.sw g hg).2⟩,fun g hg=>⟨hT _ (r.st g hg).1,(r.st g hg).2⟩,fun g hg=>⟨hT _ (r.sr g hg).1,(r.sr g hg).2⟩,r.awt,r.awr,r.atr⟩⟩,h.asc,h.keys,h.vals,h.len,h.rw⟩
def upF (F:Fp) (n:Nat):Fp:=fun i=>F i∨n≤i
theorem RLed.mov {F:Fp} {w w':World} {b:Nat} {L:List (Int×Int)} {acc:Int} {R:List Int} (h:RLed (upF F w.heap.size) w' b L acc R) (g:GrownS (upF F w.heap.size) w w'):∃F',RLed F' w' b L acc R∧Low w' F'∧Mov F F' w w':=by
 obtain⟨F',h1,h2,h3⟩:=h.tight;exact⟨F',h1,h2,⟨g.mono fun i hi hlt=>hi.elim id fun e=>absurd hlt (by omega),h3⟩⟩
abbrev rcluA (c:Cfg) (mark:Int) (vb:Value) (skip:Int) (broken:Bool) (bl:Nat) (vs vi:Value):Array Value:=#[.int .i64 c.Length,.int .i64 c.Lateness,.int .i64 c.Windows,.int .i64 c.Shards,.int .i64 c.Spread,.int .i64 c.Queue,.int .i64 c.Mode,.int .i64 c.Slots,.int .i64 c.Exact,.int .u64 c.Promote,.int .i64 c.Depth,.int .i64 c.Width,.int .i64 c.Top,.int .i64 c.Key,c.Classes,c.Table,.int .u64 c.Seed,.int .i64 mark,vb,.int .u64 skip,.bool broken,.pointer (some ⟨bl,0,none⟩),vs,vi]
structure RcG where
 (g:Nat) (vb:Value) (bl:Nat) (LF:Fp) (vs vi:Value) (sh:List RshG)
def RcG.parts (G:RcG):List Fp:=[oneF G.g,ownF G.vb,G.LF,ownF G.vs,ownF G.vi]++G.sh.map RshG.F
def RcG.F (G:RcG):Fp:=fun i=>∃P∈G.parts,P i
structure RcC (w:World) (G:RcG) (c:Cfg) (t:List Int) (K:CluM):Prop where
 gl:G.g<w.heap.size
 buf:Own byF 1 5 0 w G.vb K.str.buf
 led:RLed G.LF w G.bl K.led K.acc K.rej
 lel:Low w G.LF
 sp:Own ptrF 1 104 0 w G.vs (G.sh.map (·.g))
 it:Own itF 3 41 0 w G.vi K.items
 len:G.sh.length=K.sh.length
 shd:∀(i:Nat) s S,G.sh[i]?=some s→K.sh[i]?=some S→RSh w s c t S
 ap:G.parts.Pairwise Off
structure RClu (w:World) (G:RcG) (c:Cfg) (t:List Int) (K:CluM):Prop where
 blk:Blk w G.g (rcluA c K.mark G.vb K.str.skip K.str.broken G.bl G.vs G.vi)
 core:RcC w G c t K
section
variable {w w':World} {G:RcG} {c:Cfg} {t:List Int} {K:CluM}
theorem RcG.part_sh {i:Nat} {s:RshG} (h:G.sh[i]?=some s):G.parts[5+i]?=some s.F:=by
 unfold RcG.parts;rw[List.getElem?_append_right (by simp),show 5+i-[oneF G.g,ownF G.vb,G.LF,ownF G.vs,ownF G.vi].length=i by simp,List.getElem?_map,h];rfl
theorem RcC.shOf (h:RcC w G c t K) {s:RshG} (hs:s∈G.sh):∃(i:Nat) (S:ShM),G.sh[i]?=some s∧K.sh[i]?=some S∧RSh w s c t S:=by
 obtain⟨i,hi,e⟩:=List.getElem_of_mem hs
 have h1:G.sh[i]?=some s:=by rw[gq_ hi,e]
 have h2:i<K.sh.length:=by rw[←h.len];exact hi
 exact⟨i,K.sh[i],h1,gq_ h2,h.shd i _ _ h1 (gq_ h2)⟩
theorem RcC.lows (h:RcC w G c t K):∀P∈G.parts,Low w P:=by
 intro P hP;unfold RcG.parts at hP
 rcases ma_ hP with hP|hP
 ·simp only[List.mem_cons,List.not_mem_nil,or_false] at hP
  rcases hP with rfl|rfl|rfl|rfl|rfl
  ·intro i hi;rw[show i=G.g from hi];exact h.gl
  ·exact h.buf.low
  ·exact h.lel
  ·exact h.sp.low
  ·exact h.it.low
 ·obtain⟨s,hs,rfl⟩:=List.mem_map.1 hP
  obtain⟨_,_,_,_,hR⟩:=h.shOf hs;exact hR.low
theorem RcC.low (h:RcC w G c t K):Low w G.F:=fun i ⟨P,hP,hi⟩=>h.lows P hP i hi
theorem RcC.keptS {S:Fp} (h:RcC w G c t K) (k:GrownS S w w') (ho:∀P∈G.parts.drop 1,Off P S):RcC w' G c t K:=by
 have m1:ownF G.vb∈G.parts.drop 1:=by simp[RcG.parts]
 have m2:G.LF∈G.parts.drop 1:=by simp[RcG.parts]
 have m3:ownF G.vs∈G.parts.drop 1:=by simp[RcG.parts]
 have m4:ownF G.vi∈G.parts.drop 1:=by simp[RcG.parts]
 refine⟨ll_ h.gl k.size,h.buf.offS k (ho _ m1),h.led.keptS k (ho _ m2),h.lel.up k.size,h.sp.offS k (ho _ m3),h.it.offS k (ho _ m4),h.len,fun i s S e1 e2=>(h.shd i s S e1 e2).keptS k (ho _ ?_),h.ap⟩
 have:s.F∈G.sh.map RshG.F:=List.mem_map_of_mem (mo_ e1)
 simp[RcG.parts,this]
theorem RcC.same (h:RcC w G c t K) (k:w.grownBy w' none):RcC w' G c t K:=h.keptS (GrownS.none_ (S:=fun _=>False) k) fun _ _ _ _=>id
theorem RcC.own (h:RcC w G c t K) (k:GrownS (oneF G.g) w w'):RcC w' G c t K:=by
 refine h.keptS k fun P hP=>?_
 obtain⟨i,hi,e⟩:=List.getElem_of_mem hP;rw[List.getElem_drop] at e;rw[List.length_drop] at hi;exact C1_ h.ap (i:=1+i) (j:=0) (by rw[gq_ (by omega),e]) rfl (by omega)
theorem RcC.off (h:RcC w G c t K) {i j:Nat} {P Q:Fp} (hi:G.parts[i]?=some P) (hj:G.parts[j]?=some Q) (hne:i≠j):Off P Q:=C1_ h.ap hi hj hne
theorem RcC.setB (h:RcC w G c t K) (k:w.grownBy w' none) {v':Value} {b':List UInt8} (ho:Own byF 1 5 w.heap.size w' v' b'):RcC w' { G with vb:=v' } c t { K with str:={ K.str with buf:=b' } }:=by
 have h1:=h.same k;refine⟨h1.gl,ho.zero,h1.led,h1.lel,h1.sp,h1.it,h1.len,h1.shd,?_⟩
 exact Ea_ (j:=1) (P:=ownF G.vb) (P':=ownF v') h.ap h.lows rfl fun i hi=>.inr (ho.lt i hi).1
theorem RcC.setL (h:RcC w G c t K) {F':Fp} {led':List (Int×Int)} {acc':Int} {rej':List Int} (hr:RLed F' w' G.bl led' acc' rej') (hl:Low w' F') (m:Mov G.LF F' w w'):RcC w' { G with LF:=F' } c t { K with led:=led',acc:=acc',rej:=rej' }:=by
 refine⟨ll_ h.gl m.size,h.buf.offS m.grown (h.off (i:=1) (j:=2) rfl rfl (by omega)),hr,hl,h.sp.offS m.grown (h.off (i:=3) (j:=2) rfl rfl (by omega)),h.it.offS m.grown (h.off (i:=4) (j:=2) rfl rfl (by omega)),h.len,fun i s S e1 e2=>(h.shd i s S e1 e2).keptS m.grown (h.off (i:=5+i) (j:=2) (RcG.part_sh e1) rfl (by omega)),?_⟩;exact Ea_ (j:=2) (P:=G.LF) (P':=F') h.ap h.lows rfl m.new
theorem RcC.setI (h:RcC w G c t K) {v':Value} {l':List ItR} (ho:Own itF 3 41 0 w' v' l') (k:w.grownBy w' G.vi.ownBlock) (hL:Lies G.vi v' w.heap.size):RcC w' { G with vi:=v' } c t { K with items:=l' }:=by
 have g:GrownS (ownF G.vi) w w':=GrownS.of k fun j hj=>hj
 refine⟨ll_ h.gl k.size,h.buf.offS g (h.off (i:=1) (j:=4) rfl rfl (by omega)),h.led.keptS g (h.off (i:=2) (j:=4) rfl rfl (by omega)),h.lel.up g.size,h.sp.offS g (h.off (i:=3) (j:=4) rfl rfl (by omega)),ho,h.len,fun i s S e1 e2=>(h.shd i s S e1 e2).keptS g (h.off (i:=5+i) (j:=4) (RcG.part_sh e1) rfl (by omega)),?_⟩
 refine Ea_ (j:=4) (P:=ownF G.vi) (P':=ownF v') h.ap h.lows rfl fun i hi=>?_
 rcases hL with e |⟨m,e1,e2⟩
 ·left;unfold ownF at hi ⊢;rw[←e];exact hi
 ·right;unfold ownF at hi;rw[e1] at hi;cases hi;exact e2
theorem Hq_ {i:Nat} {s s':RshG} (hi:G.sh[i]?=some s):RcG.parts { G with sh:=G.sh.set i s' }=G.parts.set (5+i) s'.F:=by
 unfold RcG.parts;dsimp only;rw[List.set_append_right _ _ (by simp),List.map_set]
 simp
theorem RcC.setS (h:RcC w G c t K) {i:Nat} {s s':RshG} {S':ShM} (hi:G.sh[i]?=some s) (hR:RSh w' s' c t S') (m:Mov s.F s'.F w w') (hg:s'.g=s.g):RcC w' { G with sh:=G.sh.set i s' } c t { K with sh:=K.sh.set i S' }:=by
 have hil:=(gs_ hi).1;have hp:=RcG.part_sh hi;refine⟨ll_ h.gl m.size,h.buf.offS m.grown (h.off (i:=1) (j:=5+i) rfl hp (by omega)),h.led.keptS m.grown (h.off (i:=2) (j:=5+i) rfl hp (by omega)),h.lel.up m.size,?_,h.it.offS m.grown (h.off (i:=4) (j:=5+i) rfl hp (by omega)),by simp[h.len],?_,?_⟩
 ·have e :(G.sh.set i s').map (·.g)=G.sh.map (·.g):=by
   rw[List.map_set]
   refine List.ext_getElem? fun j=>?_
   by_cases hij:i=j
   ·subst hij
    rw[List.getElem?_set_self (by simpa using hil),List.getElem?_map,hi];simp[hg]
   ·rw[List.getElem?_set_ne hij]
  show Own ptrF 1 _ 0 w' G.vs ((G.sh.set i s').map (·.g))
  rw[e];exact h.sp.offS m.grown (h.off (i:=3) (j:=5+i) rfl hp (by omega))
 ·intro j u U e1 e2
  by_cases hij:i=j
  ·subst hij
   have hl:i<K.sh.length:=by rw[←h.len];exact hil
   have e1':some s'=some u:=(List.getElem?_set_self hil).symm.trans e1;have e2':some S'=some U:=(List.getElem?_set_self hl).symm.trans e2;cases e1';cases e2';exact hR
  ·have e1':G.sh[j]?=some u:=(List.getElem?_set_ne hij).symm.trans e1
   have e2':K.sh[j]?=some U:=(List.getElem?_set_ne hij).symm.trans e2;exact(h.shd j u U e1' e2').keptS m.grown (h.off (i:=5+j) (j:=5+i) (RcG.part_sh e1') hp (by omega))
 ·rw[Hq_ hi]
  exact Ea_ h.ap h.lows hp m.new
theorem RcG.F_part {j:Nat} {P:Fp} (h:G.parts[j]?=some P):∀i,P i→G.F i:=fun i hi=>⟨P,mo_ h,hi⟩
theorem mem_partsF {L:List Fp} {j:Nat} {P':Fp} {i:Nat} (h:∃P∈L.set j P',P i):P' i∨∃P∈L,P i:=by
 obtain⟨P,hP,hi⟩:=h
 rcases List.mem_or_eq_of_mem_set hP with hP|rfl
 ·exact .inr ⟨P,hP,hi⟩
 ·exact .inl hi
theorem RClu.same (h:RClu w G c t K) (k:w.grownBy w' none):RClu w' G c t K:=⟨h.blk.same k,h.core.same k⟩
theorem RClu.low (h:RClu w G c t K):Low w G.F:=h.core.low
theorem RClu.keptS {S:Fp} (h:RClu w G c t K) (k:GrownS S w w') (ho:Off G.F S):RClu w' G c t K:=
 ⟨h.blk.keptS k (ho G.g ⟨oneF G.g,by simp[RcG.parts],rfl⟩),h.core.keptS k fun P hP=>ho.left fun i hi=>⟨P,List.mem_of_mem_drop hP,hi⟩⟩
theorem RClu.setM (h:RClu w G c t K) (k:w.grownBy w' none) (m:Int):RClu (w'.setCell ⟨G.g,17,none⟩ (.int .i64 m)) G c t { K with mark:=m }∧Mov G.F G.F w (w'.setCell ⟨G.g,17,none⟩ (.int .i64 m)):=by
 have hg:GrownS (oneF G.g) w' (w'.setCell ⟨G.g,17,none⟩ (.int .i64 m)):=GrownS.of (Ac_ (Ab_ w' (some G.g)) 17 _) fun k e=>by cases e;rfl
 refine⟨⟨(h.blk.same k).set_ 17 _ rfl,?_⟩,⟨((GrownS.none_ k).trans hg fun i hi _=>RcG.F_part (j:=0) rfl i hi),fun i hi=>.inl hi⟩⟩
 have:=(h.core.same k).own hg
 exact⟨this.gl,this.buf,this.led,this.lel,this.sp,this.it,this.len,this.shd,this.ap⟩
theorem RClu.setL (h:RClu w G c t K) {F':Fp} {led':List (Int×Int)} {acc':Int} {rej':List Int} (hr:RLed F' w' G.bl led' acc' rej') (hl:Low w' F') (m:Mov G.LF F' w w'):RClu w' { G with LF:=F' } c t { K with led:=led',acc:=acc',rej:=rej' }∧Mov G.F (RcG.F { G with LF:=F' }) w w':=by
 have h0:=C1_ h.core.ap (i:=0) (j:=2) rfl rfl (by omega);refine⟨⟨h.blk.keptS m.grown (h0 G.g rfl),h.core.setL hr hl m⟩,m.wide (RcG.F_part (j:=2) rfl) fun i hi=>?_⟩
 have:RcG.parts { G with LF:=F' }=G.parts.set 2 F':=rfl
 unfold RcG.F at hi;rw[this] at hi;exact(mem_partsF hi).elim .inr .inl
theorem RClu.setS (h:RClu w G c t K) {i:Nat} {s s':RshG} {S':ShM} (hi:G.sh[i]?=some s) (hR:RSh w' s' c t S') (m:Mov s.F s'.F w w') (hg:s'.g=s.g):RClu w' { G with sh:=G.sh.set i s' } c t { K with sh:=K.sh.set i S' }∧Mov G.F (RcG.F { G with sh:=G.sh.set i s' }) w w':=by
 have h0:=C1_ h.core.ap (i:=0) (j:=5+i) rfl (RcG.part_sh hi) (by omega);refine⟨⟨h.blk.keptS m.grown (h0 G.g rfl),h.core.setS hi hR m hg⟩,m.wide (RcG.F_part (RcG.part_sh hi)) fun j hj=>?_⟩;unfold RcG.F at hj;rw[Hq_ hi] at hj;exact(mem_partsF hj).elim .inr .inl
theorem RClu.setI (h:RClu w G c t K) {v':Value} {l':List ItR} (ho:Own itF 3 41 0 w' v' l') (k:w.grownBy w' G.vi.ownBlock) (hL:Lies G.vi v' w.heap.size) :
  Blk w' G.g (rcluA c K.mark G.vb K.str.skip K.str.broken G.bl G.vs G.vi)∧RClu (w'.setCell ⟨G.g,23,none⟩ v') { G with vi:=v' } c t { K with items:=l' }∧Mov G.F (RcG.F { G with vi:=v' }) w (w'.setCell ⟨G.g,23,none⟩ v'):=by
 have h0:=C1_ h.core.ap (i:=0) (j:=4) rfl rfl (by omega)
 have g:GrownS (ownF G.vi) w w':=GrownS.of k fun j hj=>hj
 have hb:=h.blk.keptS g (h0 G.g rfl)
 have hg:GrownS (oneF G.g) w' (w'.setCell ⟨G.g,23,none⟩ v'):=GrownS.of (Ac_ (Ab_ w' (some G.g)) 23 _) fun k e=>by cases e;rfl
 refine⟨hb,⟨hb.set_ 23 _ rfl,(h.core.setI ho k hL).own hg⟩,⟨(g.mono fun i hi _=>RcG.F_part (j:=4) rfl i hi).trans hg fun i hi _=>RcG.F_part (j:=0) rfl i hi,fun i hi=>?_⟩⟩
 have:RcG.parts { G with vi:=v' }=G.parts.set 4 (ownF v'):=rfl
 unfold RcG.F at hi;rw[this] at hi
 rcases mem_partsF hi with hi|hi
 ·rcases hL with e |⟨m,e1,e2⟩
  ·left;exact RcG.F_part (j:=4) (P:=ownF G.vi) rfl i (by unfold ownF at hi ⊢;rw[←e];exact hi)
  ·right;unfold ownF at hi;rw[e1] at hi;cases hi;exact e2
 ·exact .inl hi
theorem RClu.setB (h:RClu w G c t K) (k:w.grownBy w' none) {v':Value} {S':StrM} (ho:Own byF 1 5 w.heap.size w' v' S'.buf) :
  RClu (((w'.setCell ⟨G.g,18,none⟩ v').setCell ⟨G.g,19,none⟩ (.int .u64 S'.skip)).setCell ⟨G.g,20,none⟩ (.bool S'.broken)) { G with vb:=v' } c t { K with str:=S' }∧Mov G.F (RcG.F { G with vb:=v' }) w (((w'.setCell ⟨G.g,18,none⟩ v').setCell ⟨G.g,19,none⟩ (.int .u64 S'.skip)).setCell ⟨G.g,20,none⟩ (.bool S'.broken)):=by
 have hg:GrownS (oneF G.g) w' (((w'.setCell ⟨G.g,18,none⟩ v').setCell ⟨G.g,19,none⟩ (.int .u64 S'.skip)).setCell ⟨G.g,20,none⟩ (.bool S'.broken)):=GrownS.of (Ac_ (Ac_ (Ac_ (Ab_ w' (some G.g)) _ _) _ _) _ _) fun k e=>by cases e;rfl
 refine⟨⟨(((h.blk.same k).set_ 18 _ rfl).set_ 19 _ rfl).set_ 20 _ rfl,?_⟩,⟨(GrownS.none_ k).trans hg fun i hi _=>RcG.F_part (j:=0) rfl i hi,fun i hi=>?_⟩⟩
 ·have:=(h.core.setB k ho).own hg
  exact⟨this.gl,this.buf,this.led,this.lel,this.sp,this.it,this.len,this.shd,this.ap⟩
 ·have:RcG.parts { G with vb:=v' }=G.parts.set 1 (ownF v'):=rfl
  unfold RcG.F at hi;rw[this] at hi
  rcases mem_partsF hi with hi|hi
  ·exact .inr (ho.lt i hi).1
  ·exact .inl hi
end
end
section
open Go.RowKit
def Ed_ (o:List Int) (k:Nat) (x:Int):List Int:=o.set k (o[k]?.getD 0+x)
theorem Il_ (o:List Int) (k:Nat) (x:Int) :(Ed_ o k x).length=o.length:=by simp[Ed_]
def trkN (c:Cfg):Int:=c.Shards*c.Windows*(c.Slots+c.Exact)
def queN (c:Cfg):Int:=c.Shards*c.Queue
def rowN (c:Cfg):Int:=c.Shards*c.Windows*c.Depth
def demB1 (c:Cfg) (l:List (Int×Int)):List Int:=Ed_ (List.replicate l.length 0) (fitI l (8*c.Width)) (rowN c)
def demB2 (c:Cfg) (l:List (Int×Int)):List Int:=Ed_ (demB1 c l) (fitI l 32) (trkN c)
def demB (c:Cfg) (l:List (Int×Int)):List Int:=Ed_ (demB2 c l) (fitI l 24) (queN c)
def keyF (l:List (Int×Int)) (X:Int) (d:List Int):Nat→Int×List Int
 | 0=>(-1,d)
 | n+1=>if ((fitI l ((n+1:Nat):Int):Nat):Int)≠(keyF l X d n).1 then (((fitI l ((n+1:Nat):Int):Nat):Int),Ed_ (keyF l X d n).2 (fitI l ((n+1:Nat):Int)) X) else keyF l X d n
def demF (c:Cfg) (l:List (Int×Int)):List Int:=(keyF l (trkN c+queN c) (demB c l) c.Key.toNat).2
def BdL (o:List Int) (M:Int):Prop:=∀k:Nat,0≤o[k]?.getD 0∧o[k]?.getD 0≤M
theorem BdL.add {o:List Int} {M x X:Int} (h:BdL o M) (hx:0≤x∧x≤X) (k:Nat):BdL (Ed_ o k x) (M+X):=by
 intro j;have h1:=h j;have h2:=h k;unfold Ed_;simp only[List.getElem?_set] at *
 by_cases e:k=j
 ·subst e
  rw[if_pos rfl]
  by_cases hl:k<o.length
  ·rw[if_pos hl];simp only[Option.getD_some];omega
  ·rw[if_neg hl];simp only[Option.getD_none];omega
 ·rw[if_neg e];omega
theorem BdL.zero (n:Nat):BdL (List.replicate n 0) 0:=by
 intro k;rw[List.getElem?_replicate]
 split <;> simp
theorem Ly_ (l:List (Int×Int)) (X:Int) (d:List Int):∀n,(keyF l X d n).2.length=d.length
 | 0=>rfl
 | n+1=>by
  unfold keyF;split
  ·simp only;rw[Il_,Ly_ l X d n]
  ·exact Ly_ l X d n
theorem BdL.mono {o:List Int} {M M':Int} (h:BdL o M) (hm:M≤M'):BdL o M':=fun k=>⟨(h k).1,Int.le_trans (h k).2 hm⟩
theorem Vv_ {l:List (Int×Int)} {X M:Int} {d:List Int} (h:BdL d M) (hX:0≤X∧X≤7000):∀n:Nat,BdL (keyF l X d n).2 (M+7000*n)
 | 0=>h.mono (by simp)
 | n+1=>by
  have ih:=Vv_ (l:=l) h hX n;unfold keyF;split
  ·exact(ih.add (x:=X) (X:=7000) hX (fitI l ((n+1:Nat):Int))).mono (by omega)
  ·exact ih.mono (by omega)
theorem U4_ {c:Cfg} (h:CfgNums c):0≤rowN c∧rowN c≤256:=by
 have a1:=h.shards;have a2:=h.windows;have a3:=h.depth
 have m1:c.Shards*c.Windows≤64:=by have:=Int.mul_le_mul a1.2 a2.2 (by omega) (by omega);simpa using this
 have m0:0≤c.Shards*c.Windows:=Int.mul_nonneg (by omega) (by omega)
 have m2:c.Shards*c.Windows*c.Depth≤256:=by have:=Int.mul_le_mul m1 a3.2 (by omega) (by omega);simpa using this
 exact⟨Int.mul_nonneg m0 (by omega),m2⟩
theorem Ll_ {c:Cfg} (h:CfgNums c):0≤trkN c∧trkN c≤6144:=by
 have a1:=h.shards;have a2:=h.windows;have a3:=h.slots;have a4:=h.exact
 have m1:c.Shards*c.Windows≤64:=by have:=Int.mul_le_mul a1.2 a2.2 (by omega) (by omega);simpa using this
 have m0:0≤c.Shards*c.Windows:=Int.mul_nonneg (by omega) (by omega)
 have m2:c.Shards*c.Windows*(c.Slots+c.Exact)≤6144:=by have:=Int.mul_le_mul m1 (show c.Slots+c.Exact≤96 by omega) (by omega) (by omega);simpa using this
 exact⟨Int.mul_nonneg m0 (by omega),m2⟩
theorem L9_ {c:Cfg} (h:CfgNums c):0≤queN c∧queN c≤512:=by
 have a1:=h.shards;have a2:=h.queue
 have m1:c.Shards*c.Queue≤512:=by have:=Int.mul_le_mul a1.2 a2.2 (by omega) (by omega);simpa using this
 exact⟨Int.mul_nonneg (by omega) (by omega),m1⟩
theorem Qk_ {c:Cfg} {l:List (Int×Int)} (h:CfgNums c):BdL (demB1 c l) 256:=by
 exact((BdL.zero l.length).add (U4_ h) (fitI l (8*c.Width))).mono (by omega)
theorem Qx_ {c:Cfg} {l:List (Int×Int)} (h:CfgNums c):BdL (demB2 c l) 6400:=(Qk_ h).add (Ll_ h) _
theorem Wn_ {c:Cfg} {l:List (Int×Int)} (h:CfgNums c):BdL (demB c l) 6912:=(Qx_ h).add (L9_ h) _
theorem Zw_ (c:Cfg) (l:List (Int×Int)) :(demB c l).length=l.length:=by simp[demB,demB2,demB1,Il_]
theorem Ky_ (c:Cfg) (l:List (Int×Int)) :(demF c l).length=l.length:=by unfold demF;rw[Ly_,Zw_]
theorem gi_ {c:Cfg} {l:List (Int×Int)} (h:CfgNums c) {n:Nat} (hn:n≤256):BdL (keyF l (trkN c+queN c) (demB c l) n).2 2000000:=by
 have h1:=Ll_ h;have h2:=L9_ h
 have:=Vv_ (l:=l) (X:=trkN c+queN c) (Wn_ (l:=l) h) (by omega) n
 intro k
 have:=this k
 omega
def dh_ (o:List Int) (w:World) (e:Ending) (w':World):Prop:=
 ∃B,e=.returned (.tuple #[.slice (some ⟨B,0,none⟩) o.length o.length,.int .i64 0])∧w.heap.size≤B∧OutAt w' B o∧w.grownBy w' none
structure Df_ (c:Cfg) (n:Nat) (w:World) (B:Nat) (out:List Int) (wx:World):Prop where
 box:BoxAt wx w.heap.size c
 len:out.length=n
 out:OutAt wx B out
 grown:w.grownBy wx none
 lt:w.heap.size<B
section
variable {c:Cfg} {n:Nat} {w:World} {B:Nat} {out:List Int} {wx wy:World}
theorem Df_.set (h:Df_ c n w B out wx) (k:Nat) (x:Int):Df_ c n w B (out.set k x) (wx.setCell ⟨B,k,none⟩ (.int .i64 x)):=
 ⟨h.box.kept (Ac_ (Ab_ wx _) k _) (by have:=h.lt;simp;omega),by simpa using h.len,h.out.set k x,Ai_ h.grown (Nat.le_of_lt h.lt) _,h.lt⟩
theorem Df_.add (h:Df_ c n w B out wx) (k:Nat) (x:Int):Df_ c n w B (Ed_ out k x) (wx.setCell ⟨B,k,none⟩ (.int .i64 (out[k]?.getD 0+x))):=h.set k _
theorem Df_.same (h:Df_ c n w B out wx) (hg:wx.grownBy wy none):Df_ c n w B out wy:=
 ⟨h.box.same hg,h.len,h.out.kept hg (by simp),Aa_ h.grown hg,h.lt⟩
theorem Df_.drew (h:Df_ c n w B out wx):Df_ c n w B out wx.drew:=h.same (Al_ (Ab_ _ _))
theorem Df_.cell (h:Df_ c n w B out wx) {k:Nat} (hk:k<n):wx.cell? ⟨B,k,none⟩=some (.int .i64 (out[k]?.getD 0)):=by
 rw[←List.getD_eq_getElem?_getD];exact h.out.cell (by rw[h.len];exact hk)
theorem Df_.free (h:Df_ c n w B out wx) (k:Nat):wx.frozen? ⟨B,k,none⟩=false:=h.out.free k
end
attribute [local go_sem ↓] Ag_
attribute [local go_sem] Ah_
theorem Mu_ (c:Cfg) (l:List (Int×Int)) (t:List Int) (w:World) (hn:CfgNums c) (hm:CfgMem c l t w) (hc:G1_ c l) :
  Calls prog 40 #[c.val] w (dh_ (demF c l) w):=by
 obtain⟨a11,a12⟩:=hn.width;have hp:0<l.length:=hc.ok.pos;have hp8:l.length≤8:=hc.ok.len;obtain⟨g,off,cap,hv,hgl,hcl⟩:=hm.classes.cell Du_ hp;have k1:=L4_ (8*c.Width) hp;have k2:=L4_ 32 hp;have k3:=L4_ 24 hp;have Hn:=hh_ hn;have Hm:=hh_ hm;have Hc:=hh_ hc;have Hv:=hh_ hv
 have HR:Hid (∀w',w.grownBy w' none→RdL clsF 2 w' (.slice (some ⟨g,off,none⟩) l.length cap) l):=hh_ fun w' hg=>by rw[←hv];exact(hm.same hg).classes
 have hmk:=Ui_ l.length (by omega);clear hn hm hc hcl hv
 go_enter func40,ntmps40
 go_upto_region 6 with(first |(refine At_ rfl _ rfl c rfl ?_;intro w1 B1 G1 z1) |(refine An_ rfl _ rfl _ rfl c (by assumption) ?_) |(go_at_call 75;refine(Nk_ c l t _ Hn.out (Hm.out.same G1) Hc.out).mono ?_;rintro e w2 ⟨rfl,G2⟩;have B2:=B1.same G2;have K2:=Aa_ G1 G2;have hb2:=B2.cell;simp only[Cfg.arr,Hv.out] at hb2;have z2:=ll_ z1 G2.size;clear G1 G2 B1 z1) |(go_at_call 76;refine(V1_ _ l _ _ (HR.out _ (Aa_ K2 (ga_ w2 _ _)))).mono ?_;rintro e w3 ⟨rfl,G3⟩;have B3:=(B2.same (ga_ w2 _ _)).same G3;have O3:=hh_ ((OutAt.new w2 l.length).kept G3 (by simp));have K3:=Aa_ (Aa_ K2 (ga_ w2 _ _)) G3;have hb3:=B3.cell;simp only[Cfg.arr,Hv.out] at hb3;clear hb2 G3 B2))
 obtain⟨B,hB⟩:∃B,B=w2.heap.size:=⟨_,rfl⟩;have S3:Df_ c l.length w B (List.replicate l.length 0) w3:=⟨B3,by simp,by rw[hB];exact O3.out,K3,by rw[hB];exact z2⟩;have Hd1:=hh_ (show demB1 c l=Ed_ (List.replicate l.length 0) (fitI l (8*c.Width)) (rowN c) from rfl);have hb0:=BdL.zero l.length (fitI l (8*c.Width));have oc:=(S3.cell k1);have oc':=(O3.out.cell (k:=fitI l (8*c.Width)) (by simpa using k1));have of:=O3.out.free (fitI l (8*c.Width))
 have ok :(0:Int)≤(fitI l (8*c.Width):Nat):=by omega
 have ok' :((fitI l (8*c.Width):Nat):Int)<l.length:=by omega
 clear oc';rw[←hB] at of;rw[←hB];clear hmk B3 O3 K3 hB;generalize List.replicate l.length (0:Int)=o0 at *;have R1:=U4_ Hn.out;have R2:=Ll_ Hn.out;have R3:=L9_ Hn.out;unfold rowN at R1;unfold trkN at R2;unfold queN at R3;have R4:0≤c.Shards*c.Windows∧c.Shards*c.Windows≤64:=⟨Int.mul_nonneg (by have:=Hn.out.shards;omega) (by have:=Hn.out.windows;omega),by have:=Int.mul_le_mul Hn.out.shards.2 Hn.out.windows.2 (by have:=Hn.out.windows;omega) (by omega);simpa using this⟩;obtain⟨R1a,R1b⟩:=R1;obtain⟨R2a,R2b⟩:=R2;obtain⟨R3a,R3b⟩:=R3;obtain⟨R4a,R4b⟩:=R4;obtain⟨hb0a,hb0b⟩:=hb0;obtain⟨hsl1,hsl2⟩:=Hn.out.slots;obtain⟨hex1,hex2⟩:=Hn.out.exact
 go_cut [5] (fun s5 wx=>s5=.slice (some ⟨B,0,none⟩) l.length l.length∧Df_ c l.length w B (demB1 c l) wx)
 case first=>
  go_still_tail 14,(by kernel_rfl)
  go_wp2_with fail
  go_meet
  exact⟨rfl,by rw[Hd1.out];exact S3.drew.add _ (rowN c)⟩
 case rest=>
  obtain⟨rfl,S4⟩:=hcut;clear hb3;have hb4:=S4.box.cell;simp only[Cfg.arr,Hv.out] at hb4
  go_upto_region 8 with(go_at_call 76;refine(V1_ _ l _ _ (HR.out _ S4.grown)).mono ?_;rintro e w5 ⟨rfl,G5⟩;have S5:=S4.same G5;clear G5 hb4)
  go_cut [5] (fun s5 wx=>s5=.slice (some ⟨B,0,none⟩) l.length l.length∧Df_ c l.length w B (demB2 c l) wx)
  case first=>
   have Hd2:=hh_ (show demB2 c l=Ed_ (demB1 c l) (fitI l 32) (trkN c) from rfl);obtain⟨bx0,bx1⟩:=Qk_ (l:=l) Hn.out (fitI l 32);generalize demB1 c l=o1 at *;have hx5:=S5.cell k2
   have hk2 :(0:Int)≤(fitI l 32:Nat):=by omega
   have hk2' :((fitI l 32:Nat):Int)<l.length:=by omega
   obtain⟨r1,r2,r3⟩:=S5.box.re;have r4:=cell_regrown hx5
   have r5:=Bn_ (w:=w5) fun w' hg=>Mg_ c l t w' Hn.out (Hm.out.same (Aa_ S5.grown hg)) Hc.out
   refine Tail.wp_region_tail_grown 8 (by kernel_rfl) (by kernel_rfl) ?_;simp only[List.take,List.drop]
   repeat(go_big_quiet_step (exact r5 _ _))
   refine wn_ ?_;rintro _ ⟨⟨d5,os5⟩,rfl⟩;have S5':=S5.same (A3_ w5 d5 os5);have hx5':=S5'.cell k2;have hf5:=S5'.free (fitI l 32);clear r1 r2 r3 r4 r5;generalize Go.Sort.grow (redrawn w5 d5) os5=w6 at *
   go_wp2_with fail
   go_meet
   exact⟨rfl,by rw[Hd2.out];exact S5'.add _ (trkN c)⟩
  case rest=>
   obtain⟨rfl,S6⟩:=hcut;have hb6:=S6.box.cell;simp only[Cfg.arr,Hv.out] at hb6
   go_upto_region 10 with(go_at_call 76;refine(V1_ _ l _ _ (HR.out _ S6.grown)).mono ?_;rintro e w7 ⟨rfl,G7⟩;have S7:=S6.same G7;clear G7 hb6)
   go_cut [5] (fun s5 wx=>s5=.slice (some ⟨B,0,none⟩) l.length l.length∧Df_ c l.length w B (demB c l) wx)
   case first=>
    have Hd3:=hh_ (show demB c l=Ed_ (demB2 c l) (fitI l 24) (queN c) from rfl);obtain⟨bx0,bx1⟩:=Qx_ (l:=l) Hn.out (fitI l 24);generalize demB2 c l=o2 at *;have hx7:=S7.cell k3
    have hk3 :(0:Int)≤(fitI l 24:Nat):=by omega
    have hk3' :((fitI l 24:Nat):Int)<l.length:=by omega
    have hf7:=S7.free (fitI l 24);have hb7:=S7.box.cell
    go_still_tail 11,(by kernel_rfl)
    go_wp2_with fail
    go_meet
    exact⟨rfl,by rw[Hd3.out];exact S7.drew.add _ (queN c)⟩
   case rest=>
    obtain⟨rfl,S8⟩:=hcut;obtain⟨y1,y2⟩:=Hn.out.key;have HF0:=hh_ (show keyF l (trkN c+queN c) (demB c l) 0 =(-1,demB c l) from rfl);have HFs:=hh_ (p:=∀n:Nat,keyF l (trkN c+queN c) (demB c l) (n+1)=if ((fitI l ((n+1:Nat):Int):Nat):Int)≠(keyF l (trkN c+queN c) (demB c l) n).1 then (((fitI l ((n+1:Nat):Int):Nat):Int),Ed_ (keyF l (trkN c+queN c) (demB c l) n).2 (fitI l ((n+1:Nat):Int)) (trkN c+queN c)) else keyF l (trkN c+queN c) (demB c l) n) (fun n=>rfl);have HFe:=hh_ (show demF c l =(keyF l (trkN c+queN c) (demB c l) c.Key.toNat).2 from rfl)
    have HFb:=hh_ fun(n:Nat) (hn:n≤256)=>gi_ (l:=l) Hn.out hn
    have HFl:=hh_ (Ky_ c l);generalize keyF l (trkN c+queN c) (demB c l)=F at *
    go_wp2_with fail
    go_loopw [12,13] (fun s12 s13 wr=>∃(k n:Nat) (la:Int) (o:List Int),k=n+1∧s13=.int .i64 k∧s12=.int .i64 la∧F n =(la,o)∧(k:Int)≤c.Key+1∧Df_ c l.length w B o wr) (fun _ s13 _=>(c.Key+1-RowKit.intOf s13).toNat)
    case atStart=>exact⟨1,0,-1,_,rfl,rfl,rfl,HF0.out,by omega,S8⟩
    case round=>
     obtain⟨k,n,la,o9,hkn,rfl,rfl,hFn,hk,S9⟩:=hrel;have hb9:=S9.box.cell;simp only[Cfg.arr,Hv.out] at hb9;have hbd:=HFb.out n (by omega);have hFs:=HFs.out n;rw[hFn] at hbd hFs;rw[←hkn] at hFs;have HFn:=hh_ hFs;have HKn:=hh_ hkn;have HF2:=hh_ hFn;clear hFs hkn hFn;have kk:=L4_ (l:=l) (k:Int) hp
     by_cases hlt :(k:Int)≤c.Key
     ·cases hq :((fitI l (k:Int):Int) != la)
      ·have HQ:=hh_ (show F k =(la,o9) from HFn.out.trans (if_neg (by simpa using hq)))
       go_wp2_with (go_at_call 76;refine(V1_ _ l _ _ (HR.out _ S9.grown)).mono ?_;rintro e w10 ⟨rfl,G10⟩)
       exact⟨⟨k+1,k,la,o9,rfl,by go_num,rfl,HQ.out,by omega,S9.same G10⟩,by simp[RowKit.intOf];omega⟩
      ·have HQ:=hh_ (show F k =(((fitI l (k:Int):Nat):Int),Ed_ o9 (fitI l (k:Int)) (trkN c+queN c)) from HFn.out.trans (if_pos (by simpa using hq)))
       go_wp2_with (go_at_call 76;refine(V1_ _ l _ _ (HR.out _ S9.grown)).mono ?_;rintro e w10 ⟨rfl,G10⟩;have S10:=S9.same G10;clear G10 hb9)
       have hx10:=S10.cell kk;obtain⟨bx0,bx1⟩:=hbd (fitI l (k:Int))
       have hk4 :(0:Int)≤(fitI l (k:Int):Nat):=by omega
       have hk4' :((fitI l (k:Int):Nat):Int)<l.length:=by omega
       obtain⟨r1,r2,r3⟩:=S10.box.re;have r4:=cell_regrown hx10
       have r5:=Bn_ (w:=w10) fun w' hg=>Mg_ c l t w' Hn.out (Hm.out.same (Aa_ S10.grown hg)) Hc.out
       refine Tail.wp_region_tail_grown 14 (by kernel_rfl) (by kernel_rfl) ?_;simp only[List.take,List.drop]
       repeat(go_big_quiet_step (exact r5 _ _))
       refine wn_ ?_;rintro _ ⟨⟨d5,os5⟩,rfl⟩;have S10':=S10.same (A3_ w10 d5 os5);have hx10':=S10'.cell kk;have hf10:=S10'.free (fitI l (k:Int));clear r1 r2 r3 r4 r5 hx10;generalize Go.Sort.grow (redrawn w10 d5) os5=w11 at *
       go_wp2_with fail
       refine⟨⟨k+1,k,_,_,rfl,by go_num,rfl,HQ.out,by omega,S10'.add _ (trkN c+queN c)⟩,?_⟩
       simp[RowKit.intOf];omega
     ·have HQ:=hh_ (show demF c l=o9 by rw[HFe.out,show c.Key.toNat=n by have:=HKn.out;omega,HF2.out])
      go_wp2_with fail
      go_ret2
      have hl9:=HFl.out;rw[HQ.out] at hl9 ⊢;exact⟨B,by rw[hl9];rfl,Nat.le_of_lt S9.lt,S9.out,S9.grown⟩
end
section
open Go.RowKit
def keysAdd (d:List Int) (X:Int):Nat→List Int
 | 0=>d
 | m+1=>Ed_ (keysAdd d X m) m X
theorem I9_ (d:List Int) (X:Int):∀m,(keysAdd d X m).length=d.length
 | 0=>rfl
 | m+1=>by unfold keysAdd;rw[Il_,I9_ d X m]
theorem U6_ (o:List Int) (k:Nat) (x:Int) (j:Nat) :(Ed_ o k x)[j]?.getD 0=if k=j∧j<o.length then o[j]?.getD 0+x else o[j]?.getD 0:=by
 unfold Ed_;rw[List.getElem?_set]
 by_cases e:k=j
 ·subst e
  rw[if_pos rfl]
  by_cases hl:k<o.length
  ·rw[if_pos hl,if_pos ⟨rfl,hl⟩];rfl
  ·rw[if_neg hl,if_neg (fun h=>hl h.2),List.getElem?_eq_none (by omega)]
 ·rw[if_neg e,if_neg (fun h=>e h.1)]
theorem Ir_ (d:List Int) (X:Int):∀(m j:Nat),(keysAdd d X m)[j]?.getD 0=if j<m∧j<d.length then d[j]?.getD 0+X else d[j]?.getD 0
 | 0,j=>by simp[keysAdd]
 | m+1,j=>by
  unfold keysAdd;rw[U6_,I9_,Ir_ d X m j]
  by_cases h1:m=j
  ·subst h1
   by_cases h2:m<d.length
   ·rw[if_pos ⟨rfl,h2⟩,if_neg (by omega),if_pos ⟨by omega,h2⟩]
   ·rw[if_neg (fun h=>h2 h.2),if_neg (by omega),if_neg (fun h=>h2 h.2)]
  ·rw[if_neg (fun h=>h1 h.1)]
   by_cases h2:j<m∧j<d.length
   ·rw[if_pos h2,if_pos ⟨by omega,h2.2⟩]
   ·rw[if_neg h2,if_neg (fun h=>h2 ⟨by omega,h.2⟩)]
theorem Pu_ {l:List (Int×Int)} {size:Int} {k:Nat} {p:Int×Int} (hs:1≤size) (h:∀(j:Nat) (p:Int×Int),j<k→l[j]?=some p→p.1<size) (hk:l[k]?=some p) (hp:size≤p.1):fitI l size=k:=by
 unfold fitI;rw[Q1_ hs h hk hp];rfl
theorem ht_ {l:List (Int×Int)} {n:Int} (hn:1≤n) {q:Int×Int} {m:Nat} (hq:l[m]?=some q) (hl:n≤q.1) :
  ∃p,l[fitI l n]?=some p∧n≤p.1∧∀(j:Nat) (p:Int×Int),j<fitI l n→l[j]?=some p→p.1<n:=by
 unfold fitI fit;rw[if_pos hn]
 cases hf:l.findIdx? (fun p=>decide (n≤p.1)) with
 | none=>
  rw[List.findIdx?_eq_none_iff] at hf
  have:=hf q (mo_ hq)
  simp at this;omega
 | some k=>
  rw[List.findIdx?_eq_some_iff_getElem] at hf;obtain⟨h1,h2,h3⟩:=hf;refine⟨l[k],by simp[gq_ h1],by simpa using h2,fun j p hj hp=>?_⟩;simp only[Option.getD_some] at hj;obtain⟨h4,rfl⟩:=gs_ hp
  have:=h3 j hj
  simpa using this
theorem ac_ {l:List (Int×Int)} (h:Ow_ l) {n:Int} (hn:1≤n) {q:Int×Int} {m:Nat} (hq:l[m]?=some q) (hl:n+1≤q.1):fitI l (n+1)=fitI l n∨fitI l (n+1)=fitI l n+1:=by
 obtain⟨p,hp,h1,h2⟩:=ht_ hn hq (by omega)
 by_cases hb:n+1≤p.1
 ·exact .inl (Pu_ (by omega) (fun j p hj hp=>by have:=h2 j p hj hp;omega) hp hb)
 ·right
  have hmk:fitI l n<m:=by
   rcases Nat.lt_trichotomy (fitI l n) m with h3|h3|h3
   ·exact h3
   ·rw[h3,hq] at hp;cases hp;omega
   ·have:=h2 m q h3 hq;omega
  have hml:=(gs_ hq).1;have hp2:l[fitI l n+1]?=some l[fitI l n+1]:=gq_ (by omega);have h4:=h.asc _ _ _ hp hp2;refine Pu_ (by omega) (fun j p' hj hp'=>?_) hp2 (by omega)
  rcases Nat.lt_or_ge j (fitI l n) with h5|h5
  ·have:=h2 j p' h5 hp';omega
  ·obtain rfl:j=fitI l n:=by omega
   rw[hp'] at hp;cases hp;omega
theorem e4_ {l:List (Int×Int)} (h:Ow_ l):fitI l 1=0:=by
 have hp:l[0]?=some (l[0]'h.pos):=gq_ h.pos;exact Pu_ (by omega) (fun j p hj _=>absurd hj (by omega)) hp (h.size 0 _ hp).1
theorem T8_ {l:List (Int×Int)} (h:Ow_ l) (X:Int) (d:List Int) {q:Int×Int} {m:Nat} (hq:l[m]?=some q):∀n:Nat,((n+1:Nat):Int)≤q.1→keyF l X d (n+1) =((fitI l ((n+1:Nat):Int):Int),keysAdd d X (fitI l ((n+1:Nat):Int)+1))
 | 0,_=>by
  have h1:fitI l ((0+1:Nat):Int)=0:=e4_ h;unfold keyF;rw[h1]
  simp[keyF,keysAdd]
 | n+1,hn=>by
  have ih:=T8_ h X d hq n (by omega);unfold keyF;rw[ih];have hs:=ac_ h (n:=((n+1:Nat):Int)) (by omega) hq (by omega);rw[show((n+1:Nat):Int)+1 =((n+1+1:Nat):Int) by omega] at hs
  rcases hs with e|e
  ·rw[e,if_neg (by simp)]
  ·rw[e,if_pos (by simp only;omega)]
   rfl
theorem fv_ {c:Cfg} {l:List (Int×Int)} (hn:CfgNums c) (hc:G1_ c l):demF c l=keysAdd (demB c l) (trkN c+queN c) (fitI l c.Key+1):=by
 have hk:=hn.key;have hp:=hc.ok.pos;have hq:l[l.length-1]?=some (l[l.length-1]'(by omega)):=gq_ (by omega);obtain⟨k,hkk⟩:∃k:Nat,c.Key.toNat=k+1:=⟨c.Key.toNat-1,by omega⟩
 have hk2 :((k+1:Nat):Int)=c.Key:=by omega
 unfold demF;rw[hkk,T8_ hc.ok _ _ hq k (by rw[hk2];exact(hc.last _ hq).2.2),hk2]
theorem Xk_ {c:Cfg} {l:List (Int×Int)} (hn:CfgNums c) (hc:G1_ c l) (i:Nat):0≤(demF c l)[i]?.getD 0∧(demF c l)[i]?.getD 0≤13568:=by
 have h1:=Ll_ hn;have h2:=L9_ hn;have h3:=Wn_ (l:=l) hn i;rw[fv_ hn hc,Ir_]
 split <;> omega
theorem E1_ {l l':List (Int×Int)} (h:l.map (·.1)=l'.map (·.1)) (n:Int):fitI l n=fitI l' n:=by
 have key:∀l:List (Int×Int),fit l n=if 1≤n then (l.map (·.1)).findIdx? (fun s=>decide (n≤s)) else none:=by
  intro l;unfold fit
  split
  ·rw[List.findIdx?_map];rfl
  ·rfl
 unfold fitI;rw[key,key,h]
theorem Sv_ {c:Cfg} {l l':List (Int×Int)} (h:l.map (·.1)=l'.map (·.1)):demB c l=demB c l':=by
 have hl:l.length=l'.length:=by have:=congrArg List.length h;simpa using this
 unfold demB demB2 demB1;rw[E1_ h,E1_ h,E1_ h,hl]
theorem Jo_ {l l':List (Int×Int)} (h:l.map (·.1)=l'.map (·.1)) (X:Int) (d:List Int):∀n,keyF l X d n=keyF l' X d n
 | 0=>rfl
 | n+1=>by unfold keyF;rw[Jo_ h X d n,E1_ h]
theorem Sq_ {c:Cfg} {l l':List (Int×Int)} (h:l.map (·.1)=l'.map (·.1)):demF c l=demF c l':=by
 unfold demF;rw[Sv_ h,Jo_ h]
end
section
open Go.RowKit
theorem ClsSt.setN {B b r g:Nat} {c:Cfg} {k:Nat} {l:List (Int×Int)} {wx:World} (S:ClsSt B b r g w c t k l wx) {i:Nat} (hi:i<l.length) (v:Int) :
  ClsSt B b r g w c t k (l.set i ((l.getD i (0,0)).1,v)) (wx.setCell ⟨k,i*2+1,none⟩ (.int .i64 v)):=by
 have h1:=S.st.deck.below;have h2:=S.st.old;have h3:=S.st.lt;have h4:=S.lt;have hg:wx.grownBy (wx.setCell ⟨k,i*2+1,none⟩ (.int .i64 v)) (some k):=Ac_ (Ab_ wx _) _ _;have h5:=S.st.grown.size;have h6:=S.st.low;refine⟨⟨S.st.nums,S.st.deck.kept hg (by intro x hx;cases hx;omega),S.st.box.kept hg (by simp;omega),S.st.res.kept hg (by simp;omega),S.st.table.kept hg ?_,S.st.tlen,S.st.twords,S.st.tblock,S.st.lt,S.st.old,S.st.low,?_⟩,S.spread,S.cls.set hi v,?_,S.lt,?_⟩
 ·intro x hx a n m hv
  cases hx
  have:=S.st.tblock a n m hv
  omega
 ·exact⟨S.st.grown.os,S.st.grown.tape,S.st.grown.output,by have:=S.st.grown.size;simpa [World.setCell] using this,fun i hi hnn=>(hg.block i (ll_ hi h5) (by simp;omega)).trans (S.st.grown.block i hi hnn)⟩
 ·rw[S.val];simp
 ·simpa using S.len
def cntTo (l:List (Int×Int)) (o:List Int):Nat→List (Int×Int)
 | 0=>l
 | j+1=>(cntTo l o j).set j (((cntTo l o j).getD j (0,0)).1,o.getD j 0)
theorem Cj_ (l:List (Int×Int)) (o:List Int):∀j,(cntTo l o j).length=l.length
 | 0=>rfl
 | j+1=>by unfold cntTo;rw[List.length_set,Cj_ l o j]
theorem F5_ (l:List (Int×Int)) (o:List Int):∀(j i:Nat) (p:Int×Int),l[i]?=some p→(cntTo l o j)[i]?=some (p.1,if i<j then o.getD i 0 else p.2)
 | 0,i,p,h=>by simpa [cntTo] using h
 | j+1,i,p,h=>by
  have ih:=F5_ l o j i p h;have hl:=(gs_ h).1;unfold cntTo;rw[List.getElem?_set]
  by_cases e:j=i
  ·subst e
   rw[if_pos rfl,if_pos (by rw[Cj_];exact hl),if_pos (by omega)];rw[List.getD_eq_getElem?_getD,ih]
   rfl
  ·rw[if_neg e,ih]
   by_cases h2:i<j
   ·rw[if_pos h2,if_pos (by omega)]
   ·rw[if_neg h2,if_neg (by omega)]
theorem E4_ {l:List (Int×Int)} {o:List Int} {j i:Nat} {p:Int×Int} (h :(cntTo l o j)[i]?=some p):∃q,l[i]?=some q∧p =(q.1,if i<j then o.getD i 0 else q.2):=by
 have hl:=(gs_ h).1;rw[Cj_] at hl
 have:=F5_ l o j i _ (gq_ hl)
 rw[h] at this;exact⟨_,gq_ hl,Option.some.inj this⟩
theorem Pw_ (l:List (Int×Int)) (o:List Int) (j:Nat) :(cntTo l o j).map (·.1)=l.map (·.1):=by
 apply List.ext_getElem?
 intro i;rw[List.getElem?_map,List.getElem?_map]
 cases h:l[i]? with
 | none=>rw[List.getElem?_eq_none (by rw[Cj_];exact List.getElem?_eq_none_iff.1 h)]
 | some p=>rw[F5_ l o j i p h];rfl
structure ClsFit (c:Cfg) (l:List (Int×Int)):Prop where
 cls:G1_ c l
 cnt:∀i (hi:i<l.length),l[i].2 =(demF c l)[i]?.getD 0
theorem Mb_ {c:Cfg} {l l':List (Int×Int)} (hc:G1_ c l) (hn:CfgNums c) (h:l'=cntTo l (demF c l) l.length):ClsFit c l':=by
 subst h;have hs:=Pw_ l (demF c l) l.length;have hd:demF c (cntTo l (demF c l) l.length)=demF c l:=Sq_ hs;refine⟨⟨⟨by rw[Cj_];exact hc.ok.pos,by rw[Cj_];exact hc.ok.len,fun i p hp=>?_,fun i p q hp hq=>?_⟩,fun p hp=>?_⟩,fun i hi=>?_⟩
 ·obtain⟨q,hq,rfl⟩:=E4_ hp
  have h1:=hc.ok.size i q hq;have h2:=Xk_ hn hc i;have hl:=(gs_ hq).1;rw[if_pos hl,List.getD_eq_getElem?_getD];exact⟨h1.1,h1.2.1,h2.1,by show _≤_;have:=h2.2;simp only;omega⟩
 ·obtain⟨p',hp',rfl⟩:=E4_ hp
  obtain⟨q',hq',rfl⟩:=E4_ hq;exact hc.ok.asc i p' q' hp' hq'
 ·rw[Cj_] at hp
  obtain⟨q,hq,rfl⟩:=E4_ hp;exact hc.last q hq
 ·rw[hd]
  have hi2:i<l.length:=by rw[Cj_] at hi;exact hi
  have:=F5_ l (demF c l) l.length i _ (gq_ hi2)
  rw[gq_ hi,if_pos hi2,List.getD_eq_getElem?_getD] at this;rw[Option.some.inj this]
def On_ (B b:Nat) (w:World) (e:Ending) (w':World):Prop:=
 ∃c l t,e=.returned c.val∧CfgNums c∧CfgMem c l t w'∧Deck B w' b∧w.grownBy w' (some b)∧(∀a n m,c.Table=.slice (some a) n m→w.heap.size≤a.block)∧(∀a n m,c.Classes=.slice (some a) n m→w.heap.size≤a.block)∧Nums0 c∧ClsFit c l
attribute [local go_sem ↓] Ag_
attribute [local go_sem] Ah_
theorem Xy_ {B:Nat} (b:Nat) (w:World) (hd:Deck B w b) (hB:B≤w.heap.size) :
  Calls prog 18 #[.pointer (some ⟨b,0,none⟩)] w (On_ B b w):=by
 have hbB:=hd.below
 go_enter func18,ntmps18
 go_upto_region 1 with(refine Dp_ rfl rfl ?_;intro w1 BR GG z1)
 replace hd:=hd.kept GG (by simp);replace GG:=Ak_ GG (some b)
 have hB1:B≤w1.heap.size:=by omega
 simp only[pt_]
 go_cut [3] (fun s3 wx=>∃g c t,s3=.pointer (some ⟨g,0,none⟩)∧MakeSt B b w.heap.size g w c t wx)
 case first=>
  go_wp2_with (first |(refine Dp_ rfl rfl ?_;intro w4 BG G4 z4;replace BR:=BR.same G4;have ht7:=ht6.same G4;have hd4:=Deck.kept (by assumption) G4 (by simp);replace GG:=Aa_ GG (Ak_ G4 (some b));clear G4) |(refine Dh_ rfl _ _ rfl _ rfl ⟨_,_,_,_,_,_,_,_,_,_,_,_,_,_,_,_,_⟩ rfl rfl rfl Cfg.zero (by assumption) ?_;intro w5 BC G5) |(go_at_call 37;refine(Ba_ b _ _ (by assumption) (by omega) (by omega)).mono ?_;rintro e w2 ⟨r,rfl,hr0,hr1,hd2,G2⟩;replace BR:=BR.kept G2 (by simp;omega);replace GG:=Aa_ GG G2;replace hB1:=lt_ hB1 G2.size;replace z1:=ll_ z1 G2.size;clear G2) |(go_at_call 38;refine(a8_ b _ (by assumption) hB1).mono ?_;rintro e w2 ⟨tv,tl,rfl,ht1,ht2,ht3,ht4,ht5,hd2,G2⟩;obtain⟨ta,tc,rfl⟩:=ht1.shape;replace BR:=BR.kept G2 (by simp;omega);replace GG:=Aa_ GG G2;have ht5':=hh_ (fun a n c h=>ll_ z1 (ht5 a n c h));replace hB1:=lt_ hB1 G2.size;replace z1:=ll_ z1 G2.size;clear G2 ht5) |(go_at_call 39;refine(b4_ b _ (by assumption)).mono ?_;rintro e w3 ⟨r,rfl,hr0,hr1,hd3,G3⟩;replace BR:=BR.kept G3 (by simp;omega);replace GG:=Aa_ GG G3;have ht6:=ht1.kept G3 (by intro b' hb';cases hb';exact ht4);replace hB1:=lt_ hB1 G3.size;replace z1:=ll_ z1 G3.size;clear G3))
  go_meet
  have hne:w3.heap.size≠w.heap.size:=by omega
  have hbg:B≤w3.heap.size:=hB1
  have hin:NotIn (.slice ta tl.length tc) w3.heap.size:=fun a n k hv=>Nat.ne_of_lt (ht6.blockLt (by omega) a n k hv)
  have ht8:RdL wordF 1 w5 (.slice ta 16 tc) tl:=by
   have hh:RdL wordF 1 w5 (.slice ta tl.length tc) tl:=ht7.kept G5 (by intro c hc;cases hc;exact hin);rw[ht2] at hh;exact hh
  refine⟨_,_,tl,rfl,⟨⟨?_,?_,?_,?_,?_,?_,?_,?_,?_,?_,?_,?_,?_,?_⟩,hd4.kept G5 (by intro c hc;cases hc;exact hbg),BC,BR.kept G5 (by simpa using hne),ht8,ht2,ht3,?_,z1,hB,rfl,?_⟩⟩
  case refine_15=>intro a n k hv;cases hv;exact⟨ht5'.out _ _ _ rfl,ht6.blockLt (by omega) _ _ _ rfl⟩
  case refine_16=>
   refine⟨G5.os.trans GG.os,G5.tape.trans GG.tape,G5.output.trans GG.output,lt_ GG.size G5.size,fun i hi hn=>(G5.block i (ll_ hi GG.size) ?_).trans (GG.block i hi hn)⟩
   simp;omega
  all_goals (simp only;omega)
 case rest=>
  obtain⟨g,c,t,rfl,S1⟩:=hcut;have hn1:=S1.nums.shards;have hlt1:=S1.lt;have hold1:=S1.old;have c1:=S1.box.cell;obtain⟨m1,m2⟩:=hn1;have D1:=S1.deck
  go_upto_region 2 with fail
  go_cut [3] (fun s3 wx=>∃c',s3=.pointer (some ⟨g,0,none⟩)∧MakeSt B b w.heap.size g w c' t wx∧1≤c'.Spread∧c'.Spread≤c'.Shards)
  case first=>
   go_wp2_with ((go_at_call 37;refine(Ba_ b _ _ (by assumption) (by omega) (by omega)).mono ?_;rintro e w2 ⟨r,rfl,hr0,hr1,hd2,G2⟩);have S2:=S1.next hd2 G2;have c2:=S2.box.cell;have f2:=S2.box.free;clear c1 G2)
   go_meet
   exact⟨⟨c.Length,c.Lateness,c.Windows,c.Shards,1+r,c.Queue,c.Mode,c.Slots,c.Exact,c.Promote,c.Depth,c.Width,c.Top,c.Key,c.Classes,c.Table,c.Seed⟩,rfl,S2.set 4 _ rfl ⟨S2.nums.1,S2.nums.2,S2.nums.3,S2.nums.4,S2.nums.5,S2.nums.6,S2.nums.7,S2.nums.8,S2.nums.9,S2.nums.10,S2.nums.11,S2.nums.12,S2.nums.13,S2.nums.14⟩ rfl,by simp only;omega,by simp only;omega⟩
  case rest=>
  obtain⟨c3,rfl,S3,h3a,h3b⟩:=hcut;clear c1 D1 S1 m1 m2;have D3:=S3.deck
  go_upto_if 54 with((go_at_call 37;refine(Ba_ b _ _ (by assumption) (by omega) (by omega)).mono ?_;rintro e w2 ⟨r,rfl,hr0,hr1,hd2,G2⟩);have S4:=S3.next hd2 G2;have c4:=S4.box.cell;have f4:=S4.box.free;clear D3 G2)
  go_cut [3] (fun s3 wx=>∃c',s3=.pointer (some ⟨g,0,none⟩)∧MakeSt B b w.heap.size g w c' t wx∧1≤c'.Spread∧c'.Spread≤c'.Shards)
  case first=>
   go_wp2_with fail
   ·go_meet
    exact⟨⟨c3.Length,c3.Lateness,c3.Windows,c3.Shards,c3.Spread,64,c3.Mode,c3.Slots,c3.Exact,c3.Promote,c3.Depth,c3.Width,c3.Top,c3.Key,c3.Classes,c3.Table,c3.Seed⟩,rfl,S4.set 5 _ rfl ⟨S4.nums.1,S4.nums.2,S4.nums.3,S4.nums.4,by simp,S4.nums.6,S4.nums.7,S4.nums.8,S4.nums.9,S4.nums.10,S4.nums.11,S4.nums.12,S4.nums.13,S4.nums.14⟩ rfl,h3a,h3b⟩
   ·go_meet
    exact⟨c3,rfl,S4,h3a,h3b⟩
  case rest=>
  obtain⟨c5,rfl,S5,h5a,h5b⟩:=hcut;clear c4 f4 S4 S3 h3a h3b hd2;have D5:=S5.deck
  go_upto_if 58 with((go_at_call 37;refine(Ba_ b _ _ (by assumption) (by omega) (by omega)).mono ?_;rintro e w2 ⟨r,rfl,hr0,hr1,hd2,G2⟩);have S6:=S5.next hd2 G2;clear D5 G2)
  go_cut [3] (fun s3 wx=>∃c',s3=.pointer (some ⟨g,0,none⟩)∧MakeSt B b w.heap.size g w c' t wx∧1≤c'.Spread∧c'.Spread≤c'.Shards)
  case first=>
   go_wp2_with ((go_at_call 37;refine(Ba_ b _ _ (by assumption) (by omega) (by omega)).mono ?_;rintro e w2 ⟨r,rfl,hr0,hr1,hd2,G2⟩);have S7:=S6.next hd2 G2;have c7:=S7.box.cell;have f7:=S7.box.free;clear G2)
   ·go_meet
    exact⟨⟨c5.Length,c5.Lateness,c5.Windows,c5.Shards,c5.Spread,c5.Queue,c5.Mode,c5.Slots,c5.Exact,c5.Promote,c5.Depth,c5.Width,c5.Top,5+r,c5.Classes,c5.Table,c5.Seed⟩,rfl,S7.set 13 _ rfl ⟨S7.nums.1,S7.nums.2,S7.nums.3,S7.nums.4,S7.nums.5,S7.nums.6,S7.nums.7,S7.nums.8,S7.nums.9,S7.nums.10,S7.nums.11,S7.nums.12,by simp only;omega,S7.nums.14⟩ rfl,h5a,h5b⟩
   ·go_meet
    exact⟨c5,rfl,S6,h5a,h5b⟩
  case rest=>
  obtain⟨c8,rfl,S8,h8a,h8b⟩:=hcut;clear S6 S5 h5a h5b hd2;have c8c:=S8.box.cell;have f8:=S8.box.free;have l8:=S8.box.lt
  go_upto_region 7 with fail
  go_cut [3] (fun s3 wx=>∃c' k l,s3=.pointer (some ⟨g,0,none⟩)∧ClsSt B b w.heap.size g w c' t k l wx∧(l=fiveL∨l=oneL))
  case first=>
   go_wp2_with fail
   go_meet
   exact⟨_,_,fiveL,rfl,Mh_ S8 fiveL (by decide) ⟨h8a,h8b⟩,.inl rfl⟩
  case rest=>
  obtain⟨c9,k9,l9,rfl,S9,hl9⟩:=hcut;clear c8c f8 l8 S8 h8a h8b;have D9:=S9.st.deck
  go_upto_if 72 with((go_at_call 37;refine(Ba_ b _ _ (by assumption) (by omega) (by omega)).mono ?_;rintro e w2 ⟨r,rfl,hr0,hr1,hd2,G2⟩);have S10:=S9.next hd2 G2;clear D9 G2)
  go_cut [3] (fun s3 wx=>∃c' k l,s3=.pointer (some ⟨g,0,none⟩)∧ClsSt B b w.heap.size g w c' t k l wx∧(l=fiveL∨l=oneL))
  case first=>
   have c10:=S10.st.box.cell;have f10:=S10.st.box.free;have l10:=S10.st.box.lt
   go_wp2_with fail
   ·go_meet
    exact⟨_,_,oneL,rfl,Mh_ S10.st oneL (by decide) S10.spread,.inr rfl⟩
   ·go_meet
    exact⟨_,_,_,rfl,S10,hl9⟩
  case rest=>
  obtain⟨c,k,l,rfl,S11,hl⟩:=hcut;clear S10 S9 hl9 hd2
  have hcls:G1_ c l:=by
   have hw:=S11.st.nums.width;have hk:=S11.st.nums.key
   rcases hl with rfl|rfl
   ·exact⟨fw_,fun p hp=>by simp[fiveL] at hp;subst hp;simp only;omega⟩
   ·exact⟨hf_,fun p hp=>by simp[oneL] at hp;subst hp;simp only;omega⟩
  have B11:=S11.st.box;have Hcls:=hh_ hcls;clear hcls hl;have HDl:=hh_ (Ky_ c l)
  go_wp2_with (first |(refine An_ rfl _ rfl _ rfl c (by assumption) ?_) |(go_at_call 40;refine(Mu_ c l t _ S11.nums S11.mem Hcls.out).mono ?_;rintro e w12 ⟨D,rfl,hD,hO,G12⟩;have S12:=S11.same G12;clear B11 G12))
  have hol:=HDl.out;obtain⟨out,hout⟩:∃out,demF c l=out:=⟨_,rfl⟩;have HOut:=hh_ hout;rw[hout] at hO hol ⊢;rw[hol];clear hout;have hl8:l.length≤8:=S11.len.2;have hkD:k<D:=ll_ S11.cls.lt hD
  go_loopw [83] (fun s83 wr=>∃(j:Nat) (l':List (Int×Int)),s83=.int .i64 j∧j≤l.length∧l'.length=l.length∧l'=cntTo l out j∧ClsSt B b w.heap.size g w c t k l' wr∧OutAt wr D out) (fun s83 _=>l.length-(RowKit.intOf s83).toNat)
  case atStart=>exact⟨0,l,rfl,zl_ _,rfl,rfl,S12,hO⟩
  case round=>
   obtain⟨j,l',rfl,hj,hl',hct,S13,hO13⟩:=hrel;have Hct:=hh_ hct;clear hct
   by_cases hlt:j<l.length
   ·have hv:=S13.val
    obtain⟨r1,r2,r3⟩:=S13.st.box.re;simp only[Cfg.arr,hv,hl'] at r3;have r4:=cell_regrown (hO13.cell (k:=j) (by omega))
    have hjo :(0:Int)≤(j:Nat):=by omega
    have hjo' :((j:Nat):Int)<l.length:=by omega
    have Hl:=hh_ hl';have Hol:=hh_ hol;clear hv hl' hol
    go_wp2_with fail
    refine Tail.wp_region_tail_grown 9 (by kernel_rfl) (by kernel_rfl) ?_;simp only[List.take,List.drop]
    repeat(go_big_quiet_step (fail))
    refine wn_ ?_;rintro _ ⟨⟨d5,os5⟩,rfl⟩;have S14:=S13.same (A3_ wr d5 os5);have hO14:=hO13.kept (A3_ wr d5 os5) (by simp);have hx14:=S14.cls.cell (i:=j) (by rw[Hl.out];exact hlt);have hf14:=S14.cls.free (j*2+1);clear r1 r2 r3 r4;generalize Go.Sort.grow (redrawn wr d5) os5=w14 at *;obtain⟨x14,hx14⟩:=hx14
    go_wp2_with fail
    have S15:=S14.setN (i:=j) (by rw[Hl.out];exact hlt) (out.getD j 0);refine⟨⟨j+1,_,by go_num,by omega,by simp[Hl.out],by rw[Hct.out];rfl,S15,hO14.kept (Ac_ (Ab_ _ _) _ _) (by simp;omega)⟩,?_⟩
    simp[RowKit.intOf];omega
   ·have B13:=S13.st.box
    have ho1:c.Classes.oneCell'=true:=by rw[S13.val];rfl
    have ho2:c.Table.oneCell'=true:=by obtain⟨a,cap,hv⟩:=S13.st.table.shape;rw[hv];rfl
    go_wp2_with (first |(refine An_ rfl _ rfl _ rfl c (by assumption) ?_) |(refine Dh_ rfl _ _ rfl _ rfl c rfl ho1 ho2 Cfg.zero S13.st.res ?_;intro w20 B20 G20))
    obtain⟨tt,ff,hh,hff⟩:=B20.block;refine bodyPost_ret (v:=c.val) (results_cell_row rfl _ _ w.heap.size _ _ _ _ rfl hh underlying31 rfl Dt_) rfl ?_;have hm:=S13.mem;have hr1:=S13.st.lt;have hr2:=S13.lt;have hold:=S13.st.old
    have hjl:j=l.length:=by omega
    have hcl:=Mb_ (l':=l') Hcls.out S13.nums (by rw[HOut.out,←hjl];exact Hct.out);refine⟨c,l',t,rfl,S13.nums,⟨hm.classes.kept G20 ?_,hm.table.kept G20 ?_,hm.tlen,hm.twords⟩,S13.st.deck.kept G20 (by intro x hx;cases hx;exact hold),?_,?_,?_,S13.st.nums,hcl⟩
    ·intro x hx a n m hv;cases hx;rw[S13.val] at hv;cases hv;simp;omega
    ·intro x hx a n m hv;cases hx;have:=S13.st.tblock a n m hv;omega
    ·have G13:=S13.st.grown
     exact⟨G20.os.trans G13.os,G20.tape.trans G13.tape,G20.output.trans G13.output,lt_ G13.size G20.size,fun i hi hn=>(G20.block i (ll_ hi G13.size) (by simp;omega)).trans (G13.block i hi hn)⟩
    ·intro a n m hv;have:=S13.st.tblock a n m hv;omega
    ·intro a n m hv;rw[S13.val] at hv;cases hv;simp;omega
end
section
open Go.RowKit
def bP (c:Cfg) (t:List Int) (l:List Summ) (k:ByteArray) (i:Int):Int×Int:=match l[i.toNat]? with
 | some s=>(min (bndE s.es s.untr k).1 (sEstF c t s k),min (bndE s.es s.untr k).2 (sEstF c t s k))
 | none=>(0,0)
def addP (a x:Int×Int):Int×Int:=(satA a.1 x.1,satA a.2 x.2)
def foldB (c:Cfg) (t:List Int) (l:List Summ) (k:ByteArray) (is:List Int):Int×Int:=is.foldl (fun a i=>addP a (bP c t l k i)) (0,0)
def lineF (c:Cfg) (t:List Int) (l:List Summ) (k:ByteArray):Int×Int:=foldB c t l k ((setF c t k).filter (fun i:Int=>decide (i<(l.length:Int))))
structure F4_ (l:List Summ):Prop where
 wf:∀s∈l,SumW s
 rows:∀s∈l,RowsOk s.rows
 len:∀s∈l,s.rows.length≤1000
theorem hd_ {s:Summ} (h:SumW s) (k:ByteArray):W64 (bndE s.es s.untr k).1∧W64 (bndE s.es s.untr k).2:=by
 unfold bndE
 split
 ·rename_i e he
  obtain⟨h1,h2⟩:=h.es e (List.mem_of_find?_eq_some he);exact⟨h1,Cr_ h1 h2⟩
 ·exact⟨D3_,h.untr⟩
theorem bP_w {c:Cfg} {l:List Summ} (h:F4_ l) (k:ByteArray) (i:Int):W64 (bP c t l k i).1∧W64 (bP c t l k i).2:=by
 unfold bP
 split
 ·rename_i s hs
  have hm:=mo_ hs;obtain⟨h1,h2⟩:=hd_ (h.wf s hm) k;have h3:=Qj_ (c:=c) (t:=t) (h.wf s hm).total (h.rows s hm) k;exact⟨P9_ h1 h3,P9_ h2 h3⟩
 ·exact⟨D3_,D3_⟩
theorem Vl_ {c:Cfg} {l:List Summ} (h:F4_ l) (k:ByteArray) (is:List Int):W64 (foldB c t l k is).1∧W64 (foldB c t l k is).2:=by
 unfold foldB
 have:∀(is:List Int) (a:Int×Int),W64 a.1∧W64 a.2→W64 (is.foldl (fun a i=>addP a (bP c t l k i)) a).1∧W64 (is.foldl (fun a i=>addP a (bP c t l k i)) a).2:=by
  intro is
  induction is with
  | nil=>exact fun _ h=>h
  | cons i is ih=>
   intro a ha;simp only[List.foldl_cons];obtain⟨h1,h2⟩:=bP_w (c:=c) (t:=t) h k i;exact ih _ ⟨Cr_ ha.1 h1,Cr_ ha.2 h2⟩
 exact this is _ ⟨D3_,D3_⟩
theorem R7_ (c:Cfg) (t:List Int) (l:List Summ) (k:ByteArray) (is:List Int) (i:Int):foldB c t l k (is++[i])=addP (foldB c t l k is) (bP c t l k i):=by simp[foldB]
theorem J3_ {h m:Int} {n:Nat} (h0:0≤h) (h1:h<m) (hm:m≤8) (hn :(n:Int)≤m) :(setN h m n).Nodup:=by
 unfold setN rangeI;rw[List.map_map];refine List.pairwise_map.2 (List.pairwise_iff_getElem.2 ?_);intro i j hi hj hij;simp only[List.getElem_range,Function.comp];simp only[List.length_range] at hi hj
 have:m=1∨m=2∨m=3∨m=4∨m=5∨m=6∨m=7∨m=8:=by omega
 rcases this with rfl|rfl|rfl|rfl|rfl|rfl|rfl|rfl <;> omega
theorem Ei_ {h m:Int} {n:Nat} (h1:1≤m):∀x∈setN h m n,0≤x∧x<m:=by
 intro x hx;obtain⟨i,_,rfl⟩:=List.mem_map.1 hx;exact⟨Int.emod_nonneg _ (by omega),Int.emod_lt_of_pos _ (by omega)⟩
theorem Cg_ (n:Nat) :(rangeI n).Nodup:=List.pairwise_map.2 (List.nodup_range.imp fun h e=>h (Int.ofNat.inj e))
theorem A6_ {n:Nat} {x:Int}:x∈rangeI n↔0≤x∧x<n:=by
 unfold rangeI;rw[List.mem_map]
 constructor
 ·rintro⟨i,hi,rfl⟩;have:=List.mem_range.1 hi;omega
 ·intro h;exact⟨x.toNat,List.mem_range.2 (by omega),by omega⟩
theorem Ge_ {l l':List Int} (h:l.Nodup) (h':l'.Nodup) (hm:∀x,x∈l↔x∈l'):l.Perm l':=by
 rw[List.perm_iff_count];intro a;rw[List.Nodup.count h,List.Nodup.count h']
 by_cases ha:a∈l
 ·rw[if_pos ha,if_pos ((hm a).1 ha)]
 ·rw[if_neg ha,if_neg (fun h=>ha ((hm a).2 h))]
end
section
open Go.RowKit Go.Sort
attribute [local go_sem ↓] Ag_
attribute [local go_sem] Ah_
theorem Pl_ (c:Cfg) (l:List (Int×Int)) (t:List Int) (w:World) (hn:CfgNums c) (hm:CfgMem c l t w) (hc:ClsFit c l):Calls prog 41 #[c.val] w (RetInt 0 w):=by
 obtain⟨ac,cp,hcl⟩:=hm.classes.shape;have hmx:=hm.classes.2.1;have HL:=hh_ hcl;have hdl:=Ky_ c l;have C1:=hh_ (show ∀w',w.grownBy w' none→Calls prog 40 #[c.val] w' fun e w2=>∃g,e=.returned (.tuple #[.slice (some ⟨g,0,none⟩) l.length l.length,.int .i64 0])∧OutAt w2 g (demF c l)∧w'.heap.size≤g∧w'.grownBy w2 none from fun w' g=>(Mu_ c l t w' hn (hm.same g) hc.cls).mono fun e w2 ⟨B,h1,h2,h3,h4⟩=>⟨B,by rw[hdl] at h1;exact h1,h3,h2,h4⟩)
 have HD:=hh_ fun i=>Xk_ hn hc.cls i
 have Hf:=hh_ hc.cnt;have Hs:=hh_ hc.cls.ok.size;have Hm:=hh_ hm.classes;clear hn hm hc hcl
 go_enter func41,ntmps41
 go_upto_region 5 with(first
  |(refine At_ rfl _ rfl c rfl ?_;intro w1 B1 G1 z1)
  |(refine An_ rfl _ rfl _ rfl c B1 ?_)
  |(go_at_call 40;refine(C1.out _ G1).mono ?_;rintro e w2 ⟨g,rfl,O2,z2,G2⟩;have B2:=B1.same G2;have K2:=Aa_ G1 G2))
 clear C1 B1 G1;generalize demF c l=o at *;have HO:=hh_ O2;clear O2
 go_loopw [17] (fun s17 wr=>∃k:Nat,k≤l.length∧s17=.int .i64 k∧wr=w2) (fun s17 _=>l.length-(RowKit.intOf s17).toNat)
 case atStart=>exact⟨0,by omega,rfl,rfl⟩
 case round=>
  obtain⟨k,hk,rfl,rfl⟩:=hrel;have b2:=B2.cell;simp only[Cfg.arr,HL.out] at b2
  by_cases hlt:k<l.length
  ·obtain⟨gx,ox,cx,hv,hgx,hcx⟩:=(RdL.same Hm.out K2).at_ Du_ hlt
   have hv':=HL.out.symm.trans hv;cases hv';have c1:=hcx 1 _ rfl;have hf:=Hf.out k hlt;obtain⟨s1,s2,s3,s4⟩:=Hs.out k _ (gq_ hlt);obtain⟨d1,d2⟩:=HD.out k;have oc:=HO.out.cell (k:=k) (by omega);rw[List.getD_eq_getElem?_getD] at oc;clear hcx hv;generalize l[k]=p at *;obtain⟨ps,pc⟩:=p;dsimp only at *;rw[←hf] at oc;have d:decide (pc<pc)=false:=df_ (by omega);clear hf d1 d2
   go_wp2_with fail
   exact⟨⟨k+1,by omega,by go_num,trivial⟩,by simp[RowKit.intOf];omega⟩
  ·go_wp2_with fail
   go_ret
   exact Aj_ rfl K2
theorem He_ {c:Cfg} (hs:1≤c.Shards) (hp:1≤c.Spread) (n:Int) (hn:0≤n) :(n%c.Spread).toNat<(setF c t k).length∧0≤routeF c t k n∧routeF c t k n<c.Shards:=by
 have h1:=Int.emod_nonneg n (show c.Spread≠0 by omega);have h2:=Int.emod_lt_of_pos n (show 0<c.Spread by omega);have hl :(setF c t k).length=c.Spread.toNat:=Fu_ _ _ _
 have h3 :(n%c.Spread).toNat<(setF c t k).length:=by omega
 refine⟨h3,?_⟩
 have hr:routeF c t k n =(setF c t k)[(n%c.Spread).toNat]:=by
  unfold routeF;rw[List.getD_eq_getElem?_getD,gq_ h3];rfl
 rw[hr];exact Ei_ hs _ (mg_ h3)
theorem bn_ (c:Cfg) (t:List Int) (k:ByteArray) (n:Int) (w:World) (h:RCfg w c t) (hk:k.size≤9223372036854775807) (hn:0≤n∧n≤9223372036854775807):Calls prog 87 #[c.val,.string k,.int .i64 n] w (RetInt (routeF c t k n) w):=by
 have H:=hh_ h;have hs:=h.spread
 have CR:=hh_ fun y (q:w.grownBy y none)=>F6_ c t y (h.same q)
 have CS:=hh_ fun y (q:w.grownBy y none)=>b6_ c t k y (h.same q) hk
 obtain⟨hg1,hg2,hg3⟩:=He_ (t:=t) (k:=k) h.shards.1 hs.1 n hn.1;have hm1:=Int.emod_nonneg n (show c.Spread≠0 by omega);have hm2:=Int.emod_lt_of_pos n (show 0<c.Spread by omega)
 have HRt:=hh_ (show routeF c t k n =(setF c t k)[(n%c.Spread).toNat] by
  unfold routeF
  rw[List.getD_eq_getElem?_getD,gq_ hg1];rfl)
 have hn0:decide (n<0)=false:=df_ (by omega);have hz :(c.Spread==0)=false:=bf_ (by omega);clear h
 go_enter func87,ntmps87
 go_upto_region 3 with(first |(refine At_ rfl _ rfl c rfl ?_;intro w1 B1 G1 z1) |(refine Bd_ rfl _ rfl _ rfl c (by assumption) ?_) |(go_at_call 110;refine(CR.out _ G1).mono ?_;rintro e w2 ⟨rfl,G2⟩;have B2:=B1.same G2;have K2:=Aa_ G1 G2))
 have K6:=Aa_ K2 (show World.grownBy w2 w2.drew none from gw_);have B6:=B2.same (w':=w2.drew) gw_;clear G1 G2 B1 B2 K2 z1 CR
 (refine rn_ 10 (fun j _ w v w'=>match j with | 2=>RdL intF 1 w' v (setF c t k)∧World.grownBy w w' none | _=>False) ?_;simp only[ts_])
 generalize w2.drew=w6 at *
 (refine to_ ?_;intro x0 mx0 dx0)
 clear dx0;have BX:=B6.same mx0
 go_wp2_with (refine An_ rfl _ rfl _ rfl c (by assumption) ?_)
 refine⟨Ab_ _ _,?_⟩;clear BX
 (refine tq_ 1 ?_;(repeat(go_big_quiet_step (fail)));refine wn_ ?_)
 (refine tc_ ?_;intro x2 mx2 dx2;refine⟨?_,?_⟩;· (unfold Rg.callSpec;go_simp;(refine(CS.out x2 (Aa_ K6 mx2)).mono ?_;rintro e w' ⟨v,rfl,o,g⟩;exact⟨v,rfl,o.rd,g⟩)))
 clear dx2;rintro v2 y2 ⟨R2,g2⟩;refine⟨g2,?_⟩;simp only[pt_];obtain⟨ga,oa,ca,hv,hga,hca⟩:=R2.at_ Bc_ hg1;subst hv;have hs8:=H.out.shards
 have hr1:IntKind.i64.wrap (n.tmod c.Spread)=n%c.Spread:=by
  rw[Int.tmod_eq_emod_of_nonneg hn.1];exact IntWalk.i64_in _ (by omega)
 have hr2:n.tmod c.Spread=n%c.Spread:=Int.tmod_eq_emod_of_nonneg hn.1
 have hlt:n%c.Spread<((setF c t k).length:Int):=by omega
 have hca0:=hca 0 _ rfl;rw[Nat.mul_one,Nat.add_zero] at hca0;clear hca
 (refine tq_ 2 ?_;(repeat(go_big_quiet_step (fail)));refine wn_ ?_)
 (refine to_ ?_;intro x5 mx5 dx5)
 clear dx5;have bx:=(B6.same mx5).cell
 go_wp2_with fail
 refine⟨Ab_ _ _,?_⟩;clear bx
 (refine tq_ 2 ?_;(repeat(go_big_quiet_step (fail)));refine wn_ ?_)
 (refine to_ ?_;intro x8 mx8 dx8)
 have R8:=((Am_ (dx8.out 2 (by omega) (by kernel_rfl))).1 ga _ hga (by simp)).trans hca0;clear dx8
 go_wp2_with fail
 refine⟨Ab_ _ _,?_⟩;clear R8
 (refine tq_ 1 ?_;(repeat(go_big_quiet_step (fail)));refine wn_ ?_)
 (refine Rg.tree_nil ?_;intro z mz dz cz)
 have Kz:=Aa_ K6 mz
 go_wp2_with fail
 go_ret
 exact Aj_ HRt.out Kz
end
section
open Go.RowKit Go.Sort
theorem RClu.cfgIn {G:RcG} {c:Cfg} {K:CluM} (h:RClu w G c t K):bx_ w G.g c:=h.blk.cfgIn (ds:=[.int .i64 K.mark,G.vb,.int .u64 K.str.skip,.bool K.str.broken,.pointer (some ⟨G.bl,0,none⟩),G.vs,G.vi]) rfl
structure CfgW (w:World) (c:Cfg) (t:List Int) (F:Fp):Prop where
 nums:CfgNums c
 table:RdL wordF 1 w c.Table t
 tlen:t.length=16
 low:Low w (ownF c.Table)
 off:Off (ownF c.Table) F
theorem CfgW.rcfg {c:Cfg} {F:Fp} (h:CfgW w c t F):RCfg w c t:=⟨⟨h.nums.shards.1,by have:=h.nums.shards.2;omega⟩,h.nums.spread,h.table,h.tlen,⟨h.nums.seed.1,by have:=h.nums.seed.2;omega⟩⟩
theorem CfgW.mov {c:Cfg} {F F':Fp} (h:CfgW w c t F) (m:Mov F F' w w'):CfgW w' c t F':=⟨h.nums,Br_ h.table m.grown h.off,h.tlen,h.low.up m.size,m.off h.low h.off⟩
theorem CfgW.same {c:Cfg} {F:Fp} (h:CfgW w c t F) (g:w.grownBy w' none):CfgW w' c t F:=h.mov (Mov.same g)
def Tv_ (c:Cfg) (t:List Int) (K:CluM) (x:InpR) (w:World) (e:Ending) (w':World):Prop:=e=.returned (.tuple #[.int .i64 (judgeV c t K x).1,.int .i64 (judgeV c t K x).2])∧w.grownBy w' none
theorem Ne_ {c:Cfg} {K:CluM} {x:InpR} {a b:Int} (h:judgeV c t K x =(a,b)) (g:w.grownBy w' none):Tv_ c t K x w (.returned (.tuple #[.int .i64 a,.int .i64 b])) w':=⟨by rw[h],g⟩
theorem Yv_ (G:RcG) (c:Cfg) (t:List Int) (K:CluM) (x:InpR) (w:World) (h:RClu w G c t K) (hC:CfgW w c t G.F) (hsh :(K.sh.length:Int)=c.Shards) (hacc:0≤K.acc∧K.acc≤9223372036854775807) (hx :(0≤x.it.time∧x.it.time≤1099511627776)∧W64 x.it.weight∧x.it.key.size≤9223372036854775807) :
  Calls prog 48 #[.pointer (some ⟨G.g,0,none⟩),.agg #[.string x.it.key,.int .i64 x.it.time,.int .u64 x.it.weight,.int .i64 x.ver]] w (Tv_ c t K x w):=by
 have H:=hh_ h;have HV:=hh_ (show ∀y,Calls prog 85 #[c.val,.int .i64 K.mark,.int .i64 x.it.time] y (fun e w'=>e=.returned (.int .i64 (verV c K.mark x.it.time))∧y.grownBy w' none) from fun y=>h7_ c K.mark x.it.time y);have HWn:=hh_ (show ∀y,Calls prog 50 #[c.val,.int .i64 x.it.time] y (fun e w'=>e=.returned (.int .i64 (winV c x.it.time))∧y.grownBy w' none) from fun y=>Xw_ c x.it.time y);have HFt:=hh_ (show ∀y,w.grownBy y none→Calls prog 86 #[.pointer (some ⟨G.bl,0,none⟩),.int .i64 (winV c x.it.time),.int .u64 x.it.weight] y (fun e w'=>e=.returned (.bool (fitsB (ldAt K.led (winV c x.it.time)) x.it.weight))∧y.grownBy w' none) from fun y q=>J7_ G.LF G.bl K.led K.acc K.rej _ _ y (h.core.same q).led hx.2.1);have HAc:=hh_ (show ∀y,w.grownBy y none→Calls prog 88 #[.pointer (some ⟨G.bl,0,none⟩)] y (fun e w'=>e=.returned (.int .i64 K.acc)∧y.grownBy w' none) from fun y q=>Ji_ G.LF G.bl K.led K.acc K.rej y (h.core.same q).led);have HRo:=hh_ (show ∀y,w.grownBy y none→Calls prog 87 #[c.val,.string x.it.key,.int .i64 K.acc] y (fun e w'=>e=.returned (.int .i64 (routeF c t x.it.key K.acc))∧y.grownBy w' none) from fun y q=>bn_ c t x.it.key K.acc y (hC.same q).rcfg hx.2.2 hacc);obtain⟨hsp,hr0,hr1⟩:=He_ (t:=t) (k:=x.it.key) hC.nums.shards.1 hC.nums.spread.1 K.acc hacc.1
 have HJ:=hh_ (show judgeV c t K x=if x.ver≠0 then (x.ver,0) else if verV c K.mark x.it.time≠0 then (verV c K.mark x.it.time,0) else if fitsB (ldAt K.led (winV c x.it.time)) x.it.weight=false then (5,0) else if qLen K (routeF c t x.it.key K.acc)=c.Queue then (6,0) else (0,routeF c t x.it.key K.acc) from rfl);obtain⟨Vv,hVv⟩:∃v,verV c K.mark x.it.time=v:=⟨_,rfl⟩;obtain⟨Wn,hWn⟩:∃v,winV c x.it.time=v:=⟨_,rfl⟩;rw[hVv] at HV HJ;rw[hWn] at HWn HFt HJ;obtain⟨Ft,hFt⟩:∃v,fitsB (ldAt K.led Wn) x.it.weight=v:=⟨_,rfl⟩;obtain⟨Rt,hRt⟩:∃v,routeF c t x.it.key K.acc=v:=⟨_,rfl⟩;rw[hFt] at HFt HJ;rw[hRt] at HRo HJ hr0 hr1;clear hVv hWn hFt hRt hsp h hx
 go_enter func48,ntmps48
 go_upto_region 1 with fail
 have A1:=Blk.new w #[.string x.it.key,.int .i64 x.it.time,.int .u64 x.it.weight,.int .i64 x.ver] 114;have G1:=ga_ w (.cells #[.string x.it.key,.int .i64 x.it.time,.int .u64 x.it.weight,.int .i64 x.ver] 114) none;generalize w.alloc _=w1 at *;generalize hbx:w.heap.size=bx at *;clear hbx;have a1:=A1.cell
 by_cases hv:x.ver=0
 ·rw[hv] at a1
  have HJ1:=hh_ (HJ.out.trans (if_neg (by omega)));clear HJ
  go_upto_region 3 with fail
  clear a1;have KN:World.grownBy w1 w1.drew none:=gw_;have HX:=hh_ (A1.same KN);have HR:=hh_ (H.out.same (Aa_ G1 KN));have K6:=Aa_ G1 KN;clear A1 G1 KN
  (refine rn_ 13 (fun j _ w v w'=>match j with | 11=>v=.int .i64 Vv∧World.grownBy w w' none | _=>False) ?_;simp only[ts_])
  generalize w1.drew=w6 at *
  (refine tq_ 3 ?_;(repeat(go_big_quiet_step (fail)));refine wn_ ?_)
  (refine to_ ?_;intro x3 mx3 dx3)
  clear dx3;have BX:=(HR.out.same mx3).cfgIn
  go_wp2_with (refine Bt_ rfl _ rfl _ rfl c BX ?_)
  refine⟨Ab_ _ _,?_⟩;clear BX
  (refine tq_ 3 ?_;(repeat(go_big_quiet_step (fail)));refine wn_ ?_)
  (refine to_ ?_;intro x7 mx7 dx7)
  clear dx7;have bx:=(HR.out.same mx7).blk.cell
  go_wp2_with fail
  refine⟨Ab_ _ _,?_⟩;clear bx
  (refine tq_ 2 ?_;(repeat(go_big_quiet_step (fail)));refine wn_ ?_)
  (refine to_ ?_;intro x10 mx10 dx10)
  clear dx10;have bx:=(HX.out.same mx10).cell
  go_wp2_with fail
  refine⟨Ab_ _ _,?_⟩;clear bx
  (refine tc_ ?_;intro x11 mx11 dx11;refine⟨?_,?_⟩;· (unfold Rg.callSpec;go_simp;(refine(HV.out x11).mono ?_;rintro e w' ⟨rfl,g⟩;exact⟨_,rfl,rfl,g⟩)))
  clear dx11;rintro vx11 yx11 ⟨rfl,gx11⟩;refine⟨gx11,?_⟩;clear gx11;simp only[pt_]
  (refine tq_ 1 ?_;(repeat(go_big_quiet_step (fail)));refine wn_ ?_)
  (refine Rg.tree_nil ?_;intro z mz dz cz)
  have HX2:=hh_ (HX.out.same mz);have HR2:=hh_ (HR.out.same mz);have K7:=hh_ (Aa_ K6 mz);clear mx3 mx7 mx10 mx11 mz dz cz HX HR K6
  by_cases hVv:Vv=0
  ·subst hVv
   have HJ2:=hh_ (HJ1.out.trans (if_neg (by omega)));clear HJ1
   go_upto_region 6 with fail
   have KN:World.grownBy z z.drew none:=gw_;have HX:=hh_ (HX2.out.same KN);have HR:=hh_ (HR2.out.same KN);have K6:=Aa_ K7.out KN;clear HX2 HR2 KN
   (refine rn_ 17 (fun j _ w v w'=>match j with | 11=>v=.int .i64 Wn∧World.grownBy w w' none | 15=>v=.bool Ft∧World.grownBy w w' none | _=>False) ?_;simp only[ts_])
   generalize z.drew=w7 at *
   (refine tq_ 3 ?_;(repeat(go_big_quiet_step (fail)));refine wn_ ?_)
   (refine to_ ?_;intro x3 mx3 dx3)
   clear dx3;have bx:=(HR.out.same mx3).blk.cell
   go_wp2_with fail
   refine⟨Ab_ _ _,?_⟩;clear bx
   (refine tq_ 3 ?_;(repeat(go_big_quiet_step (fail)));refine wn_ ?_)
   (refine to_ ?_;intro x7 mx7 dx7)
   clear dx7;have BX:=(HR.out.same mx7).cfgIn
   go_wp2_with (refine Bt_ rfl _ rfl _ rfl c BX ?_)
   refine⟨Ab_ _ _,?_⟩;clear BX
   (refine tq_ 2 ?_;(repeat(go_big_quiet_step (fail)));refine wn_ ?_)
   (refine to_ ?_;intro x10 mx10 dx10)
   clear dx10;have bx:=(HX.out.same mx10).cell
   go_wp2_with fail
   refine⟨Ab_ _ _,?_⟩;clear bx
   (refine tc_ ?_;intro x11 mx11 dx11;refine⟨?_,?_⟩;· (unfold Rg.callSpec;go_simp;(refine(HWn.out x11).mono ?_;rintro e w' ⟨rfl,g⟩;exact⟨_,rfl,rfl,g⟩)))
   clear dx11;rintro vx11 yx11 ⟨rfl,gx11⟩;refine⟨gx11,?_⟩;clear gx11;simp only[pt_]
   (refine tq_ 2 ?_;(repeat(go_big_quiet_step (fail)));refine wn_ ?_)
   (refine to_ ?_;intro x14 mx14 dx14)
   clear dx14;have bx:=(HX.out.same mx14).cell
   go_wp2_with fail
   refine⟨Ab_ _ _,?_⟩;clear bx
   (refine tc_ ?_;intro x15 mx15 dx15;refine⟨?_,?_⟩;· (unfold Rg.callSpec;go_simp;(refine(HFt.out x15 (Aa_ K6 mx15)).mono ?_;rintro e w' ⟨rfl,g⟩;exact⟨_,rfl,rfl,g⟩)))
   clear dx15;rintro vx15 yx15 ⟨rfl,gx15⟩;refine⟨gx15,?_⟩;clear gx15;simp only[pt_]
   (refine tq_ 1 ?_;(repeat(go_big_quiet_step (fail)));refine wn_ ?_)
   (refine Rg.tree_nil ?_;intro z2 mz2 dz2 cz2)
   have HX2:=hh_ (HX.out.same mz2);have HR2:=hh_ (HR.out.same mz2);have K8:=hh_ (Aa_ K6 mz2);clear mx3 mx7 mx10 mx11 mx14 mx15 mz2 dz2 cz2 HX HR K6 K7;cases Ft
   ·have HJ3:=hh_ (HJ2.out.trans (if_pos rfl))
    clear HJ2
    go_wp2_with fail
    go_ret2
    exact Ne_ HJ3.out K8.out
   ·have HJ3:=hh_ (HJ2.out.trans (if_neg (by simp)))
    clear HJ2
    go_upto_region 8 with fail
    have KN:World.grownBy z2 z2.drew none:=gw_;have HX:=hh_ (HX2.out.same KN);have HR:=hh_ (HR2.out.same KN);have K6:=Aa_ K8.out KN;clear HX2 HR2 KN
    (refine rn_ 14 (fun j _ w v w'=>match j with | 11=>v=.int .i64 K.acc∧World.grownBy w w' none | 12=>v=.int .i64 Rt∧World.grownBy w w' none | _=>False) ?_;simp only[ts_])
    generalize z2.drew=w8 at *
    (refine tq_ 3 ?_;(repeat(go_big_quiet_step (fail)));refine wn_ ?_)
    (refine to_ ?_;intro x3 mx3 dx3)
    clear dx3;have BX:=(HR.out.same mx3).cfgIn
    go_wp2_with (refine Bt_ rfl _ rfl _ rfl c BX ?_)
    refine⟨Ab_ _ _,?_⟩;clear BX
    (refine tq_ 2 ?_;(repeat(go_big_quiet_step (fail)));refine wn_ ?_)
    (refine to_ ?_;intro x6 mx6 dx6)
    clear dx6;have bx:=(HX.out.same mx6).cell
    go_wp2_with fail
    refine⟨Ab_ _ _,?_⟩;clear bx
    (refine tq_ 3 ?_;(repeat(go_big_quiet_step (fail)));refine wn_ ?_)
    (refine to_ ?_;intro x10 mx10 dx10)
    clear dx10;have bx:=(HR.out.same mx10).blk.cell
    go_wp2_with fail
    refine⟨Ab_ _ _,?_⟩;clear bx
    (refine tc_ ?_;intro x11 mx11 dx11;refine⟨?_,?_⟩;· (unfold Rg.callSpec;go_simp;(refine(HAc.out x11 (Aa_ K6 mx11)).mono ?_;rintro e w' ⟨rfl,g⟩;exact⟨_,rfl,rfl,g⟩)))
    clear dx11;rintro vx11 yx11 ⟨rfl,gx11⟩;refine⟨gx11,?_⟩;clear gx11;simp only[pt_]
    (refine tc_ ?_;intro x12 mx12 dx12;refine⟨?_,?_⟩;· (unfold Rg.callSpec;go_simp;(refine(HRo.out x12 (Aa_ K6 mx12)).mono ?_;rintro e w' ⟨rfl,g⟩;exact⟨_,rfl,rfl,g⟩)))
    clear dx12;rintro vx12 yx12 ⟨rfl,gx12⟩;refine⟨gx12,?_⟩;clear gx12;simp only[pt_]
    (refine tq_ 1 ?_;(repeat(go_big_quiet_step (fail)));refine wn_ ?_)
    (refine Rg.tree_nil ?_;intro z3 mz3 dz3 cz3)
    have HR2:=hh_ (HR.out.same mz3);have K9:=hh_ (Aa_ K6 mz3);clear mx3 mx6 mx10 mx11 mx12 mz3 dz3 cz3 HX HR K6 K8
    have hil:Rt.toNat<K.sh.length:=by omega
    have hgl:Rt.toNat<G.sh.length:=by have:=HR2.out.core.len;omega
    have hS:K.sh[Rt.toNat]?=some K.sh[Rt.toNat]:=gq_ hil;have hs:G.sh[Rt.toNat]?=some G.sh[Rt.toNat]:=gq_ hgl;have RS:=HR2.out.core.shd Rt.toNat _ _ hs hS
    have hq:qLen K Rt =((K.sh[Rt.toNat]).queue.length:Int):=by unfold qLen;rw[hS];rfl
    have HJ4:=hh_ (HJ3.out.trans (by rw[hq]));obtain⟨qa,qc,hqv⟩:=RS.q.shape;have sb:=RS.blk.cell;rw[hqv] at sb;have ck0:=sb 17;have cK:=HR2.out.blk.cell;obtain⟨ga,ca,hva,_,hga,_,hca,_⟩:=HR2.out.core.sp.at_ Ct_ (i:=Rt.toNat) (by simpa using hgl);have hc0:=hca 0 _ rfl;rw[Nat.mul_one,Nat.add_zero,List.getElem_map] at hc0;rw[List.length_map] at hva;rw[hva] at cK
    have hlt:Rt<(G.sh.length:Int):=by omega
    have ckS:=cK 22;have ckQ:=cK 5;clear hca hs hS RS hq HJ3 sb cK;generalize G.sh[Rt.toNat]=s at *;generalize (K.sh[Rt.toNat]).queue.length=n at *
    go_upto_region 9 with fail
    go_quiet (fail)
    by_cases hq :(n:Int)=c.Queue
    ·have HJ5:=hh_ (HJ4.out.trans (if_pos hq))
     have hq1 :((n:Int)==c.Queue)=true:=by simp[hq]
     clear HJ4 hq
     go_wp2_with fail
     go_ret2
     exact Ne_ HJ5.out (Ae_ K9.out _)
    ·have HJ5:=hh_ (HJ4.out.trans (if_neg hq))
     have hq1 :((n:Int)==c.Queue)=false:=bf_ hq;clear HJ4 hq
     go_wp2_with fail
     go_ret2
     exact Ne_ HJ5.out (Ae_ K9.out _)
  ·have hv1 :(Vv==0)=false:=by simp[hVv]
   have hv2 :(Vv != 0)=true:=by simp[hVv]
   have HJ2:=hh_ (HJ1.out.trans (if_pos hVv));clear HJ1 hVv
   go_wp2_with fail
   go_ret2
   exact Ne_ HJ2.out K7.out
 ·have hv1 :(x.ver==0)=false:=by simp[hv]
  have hv2 :(x.ver != 0)=true:=by simp[hv]
  have HJ1:=hh_ (HJ.out.trans (if_pos hv));clear HJ hv
  go_wp2_with fail
  go_ret2
  exact Ne_ HJ1.out G1
end
section
open Go.RowKit
structure CluOk (c:Cfg) (K:CluM) (N:Nat):Prop where
 str:StrOk K.str
 acc:0≤K.acc∧K.acc≤N
 led:K.led.length≤N
 items:K.items.length≤N
 len :(K.sh.length:Int)=c.Shards
 sh:∀S∈K.sh,ShOk c S∧S.ts.length+S.queue.length≤N
 its:∀x∈K.items,ItW x
theorem CluOk.up {c:Cfg} {K:CluM} {N M:Nat} (h:CluOk c K N) (hm:N≤M):CluOk c K M:=
 ⟨h.str,⟨h.acc.1,by have:=h.acc.2;omega⟩,lt_ h.led hm,lt_ h.items hm,h.len,fun S hS=>⟨(h.sh S hS).1,lt_ (h.sh S hS).2 hm⟩,h.its⟩
theorem Nr_ {w n:Int}:∀{L:List (Int×Int)},(ldPut L w n).length≤L.length+1
 | []=>by simp[ldPut]
 | p::L=>by
  unfold ldPut
  split
  ·have:=Nr_ (w:=w) (n:=n) (L:=L)
   simp only[lc_];omega
  ·split <;> simp
theorem M6_ {w:Int}:∀{L:List (Int×Int)},(ldDel L w).length≤L.length
 | []=>by simp[ldDel]
 | p::L=>by
  unfold ldDel
  split
  ·simp
  ·have:=M6_ (w:=w) (L:=L)
   simp only[lc_];omega
theorem Ld_ {L:List TagR} (h:keyE L=0):0<(keyY L).size:=by
 have h1:keyY L =⟨(kyB (sortT L)).toArray⟩:=if_pos h
 have h2:sortE L=0:=by
  unfold keyE at h
  split at h
  ·rename_i h3;exact absurd h h3
  ·rename_i h3;exact Decidable.byContradiction h3
 obtain⟨h3,_,_,_⟩:=L0_ h2
 have h4:0<(sortT L).length:=by rw[Eg_];exact h3
 rw[h1]
 show 0<(kyB (sortT L)).toArray.size
 generalize sortT L=S at *
 cases S with
 | nil=>simp at h4
 | cons a S=>simp[kyB,tkB]
theorem F9_ {c:Cfg} {K:CluM} {x:InpR} (h :(judgeV c t K x).1=0):x.ver=0∧verV c K.mark x.it.time=0∧fitsB (ldAt K.led (winV c x.it.time)) x.it.weight=true∧qLen K (routeF c t x.it.key K.acc)≠c.Queue∧(judgeV c t K x).2=routeF c t x.it.key K.acc:=by
 unfold judgeV at h ⊢
 by_cases h1:x.ver≠0
 ·rw[if_pos h1] at h;exact absurd h h1
 ·rw[if_neg h1] at h ⊢
  by_cases h2:verV c K.mark x.it.time≠0
  ·rw[if_pos h2] at h;exact absurd h h2
  ·rw[if_neg h2] at h ⊢
   by_cases h3:fitsB (ldAt K.led (winV c x.it.time)) x.it.weight=false
   ·rw[if_pos h3] at h;simp at h
   ·rw[if_neg h3] at h ⊢
    by_cases h4:qLen K (routeF c t x.it.key K.acc)=c.Queue
    ·rw[if_pos h4] at h;simp at h
    ·rw[if_neg h4]
     exact⟨by omega,by omega,by simpa using h3,h4,rfl⟩
theorem K8_ {c:Cfg} {K:CluM} {x:InpR} (h :(judgeV c t K x).1≠0):inpK c t K x =({ K with rej:=rejR K.rej (judgeV c t K x).1 },(judgeV c t K x).1):=if_pos h
theorem Lx_ {c:Cfg} {K:CluM} {x:InpR} (h :(judgeV c t K x).1=0):inpK c t K x =({ K with led:=ldPut K.led (winV c x.it.time) x.it.weight,acc:=K.acc+1,sh:=K.sh.set (routeF c t x.it.key K.acc).toNat (pushS ((K.sh[(routeF c t x.it.key K.acc).toNat]?).getD ⟨[],[]⟩) (winV c x.it.time) x.it),items:=K.items++[x.it] },0):=by
 unfold inpK;rw[if_neg (by omega),(F9_ h).2.2.2.2]
theorem Qv_ {c:Cfg} {S:ShM} {win:Int} {it:ItR} (h:ShOk c S) (hq :(S.queue.length:Int)<c.Queue) (hw:0≤win∧win≤1099511627776) (ht:0≤it.time∧it.time≤1099511627776) (hx:W64 it.weight) (hk:0<it.key.size∧it.key.size≤255):ShOk c (pushS S win it):=by
 refine⟨?_,fun y hy=>?_,h.tiers⟩
 ·show((S.queue++[(⟨win,it⟩:B4_)]).length:Int)≤_
  simp;omega
 ·rcases ma_ hy with hy|hy
  ·exact h.waits y hy
  ·rw[ms_ hy]
   exact⟨hw,ht,hx,hk⟩
theorem Xd_ {c:Cfg} {K:CluM} {x:InpR} {N:Nat} (hn:CfgNums c) (h:CluOk c K N) (hx:InpOk c.Key x):CluOk c (inpK c t K x).1 (N+1):=by
 by_cases hv :(judgeV c t K x).1=0
 ·rw[Lx_ hv]
  obtain⟨h1,h2,h3,h4,_⟩:=F9_ hv;obtain⟨g1,L,g2,g3,g4⟩:=hx.good h1;have hkey:=hn.key;have hsz:0<x.it.key.size∧x.it.key.size≤255:=⟨by rw[g3];exact Ld_ g2,hx.size⟩;have hw64:W64 x.it.weight:=⟨by omega,by have:=hx.weight;omega⟩;have hwb:=Ks_ c x.it.time;refine⟨h.str,⟨by have:=h.acc;dsimp only;omega,by have:=h.acc;dsimp only;omega⟩,lt_ Nr_ (Nat.add_le_add_right h.led 1),by simp only[la_,ls_];have:=h.items;omega,by simpa using h.len,fun S hS=>?_,fun y hy=>?_⟩
  ·rcases List.mem_or_eq_of_mem_set hS with hS|rfl
   ·exact⟨(h.sh S hS).1,Nat.le_succ_of_le (h.sh S hS).2⟩
   ·cases hs:K.sh[(routeF c t x.it.key K.acc).toNat]? with
    | none=>
     refine⟨Qv_ (show ShOk c ⟨[],[]⟩ from⟨by have:=hn.queue;simp;omega,by simp,by simp⟩) (by have:=hn.queue;simp;omega) hwb hx.time hw64 hsz,by simp[pushS]⟩
    | some S0=>
     obtain⟨a,b⟩:=h.sh S0 (mo_ hs)
     have hq:qLen K (routeF c t x.it.key K.acc) =(S0.queue.length:Int):=by unfold qLen;rw[hs];rfl
     have hlt :(S0.queue.length:Int)<c.Queue:=by have:=a.queue;rw[hq] at h4;omega
     refine⟨Qv_ (S:=S0) a hlt hwb hx.time hw64 hsz,?_⟩
     show S0.ts.length+(S0.queue++[_]).length≤_
     simp;omega
  ·rcases ma_ hy with hy|hy
   ·exact h.its y hy
   ·rw[ms_ hy]
    exact⟨⟨by have:=hx.time;omega,by have:=hx.time;omega⟩,hw64,by have:=hx.size;omega⟩
 ·rw[K8_ hv]
  exact⟨h.str,⟨h.acc.1,by have:=h.acc.2;dsimp only;omega⟩,Nat.le_succ_of_le h.led,Nat.le_succ_of_le h.items,h.len,fun S hS=>⟨(h.sh S hS).1,Nat.le_succ_of_le (h.sh S hS).2⟩,h.its⟩
theorem a5_ {c:Cfg} {K:CluM} {N:Nat} (hn:CfgNums c) (h:CluOk c K N) (l:List InpR) (hl:∀x∈l,InpOk c.Key x):∀k,k≤l.length→CluOk c (inpsK c t K (l.take k)).1 (N+k)∧(inpsK c t K (l.take k)).2.length=k:=by
 intro k
 induction k with
 | zero=>exact fun _=>⟨by simpa [inpsK] using h,by simp[inpsK]⟩
 | succ k ih=>
  intro hk;obtain⟨h1,h2⟩:=ih (by omega);rw[tg_ (show k<l.length by omega),Gs_];exact⟨Xd_ hn h1 (hl _ (mg_ _)),by simp[h2]⟩
theorem H2_ {c:Cfg} {x:ChM} (hx:ChOk x) :(chInps c x).length≤65∧∀y∈chInps c x,InpOk c.Key y:=by
 unfold chInps
 split
 ·exact⟨P8_ _ _,R5_ _ _⟩
 ·rename_i h
  refine⟨by simp,fun y hy=>?_⟩;rw[ms_ hy];refine⟨hx.ver,fun _=>rfl,?_,?_,?_,fun h0=>absurd h0 h⟩ <;> (dsimp only;decide)
theorem Ta_ {S:ShM} {win:Int} {n:Nat} (h:S.ts.length+S.queue.length≤n) :(closeS S win).ts.length+(closeS S win).queue.length≤n:=by
 unfold closeS
 split
 ·simp only[la_,lk_,List.length_drop];omega
 ·exact h
end
section
open Go.RowKit Go.Sort
section
variable {w w':World} {G:RcG} {c:Cfg} {t:List Int} {K:CluM}
theorem Xp_ (h:RClu w G c t K) (r:Int):Calls prog 49 #[.pointer (some ⟨G.bl,0,none⟩),.int .i64 r] w (fun e w'=>e=.returned (.int .i64 (rejE r))∧∃F',RClu w' { G with LF:=F' } c t { K with rej:=rejR K.rej r }∧Mov G.F (RcG.F { G with LF:=F' }) w w'):=
 (Mm_ (upF G.LF w.heap.size) G.bl K.led K.acc K.rej r w (h.core.led.mono fun _ hi=>.inl hi)).mono fun e w' ⟨h1,h2,h3⟩=>by
  obtain⟨F',a,b,m⟩:=h2.mov h3;exact⟨h1,F',h.setL a b m⟩
theorem Td_ (h:RClu w G c t K) (win x:Int) (hw:I64 win) (hx:W64 x) (hl:K.led.length<1000000000) (ha:0≤K.acc∧K.acc<1000000000) (hf:fitsB (ldAt K.led win) x=true):Calls prog 51 #[.pointer (some ⟨G.bl,0,none⟩),.int .i64 win,.int .u64 x] w (fun e w'=>e=.returned (.bool true)∧∃F',RClu w' { G with LF:=F' } c t { K with led:=ldPut K.led win x,acc:=K.acc+1 }∧Mov G.F (RcG.F { G with LF:=F' }) w w'):=
 (Mp_ (upF G.LF w.heap.size) G.bl K.led K.acc K.rej win x w (h.core.led.mono fun _ hi=>.inl hi) (fun i hi=>.inr hi) hw hx hl ha).mono fun e w' ⟨h1,h2,h3⟩=>by
  obtain⟨F',a,b,m⟩:=h2.mov h3
  have e1:accL K.led win x=ldPut K.led win x:=by unfold accL;rw[hf];rfl
  have e2:accN K.led win x K.acc=K.acc+1:=by unfold accN;rw[hf];rfl
  rw[e1,e2] at a;exact⟨by rw[h1,hf],F',h.setL a b m⟩
theorem Zs_ (h:RClu w G c t K) (win:Int) (hl:K.led.length<1000000000):Calls prog 60 #[.pointer (some ⟨G.bl,0,none⟩),.int .i64 win] w (fun e w'=>e=.returned (.tuple #[.int .u64 (ldAt K.led win),.bool (ldHas K.led win)])∧∃F',RClu w' { G with LF:=F' } c t { K with led:=ldDel K.led win }∧Mov G.F (RcG.F { G with LF:=F' }) w w'):=
 (Oe_ (upF G.LF w.heap.size) G.bl K.led K.acc K.rej win w (h.core.led.mono fun _ hi=>.inl hi) (fun i hi=>.inr hi) hl).mono fun e w' ⟨h1,h2,h3⟩=>by
  obtain⟨F',a,b,m⟩:=h2.mov h3;exact⟨h1,F',h.setL a b m⟩
theorem f6_ (h:RClu w G c t K) {i:Nat} {s:RshG} {S:ShM} (hi:G.sh[i]?=some s) (hS:K.sh[i]?=some S) (win:Int) (it:ItR) (hq :(S.queue.length:Int)<c.Queue) (hQ:c.Queue≤1000) (hk:0<it.key.size∧it.key.size≤255) :
  Calls prog 52 #[.pointer (some ⟨s.g,0,none⟩),.int .i64 win,.agg #[.string it.key,.int .i64 it.time,.int .u64 it.weight]] w (fun e w'=>e=.returned (.int .i64 0)∧∃s',RClu w' { G with sh:=G.sh.set i s' } c t { K with sh:=K.sh.set i (pushS S win it) }∧Mov G.F (RcG.F { G with sh:=G.sh.set i s' }) w w'∧s'.g=s.g):=
 (e0_ s c t S win it w (h.core.shd i s S hi hS) hq hQ hk).mono fun e w' ⟨h1,s',R,M,hg⟩=>by
  obtain⟨a,b⟩:=h.setS hi R M hg;exact⟨h1,s',a,b,hg⟩
end
structure FdS (w0:World) (G0:RcG) (c:Cfg) (t:List Int) (w:World) (G:RcG) (K:CluM) (vo:Value) (outs:List Int):Prop where
 clu:RClu w G c t K
 cfg:CfgW w c t G.F
 mov:Mov G0.F G.F w0 w
 out:Own intF 1 3 w0.heap.size w vo outs
 ofo:Off (ownF vo) G.F
 tl:∀i,ownF c.Table i→i<w0.heap.size
 g:G.g=G0.g
 bl:G.bl=G0.bl
 vs:G.vs=G0.vs
 gs:G.sh.map (·.g)=G0.sh.map (·.g)
def fdU (G:RcG) (vo:Value):Fp:=fun i=>G.F i∨ownF vo i
section
variable {w0 w w':World} {G0 G G':RcG} {c:Cfg} {t:List Int} {K K':CluM} {vo vo':Value} {outs outs':List Int}
theorem FdS.same (h:FdS w0 G0 c t w G K vo outs) (g:w.grownBy w' none):FdS w0 G0 c t w' G K vo outs:=⟨h.clu.same g,h.cfg.same g,h.mov.trans (Mov.same g),h.out.same g,h.ofo,h.tl,h.g,h.bl,h.vs,h.gs⟩
theorem FdS.step (h:FdS w0 G0 c t w G K vo outs) (hc:RClu w' G' c t K') (m:Mov G.F G'.F w w') (hg:G'.g=G.g) (hb:G'.bl=G.bl) (hv:G'.vs=G.vs) (hs:G'.sh.map (·.g)=G.sh.map (·.g)):FdS w0 G0 c t w' G' K' vo outs∧Mov (fdU G vo) (fdU G' vo) w w':=
 ⟨⟨hc,h.cfg.mov m,h.mov.trans m,h.out.offS m.grown h.ofo,m.off h.out.low h.ofo,h.tl,hg.trans h.g,hb.trans h.bl,hv.trans h.vs,hs.trans h.gs⟩,m.wide (fun _ hi=>.inl hi) fun i hi=>hi.elim .inr fun e=>.inl (.inr e)⟩
theorem FdS.app (h:FdS w0 G0 c t w G K vo outs) (ho:Own intF 1 3 w0.heap.size w' vo' outs') (hg:w.grownBy w' vo.ownBlock) (hL:Lies vo vo' w.heap.size):FdS w0 G0 c t w' G K vo' outs'∧Mov (fdU G vo) (fdU G vo') w w':=by
 have gS:GrownS (ownF vo) w w':=GrownS.of hg fun k hk=>hk
 have hnew:∀i,ownF vo' i→ownF vo i∨w.heap.size≤i:=fun i hi=>by
  rcases hL with e |⟨m,e1,e2⟩
  ·left;unfold ownF at hi ⊢;rw[←e];exact hi
  ·right;unfold ownF at hi;rw[e1] at hi;cases hi;exact e2
 have hlo:∀i,ownF vo i→w0.heap.size≤i:=fun i hi=>(h.out.lt i hi).1
 have hcl:=h.clu.low
 have hT:Off (ownF c.Table) (ownF vo):=fun i hi hf=>by have:=h.tl i hi;have:=hlo i hf;omega
 have hof:Off G.F (ownF vo):=h.ofo.symm
 have hnew2:∀i,ownF vo' i→w0.heap.size≤i:=fun i hi=>(ho.lt i hi).1
 refine⟨⟨h.clu.keptS gS hof,⟨h.cfg.nums,Br_ h.cfg.table gS hT,h.cfg.tlen,h.cfg.low.up gS.size,h.cfg.off⟩,⟨h.mov.grown.trans gS fun i hi hlt=>by have:=hlo i hi;omega,h.mov.new⟩,ho,fun i hi hf=>?_,h.tl,h.g,h.bl,h.vs,h.gs⟩,⟨gS.mono fun i hi _=>.inr hi,fun i hi=>?_⟩⟩
 ·rcases hnew i hi with e|e
  ·exact h.ofo i e hf
  ·have:=hcl i hf;omega
 ·rcases hi with hi|hi
  ·exact .inl (.inl hi)
  ·exact(hnew i hi).imp .inr id
end
end
section
open Go.RowKit Go.Sort
structure FdR (w:World) (U:Fp) (lo:Nat) (vc:Value) (l:List ChR) (vi:Value) (li:List InpR) (b:Nat) (y:InpR):Prop where
 chs:ChsG lo w vc l
 o1:Off (chsF vc l) U
 inp:Own inpF 4 114 0 w vi li
 o2:Off (ownF vi) U
 box:Blk w b #[.string y.it.key,.int .i64 y.it.time,.int .u64 y.it.weight,.int .i64 y.ver]
 o3:¬U b
theorem FdR.mov {U U':Fp} {lo:Nat} {vc:Value} {l:List ChR} {vi:Value} {li:List InpR} {b:Nat} {y:InpR} (h:FdR w U lo vc l vi li b y) (m:Mov U U' w w'):FdR w' U' lo vc l vi li b y:=
 ⟨h.chs.offS m.grown h.o1,m.off h.chs.low h.o1,h.inp.offS m.grown h.o2,m.off h.inp.low h.o2,h.box.keptS m.grown h.o3,fun hu=>(m.new b hu).elim h.o3 fun e=>by have:=h.box.lt;omega⟩
theorem FdR.same {U:Fp} {lo:Nat} {vc:Value} {l:List ChR} {vi:Value} {li:List InpR} {b:Nat} {y:InpR} (h:FdR w U lo vc l vi li b y) (g:w.grownBy w' none):FdR w' U lo vc l vi li b y:=h.mov (Mov.same g)
theorem Lh_ {l:List RshG} {i:Nat} {s s':RshG} (h:l[i]?=some s) (hg:s'.g=s.g) :(l.set i s').map (·.g)=l.map (·.g):=by
 have hil:=(gs_ h).1;rw[List.map_set]
 refine List.ext_getElem? fun j=>?_
 by_cases hij:i=j
 ·subst hij
  rw[List.getElem?_set_self (by simpa using hil),List.getElem?_map,h];simp[hg]
 ·rw[List.getElem?_set_ne hij]
def cu_ (G:RcG) (c:Cfg) (t:List Int) (K:CluM) (p:List UInt8) (w:World) (e:Ending) (w':World):Prop:=
 ∃G' vo,e=.returned vo∧FdS w G c t w' G' (feedK c t K p).1 vo (feedK c t K p).2
theorem aq_ (G:RcG) (c:Cfg) (t:List Int) (K:CluM) (N:Nat) (v:Value) (p:List UInt8) (w:World) (h:RClu w G c t K) (hC:CfgW w c t G.F) (hOk:CluOk c K N) (hp:RdL byF 1 w v p) (hl:p.length≤1000000) (hN:N+65*p.length<1000000000) :
  Calls prog 21 #[.pointer (some ⟨G.g,0,none⟩),v] w (cu_ G c t K p w):=by
 obtain⟨pa,pc,rfl⟩:=hp.shape;obtain⟨ba,bc,hbv⟩:=h.core.buf.shape;have CF:=hh_ (show Calls prog 46 #[.agg #[.slice ba K.str.buf.length bc,.int .u64 K.str.skip,.bool K.str.broken],.slice pa p.length pc] w (FeedP K.str p w) from by rw[←hbv];exact eo_ K.str G.vb _ p w h.core.buf.rd hOk.str hp hl);have b0:=h.blk.cell;rw[hbv] at b0
 have HB:=hh_ fun y (q:w.grownBy y none)=>(h.same q).blk
 have HSt:=hh_ fun y (q:w.grownBy y none) v' S' (o:Own byF 1 5 w.heap.size y v' S'.buf)=>h.setB q (S':=S') o
 obtain⟨hso,hsc,hsl⟩:=K2_ hOk.str p p.length (le_ _);rw[List.take_length] at hso hsc hsl;have HFK:=hh_ (show feedK c t K p=inpsK c t { K with str:=(strF K.str p).1 } ((strF K.str p).2.flatMap (chInps c)) from rfl);have HC:=hh_ hC;have hgl:=h.blk.lt;have HOk:=hh_ (show CluOk c { K with str:=(strF K.str p).1 } N from⟨hso,hOk.acc,hOk.led,hOk.items,hOk.len,hOk.sh,hOk.its⟩);have HLw:=hh_ h.core.low;clear hp h hso hC hOk;obtain⟨St,hSt⟩:∃St,(strF K.str p).1=St:=⟨_,rfl⟩;obtain⟨Cs,hCs⟩:∃Cs,(strF K.str p).2=Cs:=⟨_,rfl⟩;have HSC:=hh_ (And.intro hSt hCs);rw[hSt] at HFK HOk;rw[hCs] at HFK hsc hsl;clear hSt hCs
 go_enter func21,ntmps21
 go_upto_region 4 with(go_at_call 46;refine CF.out.mono ?_;rintro e w1 ⟨vb',vc,l,rfl,oB,oC,hm,hoff,g1⟩;rw[HSC.out.1] at oB;rw[HSC.out.2] at hm;rw[HSC.out.1];obtain⟨a1,c1,rfl⟩:=oB.shape;obtain⟨a2,c2,rfl⟩:=oC.own.shape;have b1:=(HB.out _ g1).cell;have f1:=(HB.out _ g1).free)
 obtain⟨RC2,MC2⟩:=HSt.out w1 g1 _ St oB
 have hgk:GrownS (oneF G.g) w1 (((w1.setCell ⟨G.g,18,none⟩ (.slice a1 St.buf.length c1)).setCell ⟨G.g,19,none⟩ (.int .u64 St.skip)).setCell ⟨G.g,20,none⟩ (.bool St.broken)):=GrownS.of (Ac_ (Ac_ (Ac_ (Ab_ w1 (some G.g)) _ _) _ _) _ _) fun k e=>by cases e;rfl
 have oC2:=By_.keptS chK oC hgk fun i e=>.inl (by rw[show i=G.g from e];exact hgl)
 have hofC:Off (chsF (.slice a2 l.length c2) l) (fdU { G with vb:=.slice a1 St.buf.length c1 } (.slice none 0 0)):=fun i hi hf=>by
  rcases hf with hf|hf
  ·have e:RcG.parts { G with vb:=.slice a1 St.buf.length c1 }=G.parts.set 1 (ownF (.slice a1 St.buf.length c1)):=rfl
   unfold RcG.F at hf;rw[e] at hf
   rcases mem_partsF hf with hf|hf
   ·exact hoff i hi hf
   ·have:=oC.ge i hi;have:=HLw.out i hf;omega
  ·exact Ax_ i hf
 have D0:FdS w G c t _ { G with vb:=.slice a1 St.buf.length c1 } { K with str:=St } (.slice none 0 0) []:=⟨RC2,HC.out.mov MC2,MC2,Own.nil _ _ _ _ _,fun i hi=>absurd hi (Ax_ i),HC.out.low,rfl,rfl,rfl,rfl⟩;have HD0:=hh_ D0;have HC2:=hh_ oC2;have HofC:=hh_ hofC;have Hm:=hh_ hm
 have hll:l.length≤p.length:=by have:=congrArg List.length hm;rw[List.length_map] at this;omega
 clear b0 b1 f1 RC2 MC2 hgk oC2 hofC oC oB hoff D0 CF HSt HB g1 hm HSC HLw hbv;generalize ((w1.setCell _ _).setCell _ _).setCell _ _=w2 at *;clear w1;generalize hG1 :({ G with vb:=.slice a1 St.buf.length c1 }:RcG)=G1 at *;generalize hK1 :({ K with str:=St }:CluM)=K1 at *;clear hG1 hK1
 go_upto_region 5 with fail
 go_loopw [5,29] (fun s5 s29 wk=>∃(k:Nat) (G':RcG) (K':CluM) (outs:List Int),k≤l.length∧s29=.int .i64 k∧FdS w G c t wk G' K' s5 outs∧inpsK c t K1 ((l.take k).flatMap fun x=>chInps c x.m) =(K',outs)∧CluOk c K' (N+outs.length)∧outs.length≤65*k∧ChsG w.heap.size wk (.slice a2 l.length c2) l∧Off (chsF (.slice a2 l.length c2) l) (fdU G' s5)) (fun _ s29 _=>l.length-(RowKit.intOf s29).toNat)
 case atStart=>exact⟨0,G1,K1,[],zl_ _,rfl,HD0.out,rfl,HOk.out,zl_ _,HC2.out,HofC.out⟩
 case round=>
  clear HD0 HC2 HofC;obtain⟨k,G',K',outs,hk,rfl,hD,hE,hO,hol,hCh,hOf⟩:=hrel
  by_cases hlt:k<l.length
  ·obtain⟨gc,cc,hv,_,hgc,_,hcc,_⟩:=hCh.own.at_ Lt_ hlt
   cases hv;have c0:=hcc 0 _ rfl;have c1':=hcc 1 _ rfl;rw[Nat.add_zero] at c0;have hxR:=(hCh.all _ (mg_ hlt)).1;have hxlo:=(hCh.all _ (mg_ hlt)).2.1;have hxok:=hsc (l[k]).m (by rw[←Hm.out];exact List.mem_map_of_mem (mg_ hlt))
   have hbl0 :(l[k]).m.body.length≤1000000:=by have:=hxok.len;omega
   have hxF:∀i,ownF (l[k]).vb i→chsF (.slice (some ⟨gc,0,none⟩) l.length c2) l i:=fun i hi=>.inr ⟨_,mg_ hlt,hi⟩
   have HT:=hh_ (show(l.take (k+1)).flatMap (fun x=>chInps c x.m) =(l.take k).flatMap (fun x=>chInps c x.m)++chInps c (l[k]).m by rw[tg_ hlt,List.flatMap_append];simp);obtain⟨hil,hio⟩:=H2_ (c:=c) hxok;have HD:=hh_ hD;have HCh:=hh_ hCh;have HOf:=hh_ hOf;have HE:=hh_ hE;have HO:=hh_ hO;have HIO:=hh_ hio;obtain⟨xa,xc,hxv⟩:=Own.shape hxR
   have hxcap :(l[k]).m.body.length≤xc:=by have:=hxR;unfold ChRd at this;rw[hxv] at this;exact this.cap
   have HXR:=hh_ (show Own byF 1 5 0 wr (.slice xa (l[k]).m.body.length xc) (l[k]).m.body by rw[←hxv];exact hxR);rw[hxv] at c0
   have hklt :(k:Int)<(l.length:Int):=by omega
   clear hcc hxR hxlo hD hE hO hCh hOf hio hxF hxok;generalize (l[k]).m=xm at *;clear hxv
   go_upto_region 8 with fail
   have A3:Blk ((wr.alloc (.cells #[.slice xa xm.body.length xc,.int .i64 xm.ver] 112)).alloc (.cells #[.string ⟨#[]⟩,.int .i64 0,.int .u64 0,.int .i64 xm.ver] 114)) wr.heap.size #[.slice xa xm.body.length xc,.int .i64 xm.ver]:=(Blk.new wr _ _).same (ga_ _ _ none)
   have I3:Own inpF 4 114 wr.heap.size ((wr.alloc (.cells #[.slice xa xm.body.length xc,.int .i64 xm.ver] 112)).alloc (.cells #[.string ⟨#[]⟩,.int .i64 0,.int .u64 0,.int .i64 xm.ver] 114)) (.slice (some ⟨wr.heap.size+1,0,none⟩) 1 1) [⟨itZ,xm.ver⟩]:=by
    have:=Pi_ (wr.alloc (.cells #[.slice xa xm.body.length xc,.int .i64 xm.ver] 112)) ⟨itZ,xm.ver⟩
    have e :(wr.alloc (.cells #[.slice xa xm.body.length xc,.int .i64 xm.ver] 112)).heap.size=wr.heap.size+1:=by simp
    rw[e] at this
    exact this.base fun q hq=>by have:=(this.lt q hq).1;omega
   have G3:wr.grownBy ((wr.alloc (.cells #[.slice xa xm.body.length xc,.int .i64 xm.ver] 112)).alloc (.cells #[.string ⟨#[]⟩,.int .i64 0,.int .u64 0,.int .i64 xm.ver] 114)) none:=Aa_ (ga_ _ _ none) (ga_ _ _ none);have HI3:=hh_ I3;clear I3;generalize (wr.alloc _).alloc _=w4 at *;have a3:=A3.cell
   go_upto_if 39 with fail
   go_cut [9,40,41,42,43,44,45,46,47] (fun s9 _ _ _ _ _ _ _ _ wx=>∃li,li=chInps c xm∧Own inpF 4 114 wr.heap.size wx s9 li∧wr.grownBy wx none)
   case first=>
    by_cases hv:xm.ver=0
    ·have HCi:=hh_ (show chInps c xm=inputsF c.Key xm.body from if_pos hv)
     have hv1 :(xm.ver==0)=true:=by simp[hv]
     go_upto_region 9 with fail
     have KN:World.grownBy w4 w4.drew none:=gw_;have HX:=hh_ (A3.same KN);have HR:=hh_ (HD.out.clu.same (Aa_ G3 KN));have HXR2:=hh_ (HXR.out.same (Aa_ G3 KN));have hky:=HC.out.nums.key;have hgg:=HD.out.g;have K6:=hh_ (Aa_ G3 KN);clear a3 A3 KN
     (refine rn_ 9 (fun j _ w v w'=>match j with | 7=>Own inpF 4 114 w.heap.size w' v (inputsF c.Key xm.body)∧World.grownBy w w' none | _=>False) ?_;simp only[ts_])
     generalize w4.drew=w6 at *
     (refine tq_ 1 ?_;(repeat(go_big_quiet_step (fail)));refine wn_ ?_)
     (refine to_ ?_;intro x1 mx1 dx1)
     clear dx1;have bx:=(HX.out.same mx1).cell
     go_wp2_with fail
     refine⟨Ab_ _ _,?_⟩;clear bx
     (refine tq_ 4 ?_;(repeat(go_big_quiet_step (fail)));refine wn_ ?_)
     (refine to_ ?_;intro x6 mx6 dx6)
     clear dx6;have bx:=(HR.out.same mx6).blk.cell;rw[hgg] at bx
     go_wp2_with fail
     refine⟨Ab_ _ _,?_⟩;clear bx
     (refine tc_ ?_;intro x7 mx7 dx7;refine⟨?_,?_⟩;· (unfold Rg.callSpec;go_simp;(refine(Za_ _ xm.body c.Key x7 (HXR2.out.same mx7).rd (fun a n c e=>by cases e;exact hxcap) hbl0 (by omega)).mono ?_;rintro e w' ⟨vz,rfl,oz,gz⟩;exact⟨vz,rfl,oz,gz⟩)))
     clear dx7;rintro v7 y7 ⟨o7,g7⟩;have hsx:=mx7.size;refine⟨g7,?_⟩;simp only[pt_]
     (refine tq_ 1 ?_;(repeat(go_big_quiet_step (fail)));refine wn_ ?_)
     (refine Rg.tree_nil ?_;intro z mz dz cz)
     have OZ:=o7.same (dz.out 7 (by omega));have hk6:=K6.out.size
     go_wp2_with fail
     go_meet
     exact⟨_,HCi.out.symm,OZ.base fun q hq=>by have:=(OZ.lt q hq).1;omega,Aa_ K6.out mz⟩
    ·have hv1 :(xm.ver==0)=false:=by simp[hv]
     have HCi:=hh_ (show chInps c xm=[⟨itZ,xm.ver⟩] from if_neg hv);clear hv
     go_wp2_with fail
     go_meet
     exact⟨_,HCi.out.symm,HI3.out,G3⟩
   case rest=>
    obtain⟨li,hli,oI,gI⟩:=hcut
    rename_i hKx
    refine hKx _ _ ?_;clear hKx;have D4:=HD.out.same gI;have C4:=HCh.out.same chK gI
    have hlowU:Low wr (fdU G' u5):=fun i hi=>hi.elim (HD.out.clu.low i) (HD.out.out.low i)
    have oF4:Off (ownF u9) (fdU G' u5):=fun i hi hf=>by have:=(oI.lt i hi).1;have:=hlowU i hf;omega
    obtain⟨ia,ic,rfl⟩:=oI.shape;have HD4:=hh_ D4;have HC4:=hh_ C4;have HI4:=hh_ oI.zero;have HF4:=hh_ oF4;rw[←hli] at hil HIO HT;obtain⟨DN,hDN⟩:∃DN,(l.take k).flatMap (fun x=>chInps c x.m)=DN:=⟨_,rfl⟩;rw[hDN] at HE HT;have HDN:=hh_ hDN;clear D4 C4 oF4 oI hlowU gI A3 a3 G3 HI3 HXR c0 c1' hxcap hbl0 hli hDN HD HCh
    go_upto_region 11 with fail
    go_loopw [5,50] (fun s5 s50 wk=>∃(j:Nat) (G2:RcG) (K2:CluM) (outs2:List Int),j≤li.length∧s50=.int .i64 j∧FdS w G c t wk G2 K2 s5 outs2∧inpsK c t K1 (DN++li.take j) =(K2,outs2)∧CluOk c K2 (N+outs2.length)∧outs2.length≤65*k+j∧ChsG w.heap.size wk (.slice (some ⟨gc,0,none⟩) l.length c2) l∧Off (chsF (.slice (some ⟨gc,0,none⟩) l.length c2) l) (fdU G2 s5)∧Own inpF 4 114 0 wk (.slice ia li.length ic) li∧Off (ownF (.slice ia li.length ic)) (fdU G2 s5)) (fun _ s50 _=>li.length-(RowKit.intOf s50).toNat)
    case atStart=>exact⟨0,G',K',outs,zl_ _,rfl,HD4.out,by simpa using HE.out,HO.out,by omega,HC4.out,HOf.out,HI4.out,HF4.out⟩
    case round=>
     clear HD4 HC4 HI4 HF4 HE HO HOf;obtain⟨j,G2,K2,outs2,hj,rfl,hD,hE,hO,hol2,hCh,hOf,hIn,hIf⟩:=hrel
     by_cases hjl:j<li.length
     ·obtain⟨gi,ci,hvi,_,hgi,_,hci,_⟩:=hIn.at_ Ev_ hjl
      cases hvi;have e0:=hci 0 _ rfl;have e1:=hci 1 _ rfl;have e2:=hci 2 _ rfl;have e3:=hci 3 _ rfl;rw[Nat.add_zero] at e0;have hyok:=HIO.out _ (mg_ hjl);have HTj:=hh_ (show DN++li.take (j+1) =(DN++li.take j)++[li[j]] by rw[tg_ hjl,List.append_assoc])
      have hjlt :(j:Int)<(li.length:Int):=by omega
      generalize li[j]=y at *
      have hlowU:Low wr (fdU G2 u5):=fun i hi=>hi.elim (hD.clu.low i) (hD.out.low i)
      have gA:=ga_ wr (.cells #[.string y.it.key,.int .i64 y.it.time,.int .u64 y.it.weight,.int .i64 y.ver] 114) none;have R5:FdR (wr.alloc (.cells #[.string y.it.key,.int .i64 y.it.time,.int .u64 y.it.weight,.int .i64 y.ver] 114)) (fdU G2 u5) w.heap.size (.slice (some ⟨gc,0,none⟩) l.length c2) l (.slice (some ⟨gi,0,none⟩) li.length ic) li wr.heap.size y:=⟨hCh.same chK gA,hOf,hIn.same gA,hIf,Blk.new wr _ _,fun hf=>Nat.lt_irrefl _ (hlowU _ hf)⟩;have D5:=hD.same gA;have HR5:=hh_ R5;have HD5:=hh_ D5;have HE:=hh_ hE;have HO:=hh_ hO;have HY:=hh_ hyok;clear hD hE hCh hOf hIn hIf hci R5 D5 gA hlowU hyok
      go_upto_region 13 with fail
      generalize wr.alloc _=w5 at *;generalize wr.heap.size=by' at *;clear e0 e1 e2 e3;have hgg:=HD5.out.g;have CJ:=Yv_ G2 c t K2 y w5 HD5.out.clu HD5.out.cfg hO.len ⟨hO.acc.1,by have:=hO.acc.2;omega⟩ ⟨HY.out.time,⟨by have:=HY.out.weight;omega,by have:=HY.out.weight;omega⟩,by have:=HY.out.size;omega⟩;rw[hgg] at CJ;unfold Tv_ at CJ;have hVs:=hh_ (show ∀V Sx,judgeV c t K2 y =(V,Sx)→V≠0→inpK c t K2 y =({ K2 with rej:=rejR K2.rej V },V) from fun V Sx e h=>by have:=K8_ (c:=c) (t:=t) (K:=K2) (x:=y) (by rw[e];exact h);rw[e] at this;exact this)
      have hVa:=hh_ (show ∀V Sx,judgeV c t K2 y =(V,Sx)→V=0→(y.ver=0∧fitsB (ldAt K2.led (winV c y.it.time)) y.it.weight=true∧qLen K2 Sx≠c.Queue∧Sx=routeF c t y.it.key K2.acc)∧inpK c t K2 y =({ K2 with led:=ldPut K2.led (winV c y.it.time) y.it.weight,acc:=K2.acc+1,sh:=K2.sh.set Sx.toNat (pushS ((K2.sh[Sx.toNat]?).getD ⟨[],[]⟩) (winV c y.it.time) y.it),items:=K2.items++[y.it] },0) from fun V Sx e h=>by
       have h0 :(judgeV c t K2 y).1=0:=by rw[e];exact h
       obtain⟨b1,b2,b3,b4,b5⟩:=F9_ h0;rw[e] at b5;have b5':Sx=routeF c t y.it.key K2.acc:=b5
       exact⟨⟨b1,b3,by rw[b5'];exact b4,b5'⟩,by rw[Lx_ h0,←b5']⟩)
      obtain⟨V,Sx,hJ⟩:∃V Sx,judgeV c t K2 y =(V,Sx):=⟨_,_,rfl⟩;rw[hJ] at CJ;dsimp only at CJ;have CJ:=hh_ CJ;have HSn:=hh_ (show inpsK c t K1 (DN++li.take (j+1)) =((inpK c t K2 y).1,outs2++[(inpK c t K2 y).2]) by rw[HTj.out,Gs_,HE.out]);have HOn:=hh_ (Xd_ (t:=t) HC.out.nums hO HY.out)
      have hb3 :(outs2.length+1)*8≤140737488355328:=by omega
      have hb4:outs2.length+1≤9223372036854775807:=by omega
      have a5:=HR5.out.box.cell;have HOd:=hh_ hO;clear hO
      go_upto_region 14 with(go_at_call 48;refine CJ.out.mono ?_;rintro e w6 ⟨rfl,g6⟩)
      have D6:=HD5.out.same g6;have HR6:=hh_ (HR5.out.same g6);have hos:=HD5.out.out.lt;obtain⟨va,vcp,rfl⟩:=D6.out.shape;have hbase:w.heap.size≤w6.heap.size:=D6.mov.size;have HD6:=hh_ D6;have Hcs:=hh_ (show(#[Value.int .i64 V]:Array Value).toList=intF V from rfl);clear a5 HR5 HD5 g6 D6 CJ hos
      go_upto_region 15 with(at_builtin;refine A9_ Ca_ B9_ Bc_ HD6.out.out V hb3 hb4 hbase Hcs.out ?_;intro v7 w7 o7 g7 l7;obtain⟨a7,c7,rfl⟩:=o7.shape)
      obtain⟨D7,M7⟩:=HD6.out.app o7 g7 l7;have R7:=HR6.out.mov M7;simp only[la_,ls_] at D7 R7;have HD7:=hh_ D7;have HR7:=hh_ R7;clear o7 g7 l7 D7 R7 M7 HD6 HR6 hbase hb3 hb4
      by_cases hV:V=0
      ·obtain⟨⟨hv0,hfit,hq,hsx⟩,hin⟩:=hVa.out V Sx hJ hV
       subst hV;rw[hin] at HSn HOn;obtain⟨hw1,TL,ht1,ht2,ht3⟩:=HY.out.good hv0;have hkey:0<y.it.key.size∧y.it.key.size≤255:=⟨by rw[ht2];exact Ld_ ht1,HY.out.size⟩;have hw64:W64 y.it.weight:=⟨by omega,by have:=HY.out.weight;omega⟩;have hwb:=Ks_ c y.it.time;have HO2:=HOd.out
       have hil2:Sx.toNat<K2.sh.length:=by
        have h1:=He_ (t:=t) (k:=y.it.key) HC.out.nums.shards.1 HC.out.nums.spread.1 K2.acc HO2.acc.1;have h2:=HO2.len;rw[←hsx] at h1
        omega
       have hSx0:0≤Sx∧Sx<c.Shards:=by
        have h1:=He_ (t:=t) (k:=y.it.key) HC.out.nums.shards.1 HC.out.nums.spread.1 K2.acc HO2.acc.1;rw[←hsx] at h1;exact h1.2
       have hS2:K2.sh[Sx.toNat]?=some K2.sh[Sx.toNat]:=gq_ hil2
       have hqS :((K2.sh[Sx.toNat]).queue.length:Int)<c.Queue:=by
        have h1:=(HO2.sh _ (mg_ hil2)).1.queue
        have h2:qLen K2 Sx =((K2.sh[Sx.toNat]).queue.length:Int):=by unfold qLen;rw[hS2];rfl
        rw[h2] at hq
        omega
       have hQ1:c.Queue≤1000:=by have:=HC.out.nums.queue;omega
       have hled:K2.led.length<1000000000:=by have:=HO2.led;omega
       have hacc2:0≤K2.acc∧K2.acc<1000000000:=⟨HO2.acc.1,by have:=HO2.acc.2;omega⟩
       have hit2:K2.items.length<1000000000:=by have:=HO2.items;omega
       have HWn:=hh_ (show ∀z,Calls prog 50 #[c.val,.int .i64 y.it.time] z (fun e w'=>e=.returned (.int .i64 (winV c y.it.time))∧z.grownBy w' none) from fun z=>Xw_ c y.it.time z);rw[hS2] at HSn HOn;simp only[Option.getD_some] at HSn HOn;have HS2:=hh_ hS2;obtain⟨Wn,hWn⟩:∃v,winV c y.it.time=v:=⟨_,rfl⟩;rw[hWn] at HWn HSn HOn hfit hwb;clear hin hVs hVa hWn HO2 hq hS2 hJ HOd hsx ht1 ht2 ht3 hv0 hw1;generalize K2.sh[Sx.toNat]=S2 at *
       go_upto_region 17 with fail
       have KN:World.grownBy w7 w7.drew none:=gw_;have HDz:=hh_ (HD7.out.same KN);have HRz:=hh_ (HR7.out.same KN);have HX:=hh_ (HRz.out.box);have HR:=hh_ (HDz.out.clu);clear KN HD7 HR7
       (refine rn_ 9 (fun j _ w v w'=>match j with | 7=>v=.int .i64 Wn∧World.grownBy w w' none | _=>False) ?_;simp only[ts_])
       generalize w7.drew=w8 at *
       (refine tq_ 3 ?_;(repeat(go_big_quiet_step (fail)));refine wn_ ?_)
       (refine to_ ?_;intro x3 mx3 dx3)
       clear dx3;have BX:=(HR.out.same mx3).cfgIn;rw[hgg] at BX
       go_wp2_with (refine Bt_ rfl _ rfl _ rfl c BX ?_)
       refine⟨Ab_ _ _,?_⟩;clear BX
       (refine tq_ 2 ?_;(repeat(go_big_quiet_step (fail)));refine wn_ ?_)
       (refine to_ ?_;intro x6 mx6 dx6)
       clear dx6;have bx:=(HX.out.same mx6).cell
       go_wp2_with fail
       refine⟨Ab_ _ _,?_⟩;clear bx
       (refine tc_ ?_;intro x7 mx7 dx7;refine⟨?_,?_⟩;· (unfold Rg.callSpec;go_simp;(refine(HWn.out x7).mono ?_;rintro e w' ⟨rfl,g⟩;exact⟨_,rfl,rfl,g⟩)))
       clear dx7;rintro vx7 yx7 ⟨rfl,gx7⟩;refine⟨gx7,?_⟩;clear gx7;simp only[pt_]
       (refine tq_ 1 ?_;(repeat(go_big_quiet_step (fail)));refine wn_ ?_)
       (refine Rg.tree_nil ?_;intro z1 mz1 dz1 cz1)
       have HD8:=hh_ (HDz.out.same mz1);have HR8:=hh_ (HRz.out.same mz1);clear mx3 mx6 mx7 mz1 dz1 cz1 HX HR HDz HRz HWn
       go_upto_region 18 with fail
       have KN:World.grownBy z1 z1.drew none:=gw_;have HDz:=hh_ (HD8.out.same KN);have HRz:=hh_ (HR8.out.same KN);have HX:=hh_ (HRz.out.box);have HR:=hh_ (HDz.out.clu);clear KN HD8 HR8
       (refine rn_ 8 (fun _ _ _ _ _=>False) ?_;simp only[ts_])
       generalize z1.drew=w9 at *
       (refine tq_ 3 ?_;(repeat(go_big_quiet_step (fail)));refine wn_ ?_)
       (refine to_ ?_;intro x3 mx3 dx3)
       clear dx3;have bx:=(HR.out.same mx3).blk.cell;rw[hgg] at bx
       go_wp2_with fail
       refine⟨Ab_ _ _,?_⟩;clear bx
       (refine tq_ 3 ?_;(repeat(go_big_quiet_step (fail)));refine wn_ ?_)
       (refine to_ ?_;intro x7 mx7 dx7)
       clear dx7;have bx:=(HX.out.same mx7).cell
       go_wp2_with fail
       refine⟨Ab_ _ _,?_⟩;clear bx
       (refine Rg.tree_nil ?_;intro z2 mz2 dz2 cz2)
       have D9:=HDz.out.same mz2;have HD9:=hh_ D9;have HR9:=hh_ (HRz.out.same mz2);have CA:=hh_ (Td_ D9.clu Wn y.it.weight ⟨by omega,by omega⟩ hw64 hled hacc2 hfit);clear mx3 mx7 mz2 dz2 cz2 HX HR HDz HRz D9
       go_upto_region 19 with(go_at_call 51;refine CA.out.mono ?_;rintro e wA ⟨rfl,F',RA,MA⟩)
       obtain⟨DA,MA2⟩:=HD9.out.step RA MA rfl rfl rfl rfl;have KN:World.grownBy wA wA.drew none:=gw_;have HDz:=hh_ (DA.same KN);have HRz:=hh_ ((HR9.out.mov MA2).same KN);clear KN DA MA2 RA MA CA HD9 HR9;have HX:=hh_ (HRz.out.box);have HR:=hh_ (HDz.out.clu);have hgg2 :({ G2 with LF:=F' }:RcG).g=G.g:=hgg;obtain⟨G3,hG3⟩:∃G3:RcG,{ G2 with LF:=F' }=G3:=⟨_,rfl⟩;rw[hG3] at HDz HRz HR hgg2;obtain⟨K3,hK3⟩:∃K3:CluM,{ K2 with led:=ldPut K2.led Wn y.it.weight,acc:=K2.acc+1 }=K3:=⟨_,rfl⟩
       have hS3:K3.sh[Sx.toNat]?=some S2:=by rw[←hK3];exact HS2.out
       have hK3i:K3.items=K2.items:=by rw[←hK3]
       rw[hK3] at HDz HR;have HK3:=hh_ hK3
       have hgl3:Sx.toNat<G3.sh.length:=by have h1:=HR.out.core.len;have h2:=(gs_ hS3).1;omega
       have hs3:G3.sh[Sx.toNat]?=some G3.sh[Sx.toNat]:=gq_ hgl3;obtain⟨ga,ca,hva,_,hga,_,hca,_⟩:=HR.out.core.sp.at_ Ct_ (i:=Sx.toNat) (by simpa using hgl3);have hc0:=hca 0 _ rfl;rw[Nat.mul_one,Nat.add_zero,List.getElem_map] at hc0;rw[List.length_map] at hva;have hc0:=hh_ hc0
       have hslt:Sx<(G3.sh.length:Int):=by omega
       have hs0:0≤Sx:=hSx0.1
       have CP:=hh_ fun z (k:wA.drew.grownBy z none)=>f6_ (HR.out.same k) hs3 hS3 Wn y.it hqS hQ1 hkey
       have HS3:=hh_ hs3;clear hG3 hK3 hca hs3 hS3;generalize G3.sh[Sx.toNat]=s3 at *
       (refine rn_ 10 (fun _ _ _ _ _=>False) ?_;simp only[ts_])
       generalize wA.drew=wB at *
       (refine tq_ 3 ?_;(repeat(go_big_quiet_step (fail)));refine wn_ ?_)
       (refine to_ ?_;intro x3 mx3 dx3)
       clear dx3;have bx:=(HR.out.same mx3).blk.cell;rw[hgg2,hva] at bx
       go_wp2_with fail
       refine⟨Ab_ _ _,?_⟩;clear bx
       (refine tq_ 2 ?_;(repeat(go_big_quiet_step (fail)));refine wn_ ?_)
       (refine to_ ?_;intro x6 mx6 dx6)
       clear dx6;have bx:=((Am_ mx6).1 ga _ hga (by simp)).trans hc0.out
       go_wp2_with fail
       refine⟨Ab_ _ _,?_⟩;clear bx
       (refine tq_ 2 ?_;(repeat(go_big_quiet_step (fail)));refine wn_ ?_)
       (refine to_ ?_;intro x9 mx9 dx9)
       clear dx9;have bx:=(HX.out.same mx9).cell
       go_wp2_with fail
       refine⟨Ab_ _ _,?_⟩;clear bx
       (refine Rg.tree_nil ?_;intro z3 mz3 dz3 cz3)
       have HDB:=hh_ (HDz.out.same mz3);have HRB:=hh_ (HRz.out.same mz3);have CP2:=hh_ (CP.out _ mz3);clear mx3 mx6 mx9 mz3 dz3 cz3 HX HR HDz HRz CP hc0
       go_upto_region 20 with(go_at_call 52;refine CP2.out.mono ?_;rintro e wC ⟨rfl,s4,RC,MC,hgs⟩)
       obtain⟨DC,MC2⟩:=HDB.out.step RC MC rfl rfl rfl (Lh_ HS3.out hgs);have RCx:=HRB.out.mov MC2;clear RC MC MC2 CP2 HDB HRB hgs;obtain⟨G4,hG4⟩:∃G4:RcG,{ G3 with sh:=G3.sh.set Sx.toNat s4 }=G4:=⟨_,rfl⟩;obtain⟨K4,hK4⟩:∃K4:CluM,{ K3 with sh:=K3.sh.set Sx.toNat (pushS S2 Wn y.it) }=K4:=⟨_,rfl⟩
       have hg4:G4.g=G.g:=by rw[←hG4];exact hgg2
       have hi4:K4.items=K2.items:=by rw[←hK4];exact hK3i
       rw[hG4] at DC RCx;rw[hK4] at DC;have HK4:=hh_ hK4;clear hG4 hK4 HS3;have KN:World.grownBy wC wC.drew none:=gw_;have HDz:=hh_ (DC.same KN);have HRz:=hh_ (RCx.same KN);clear KN DC RCx;have hr0:=HDz.out.clu.core.off (i:=0) (j:=4) rfl rfl (by omega);obtain⟨ia2,ic2,hvi⟩:=HDz.out.clu.core.it.shape;obtain⟨r,hr⟩:∃r,G4.vi.ownBlock=r:=⟨_,rfl⟩
       have hr1:r≠some G.g:=fun e=>hr0 G4.g rfl (by show G4.vi.ownBlock=some G4.g;rw[hr,e,hg4])
       have hr2:r≠some by':=fun e=>HRz.out.o3 (.inl (RcG.F_part (j:=4) (P:=ownF G4.vi) rfl by' (by show G4.vi.ownBlock=some by';rw[hr,e])))
       have Hr:=hh_ hr;have HI:=hh_ HDz.out.clu.core.it;have HB:=hh_ HDz.out.clu.blk;have HX:=hh_ HRz.out.box
       have hb1 :(K4.items.length+[y.it].length)*32≤140737488355328:=by rw[hi4];simp;omega
       have hb2:K4.items.length+[y.it].length≤9223372036854775807:=by rw[hi4];simp;omega
       have Hi4:=hh_ hi4;have Hvi:=hh_ hvi;clear hr0 hr hi4 hvi
       (refine Rg.wp_region_rgZ 11 #[] (KeepR itF 3 41 0 (fun T=>T=K4.items∨T=K4.items++[y.it]) r) (fun _ _ _ _ _=>False) (by kernel_rfl) (by kernel_rfl) (KeepR.refl _ _ _ _ _ _) (fun _ _ _ h k=>h.trans k) (fun _ _ _ _ _ h=>h) ?_;simp only[List.take,List.drop])
       generalize wC.drew=wd at *
       (refine tq_ 4 ?_;(repeat(go_big_quiet_step (fail)));refine wn_ ?_)
       (refine to_ ?_;intro y4 my4 dy4)
       clear dy4;have bx:=(my4.blk HB.out (by rw[hg4];exact hr1)).cell;rw[hg4,Hvi.out] at bx
       go_wp2_with fail
       refine⟨KeepR.refl _ _ _ _ _ _ _,?_⟩;clear bx
       (refine tq_ 1 ?_;(repeat(go_big_quiet_step (fail)));refine wn_ ?_)
       (refine to_ ?_;intro y6 my6 dy6)
       clear dy6;have bx:=(my6.blk HX.out hr2).cell
       go_wp2_with fail
       refine⟨KeepR.refl _ _ _ _ _ _ _,?_⟩;clear bx
       (refine to_ ?_;intro y7 my7 dy7)
       clear dy7
       go_wp2_with fail
       refine⟨KeepR.of (ga_ _ _ _),?_⟩;have N7:=Blk.new y7 #[.string y.it.key,.int .i64 y.it.time,.int .u64 y.it.weight] 41;have hy7:=my7.grown.size;generalize y7.alloc _=e7 at *
       have hg7:r≠some y7.heap.size:=fun e=>by have:=HI.out.lt _ (Hr.out.trans e);omega
       generalize y7.heap.size=g7 at *
       (refine to_ ?_;intro y8 my8 dy8)
       have N8:=((dy8.out 7 (by omega) (by kernel_rfl)).blk N7 hg7).one Ip_ y.it rfl;have O8:=my8.own _ _ (.inl rfl) HI.out;have z8:=my8.grown.size;rw[Hvi.out] at O8;clear dy8 N7
       go_wp2_with (at_builtin;refine Iv_ (P:=fun T=>T=K4.items∨T=K4.items++[y.it]) c8_ hn_ Ip_ O8 N8 rfl hb1 hb2 (zl_ _) (fun T e=>e.elim (fun e=>.inl (by rw[e];exact le_ _)) (fun e=>.inr (.inl (by rw[e];exact List.prefix_refl _)))) (by rfl) _ _ (by rfl) (by rfl) (by rfl) ?_;intro v8 e8 o8 k8 l8;have Hk8:=hh_ k8;clear k8)
       rw[←Hvi.out] at Hk8 l8;rw[Hr.out] at Hk8;refine⟨Hk8.out,?_⟩
       have L8:Lies G4.vi v8 wd.heap.size:=l8.imp id fun⟨m,e1,e2⟩=>⟨m,e1,lt_ z8 e2⟩
       obtain⟨a8,c8,rfl⟩:=o8.shape
       (refine tq_ 2 ?_;(repeat(go_big_quiet_step (fail)));refine wn_ ?_)
       (refine Rg.tree_nil ?_;intro z4 mz4 dz4 cz4)
       have OZ:=(dz4.out 8 (by omega)).own _ _ (.inr rfl) o8;obtain⟨BZ,RZ,MZ⟩:=HDz.out.clu.setI OZ (by rw[Hr.out];exact mz4.grown) L8;have bz:=BZ.cell;have bf:=BZ.free;obtain⟨DZ,MZ2⟩:=HDz.out.step RZ MZ rfl rfl rfl rfl;have RZx:=HRz.out.mov MZ2;rw[hg4] at bz bf DZ RZx;have HZ:=hh_ (And.intro DZ RZx);clear dz4 cz4 mz4 my4 my6 my7 my8 Hk8 o8 O8 N8 l8 L8 OZ BZ RZ MZ DZ MZ2 RZx HB HX HI HDz HRz
       go_wp2_with fail
       obtain⟨DE,RE⟩:=HZ.out
       have eK :({ K4 with items:=K4.items++[y.it] }:CluM)={ K2 with led:=ldPut K2.led Wn y.it.weight,acc:=K2.acc+1,sh:=K2.sh.set Sx.toNat (pushS S2 Wn y.it),items:=K2.items++[y.it] }:=by rw[←HK4.out,←HK3.out]
       rw[eK] at DE
       have hol3 :(outs2++[(0:Int)]).length=outs2.length+1:=by simp
       simp only[la_,ls_] at DE RE;refine⟨⟨j+1,_,_,outs2++[0],by omega,by go_num,DE,HSn.out,by have:=HOn.out;rw[hol3];simpa [Nat.add_assoc] using this,by simp;omega,RE.chs,RE.o1,RE.inp,RE.o2⟩,by simp[RowKit.intOf];omega⟩
      ·have hV1 :(V==0)=false:=by simp[hV]
       have hV2 :(V != 0)=true:=by simp[hV]
       have hin:=hVs.out V Sx hJ hV;rw[hin] at HSn HOn;have CR:=hh_ (Xp_ HD7.out.clu V);have b7:=HD7.out.clu.blk.cell;rw[hgg] at b7;clear hV hin hJ hVs hVa
       go_wp2_with (go_at_call 49;refine CR.out.mono ?_;rintro e w8 ⟨rfl,F',R8,M8⟩)
       obtain⟨D9,M9⟩:=HD7.out.step R8 M8 rfl rfl rfl rfl;have R9:=HR7.out.mov M9;exact⟨⟨j+1,_,_,outs2++[V],by omega,by go_num,D9,by rw[HSn.out],by have:=HOn.out;simpa [Nat.add_assoc] using this,by simp;omega,R9.chs,R9.o1,R9.inp,R9.o2⟩,by simp[RowKit.intOf];omega⟩
     ·have hje:j=li.length:=by omega
      subst hje;rw[tk_ (le_ _),←HT.out] at hE;have HE2:=hh_ hE;have HO2:=hh_ hO;have HD2:=hh_ hD;have HC2:=hh_ hCh;have HF2:=hh_ hOf;clear hE hO hD hCh hOf hIn hIf HT
      go_wp2_with fail
      exact⟨⟨k+1,_,_,outs2,by omega,by go_num,HD2.out,HE2.out,HO2.out,by omega,HC2.out,HF2.out⟩,by simp[RowKit.intOf];omega⟩
  ·have hke:k=l.length:=by omega
   subst hke;rw[tk_ (le_ _),←List.flatMap_map] at hE;rw[Hm.out] at hE;have HE:=hh_ (HFK.out.trans hE);have HD:=hh_ hD;clear hE hD hO hCh hOf
   go_wp2_with fail
   go_ret
   exact⟨_,_,rfl,by rw[HE.out];exact HD.out⟩
end
section
open Go.RowKit
attribute [local go_sem ↓] Ag_
attribute [local go_sem] Ah_
section
variable {B b bc br bs:Nat} {c:Cfg} {w0 w w':World} {tot un:Int} {ve vr:Value}
end
end
section
open Go.RowKit
attribute [local go_sem ↓] Ag_
attribute [local go_sem] Ah_
end
section
open Go.RowKit
attribute [local go_sem ↓] Ag_
attribute [local go_sem] Ah_
end
section
open Go.RowKit
attribute [local go_sem ↓] Ag_
attribute [local go_sem] Ah_
def Ef_ (c:Cfg) (l:List Summ):Int:=fstN (l.map (sumErr c.Depth c.Width))
def mergeErr (c:Cfg) (l:List Summ):Int:=if (l.length:Int)≠c.Shards then 11 else if Ef_ c l≠0 then Ef_ c l else if 9223372036854775808<totalF l then 12 else 0
theorem ft_ {c:Cfg} {l:List Summ} {j:Nat} (hj:j<l.length) (h:∀i,(hi:i<l.length)→i<j→sumErr c.Depth c.Width l[i]=0) (h2:sumErr c.Depth c.Width l[j]≠0):Ef_ c l=sumErr c.Depth c.Width l[j]:=by
 unfold Ef_;rw[O9_ (j:=j) (by simpa using hj) (fun i hi hij=>by simpa using h i (by simpa using hi) hij) (by simpa using h2)]
 simp
theorem fb_ {c:Cfg} {l:List Summ} (h:∀i,(hi:i<l.length)→sumErr c.Depth c.Width l[i]=0):Ef_ c l=0:=O8_ fun i hi=>by simpa using h i (by simpa using hi)
def D7_ (l:List Summ):Prop:=∀s∈l,SumSmall s
end
section
open Go.RowKit
theorem CfgMem.one1 {c:Cfg} {l:List (Int×Int)} (h:CfgMem c l t w):c.Classes.oneCell'=true:=by obtain⟨a,cap,hv⟩:=h.classes.shape;rw[hv];rfl
theorem CfgMem.one2 {c:Cfg} {l:List (Int×Int)} (h:CfgMem c l t w):c.Table.oneCell'=true:=by obtain⟨a,cap,hv⟩:=h.table.shape;rw[hv];rfl
theorem Nb_ {c:Cfg} {l:List Summ} (hs:1≤c.Shards) (hl :(l.length:Int)=c.Shards):lineF c t l k=foldB c t l k (setF c t k):=by
 unfold lineF;rw[List.filter_eq_self.2 fun x hx=>?_]
 have:=Ei_ hs x hx
 simp;omega
end
section
open Go.RowKit
attribute [local go_sem ↓] Ag_
attribute [local go_sem] Ah_
def uAt (l:List Summ) (i:Int):Int:=((l[i.toNat]?).map (·.untr)).getD 0
def uF (l:List Summ) (is:List Int):Int:=is.foldl (fun a i=>satA a (uAt l i)) 0
theorem eq_ (l:List Summ) (is:List Int) (i:Int):uF l (is++[i])=satA (uF l is) (uAt l i):=by simp[uF]
theorem g3_ {l:List Summ} {n:Nat} (h:n<l.length):uAt l n=l[n].untr:=by simp[uAt,gq_ h]
def restI (m:Int) (n:Nat) (l:List Summ) (k:Nat):Int:=(rangeI k).foldl (fun x h=>max x (uF l (setN h m n))) 0
theorem Eo_ (m:Int) (n:Nat) (l:List Summ) (k:Nat):restI m n l (k+1)=max (restI m n l k) (uF l (setN k m n)):=by simp[restI,E9_]
def restF (c:Cfg) (l:List Summ):Int:=if mergeErr c l≠0 then 0 else restI c.Shards c.Spread.toNat l c.Shards.toNat
theorem Ue_ {c:Cfg} {l:List Summ} (h:mergeErr c l=0) :(l.length:Int)=c.Shards:=by
 unfold mergeErr at h
 by_cases e :(l.length:Int)≠c.Shards
 ·rw[if_pos e] at h;cases h
 ·omega
end
section
open Go.RowKit
theorem Js_:∀{l l':List Ap_},l.Pairwise (·<·)→l'.Pairwise (·<·)→(∀x,x∈l↔x∈l')→l=l'
 | [],[],_,_,_=>rfl
 | [],b::_,_,_,h=>by have:=(h b).2 (by simp);simp at this
 | a::_,[],_,_,h=>by have:=(h a).1 (by simp);simp at this
 | a::l,b::l',h1,h2,h=>by
  obtain⟨h3,h4⟩:=List.pairwise_cons.1 h1;obtain⟨h5,h6⟩:=List.pairwise_cons.1 h2
  have hab:a=b:=by
   rcases List.mem_cons.1 ((h a).1 (by simp)) with e|e
   ·exact e
   ·rcases List.mem_cons.1 ((h b).2 (by simp)) with e'|e'
    ·exact e'.symm
    ·exact absurd (Fd_ (h3 b e') (h5 a e)) (C3_ _)
  subst hab
  congr 1
  refine Js_ h4 h6 fun x=>?_
  have hx:=h x;simp only[List.mem_cons] at hx
  constructor
  ·intro hm
   rcases hx.1 (.inr hm) with e|e
   ·subst e;exact absurd (h3 x hm) (C3_ _)
   ·exact e
  ·intro hm
   rcases hx.2 (.inr hm) with e|e
   ·subst e;exact absurd (h5 x hm) (C3_ _)
   ·exact e
open Go.Lib in
theorem H9_ (d:Array Ap_) (hs:∀i j,i<j→j<d.size→d[i]!≤d[j]!):∀m,m≤d.size →
  (compactUpTo d m).Pairwise (·<·)∧(∀x∈compactUpTo d m,∃j,j<m∧x=d[j]!)∧∀j,j<m→d[j]!∈compactUpTo d m
 | 0,_=>⟨by simp[compactUpTo],by simp[compactUpTo],by omega⟩
 | m+1,hm=>by
  obtain⟨h1,h2,h3⟩:=H9_ d hs m (by omega);rw[compactUpTo_succ]
  by_cases hk:keeps d m=true
  ·rw[if_pos hk]
   refine⟨List.pairwise_append.2 ⟨h1,by simp,fun x hx y hy=>?_⟩,fun x hx=>?_,fun j hj=>?_⟩
   ·obtain rfl:=ms_ hy
    obtain⟨j,hj,rfl⟩:=h2 x hx
    have hne:d[m]!≠d[m-1]!:=by
     simp only[keeps,decide_eq_true_eq] at hk
     rcases hk with e|e
     ·omega
     ·exact e
    rcases Nat.lt_or_ge j (m-1) with h4|h4
    ·exact d4_ (hs j (m-1) h4 (by omega)) (b_lt (hs (m-1) m (by omega) (by omega)) (Ne.symm hne))
    ·obtain rfl:j=m-1:=by omega
     exact b_lt (hs (m-1) m (by omega) (by omega)) (Ne.symm hne)
   ·rcases ma_ hx with hx|hx
    ·obtain⟨j,hj,e⟩:=h2 x hx;exact⟨j,by omega,e⟩
    ·exact⟨m,by omega,ms_ hx⟩
   ·rcases Nat.lt_or_ge j m with h4|h4
    ·exact List.mem_append_left _ (h3 j h4)
    ·obtain rfl:j=m:=by omega
     exact List.mem_append_right _ (by simp)
  ·rw[if_neg hk,List.append_nil]
   refine⟨h1,fun x hx=>?_,fun j hj=>?_⟩
   ·obtain⟨j,hj,e⟩:=h2 x hx;exact⟨j,by omega,e⟩
   ·rcases Nat.lt_or_ge j m with h4|h4
    ·exact h3 j h4
    ·obtain rfl:j=m:=by omega
     have he:d[j]! = d[j-1]!∧0<j:=by
      simp only[keeps,decide_eq_true_eq,not_or,Decidable.not_not] at hk;exact⟨hk.2,Nat.pos_of_ne_zero hk.1⟩
     rw[he.1];exact h3 (j-1) (by omega)
def keysL (l:List Summ):List Ap_:=l.flatMap fun s=>s.es.map fun e=>e.key.data.toList
def sortL (L:List Ap_):List Ap_:=L.mergeSort fun x y=>decide (x≤y)
def ascF (L:List Ap_):List Ap_:=Lib.compact (sortL L)
theorem Ko_ (L:List Ap_) :(ascF L).Pairwise (·<·)∧∀x,x∈ascF L↔x∈L:=by
 have hs :(sortL L).Pairwise fun x y=>decide (x≤y)=true:=List.pairwise_mergeSort (le:=fun x y:Ap_=>decide (x≤y)) (fun a b c h h'=>dt_ (Sj_ (of_decide_eq_true h) (of_decide_eq_true h'))) (fun a b=>by
  rcases b_total a b with h|h <;> simp[h]) L
 have hp :(sortL L).Perm L:=List.mergeSort_perm L _;unfold ascF Lib.compact;generalize sortL L=K at *
 have hd:∀i j,i<j→j<K.toArray.size→K.toArray[i]!≤K.toArray[j]!:=fun i j hij hj=>by
  have hj':j<K.length:=by simpa using hj
  rw[getElem!_pos K.toArray i (by simp;omega),getElem!_pos K.toArray j hj];exact of_decide_eq_true (List.pairwise_iff_getElem.1 hs i j (by omega) hj' hij)
 obtain⟨h1,h2,h3⟩:=H9_ K.toArray hd K.length (by simp);refine⟨h1,fun x=>⟨fun hx=>?_,fun hx=>?_⟩⟩
 ·obtain⟨j,hj,rfl⟩:=h2 x hx
  rw[getElem!_pos K.toArray j (by simpa using hj)];exact hp.mem_iff.1 (by simp)
 ·obtain⟨j,hj,e⟩:=List.mem_iff_getElem.1 (hp.mem_iff.2 hx)
  have:=h3 j hj
  rw[getElem!_pos K.toArray j (by simpa using hj)] at this
  simpa [e] using this
theorem di_ {L M:List Ap_} (h:M.Pairwise (·<·)) (hm:∀x,x∈M↔x∈L):ascF L=M:=
 Js_ (Ko_ L).1 h fun x=>((Ko_ L).2 x).trans (hm x).symm
def lessN (L:List Ap_) (k:Ap_):Nat:=(L.takeWhile fun x=>decide (x<k)).length
def insF (L:List Ap_) (k:Ap_):List Ap_:=if L[lessN L k]?=some k then L else L.take (lessN L k)++[k]++L.drop (lessN L k)
theorem Tm_:∀{L:List Ap_} (k:Ap_),L.Pairwise (·<·)→(insF L k).Pairwise (·<·)∧∀x,x∈insF L k↔x=k∨x∈L
 | [],k,_=>by simp[insF,lessN]
 | a::L,k,h=>by
  obtain⟨h1,h2⟩:=List.pairwise_cons.1 h
  by_cases ha:a<k
  ·obtain⟨h3,h4⟩:=Tm_ k h2
   have e:insF (a::L) k=a::insF L k:=by
    have hl:lessN (a::L) k=lessN L k+1:=by simp[lessN,ha]
    unfold insF;rw[hl];simp only[List.getElem?_cons_succ,List.take_succ_cons,List.drop_succ_cons]
    split <;> simp
   rw[e];refine⟨List.pairwise_cons.2 ⟨fun x hx=>?_,h3⟩,fun x=>?_⟩
   ·rcases(h4 x).1 hx with e'|e'
    ·exact e'▸ha
    ·exact h1 x e'
   ·simp only[List.mem_cons,h4]
    constructor
    ·rintro(e|e|e)
     ·exact .inr (.inl e)
     ·exact .inl e
     ·exact .inr (.inr e)
    ·rintro(e|e|e)
     ·exact .inr (.inl e)
     ·exact .inl e
     ·exact .inr (.inr e)
  ·have hl:lessN (a::L) k=0:=by simp[lessN,ha]
   unfold insF;rw[hl];simp only[List.getElem?_cons_zero,Option.some.injEq,List.take_zero,List.nil_append,List.drop_zero]
   split
   ·rename_i e
    subst e;exact⟨h,fun x=>by simp⟩
   ·rename_i hne
    have hka:k<a:=b_lt (b_le.2 ha) (Ne.symm hne);refine⟨List.pairwise_cons.2 ⟨fun x hx=>?_,h⟩,fun x=>by simp⟩
    rcases List.mem_cons.1 hx with e|e
    ·exact e▸hka
    ·exact Fd_ hka (h1 x e)
theorem Zy_ (L:List Ap_) (k:Ap_) :(insF L k).length≤L.length+1:=by
 unfold insF
 split
 ·omega
 ·simp;omega
theorem H3_:∀(M L:List Ap_),(M.foldl insF L).length≤M.length+L.length
 | [],L=>by simp
 | k::M,L=>by
  have h1:=H3_ M (insF L k);have h2:=Zy_ L k;simp only[List.foldl_cons,lc_]
  omega
def keysF (l:List Summ):List Ap_:=ascF (keysL l)
theorem Ze_ (L:List Ap_):L.foldl insF []=ascF L:=by
 have:∀(L A M:List Ap_),A.Pairwise (·<·)→(∀x,x∈A↔x∈M)→(L.foldl insF A).Pairwise (·<·)∧∀x,x∈L.foldl insF A↔x∈M++L:=by
  intro L
  induction L with
  | nil=>intro A M h hm;exact⟨h,by simpa using hm⟩
  | cons k L ih=>
   intro A M h hm;obtain⟨h1,h2⟩:=Tm_ k h
   have:=ih (insF A k) (M++[k]) h1 fun x=>by rw[h2,List.mem_append,List.mem_singleton,hm];exact Or.comm
   simpa using this
 obtain⟨h1,h2⟩:=this L [] [] (by simp) (by simp);exact(di_ h1 (by simpa using h2)).symm
end
section
open Go.RowKit Go.Sort
def strB (b:Ap_):List Value:=[.string ⟨b.toArray⟩]
theorem Km_ (b:Ap_) :(strB b).length=1:=rfl
theorem K6_ (b:Ap_):strB b=[.string ⟨b.toArray⟩]:=rfl
theorem Ph_:OneF strB:=by intro x u hu;simp[strB] at hu;subst hu;rfl
theorem O6_:Elt 86 9 (.string ⟨#[]⟩) 1 16:=⟨underlying86,by kernel_rfl,rfl,by decide⟩
def entK (e:Ent):Ap_:=e.key.data.toList
theorem S1_ (l:List Summ) (s:Summ):keysL (l++[s])=keysL l++s.es.map entK:=by simp[keysL,entK]
theorem Lj_ (l:List Summ) (k:Nat) :(keysL (l.take k)).length≤(keysL l).length:=by
 have:keysL l=keysL (l.take k)++keysL (l.drop k):=by unfold keysL;rw[←List.flatMap_append,List.take_append_drop]
 rw[this,la_];omega
end
section
open Go.RowKit
attribute [local go_sem ↓] Ag_
attribute [local go_sem] Ah_
end
section
open Go.RowKit Go.Sort
attribute [local go_sem ↓] Ag_
attribute [local go_sem] Ah_
def bA (b:Ap_):ByteArray:=⟨b.toArray⟩
def lnOf (c:Cfg) (t:List Int) (l:List Summ) (b:Ap_):Ln:=⟨bA b,(lineF c t l (bA b)).1,(lineF c t l (bA b)).2⟩
def allF (c:Cfg) (t:List Int) (l:List Summ):List Ln:=(keysF l).map (lnOf c t l)
theorem I3_ {l:List Summ} {b:Ap_} (h:b∈keysF l):∃s∈l,∃e∈s.es,b=entK e:=by
 have:=((Ko_ _).2 b).1 h
 obtain⟨s,hs,he⟩:=List.mem_flatMap.1 this;obtain⟨e,h1,h2⟩:=List.mem_map.1 he;exact⟨s,hs,e,h1,h2.symm⟩
theorem Fx_ (l:List Summ) :(keysF l).length≤(keysL l).length:=by
 unfold keysF ascF;exact lt_ (Lib.compact_length_le _) (by rw[show(sortL (keysL l)).length =(keysL l).length from(List.mergeSort_perm _ _).length_eq];exact le_ _)
end
section
open Go.RowKit
def sumI (f:Int→Int) (is:List Int):Int:=is.foldl (fun a i=>a+f i) 0
theorem Ho_ (f:Int→Int):∀(is:List Int) (a:Int),is.foldl (fun a i=>a+f i) a=a+sumI f is
 | [],a=>by simp[sumI]
 | i::is,a=>by
  unfold sumI;simp only[List.foldl_cons];rw[Ho_ f is (a+f i),Ho_ f is (0+f i)]
  omega
theorem Av_ (f:Int→Int) (i:Int) (is:List Int):sumI f (i::is)=f i+sumI f is:=by
 show(i::is).foldl (fun a i=>a+f i) 0=_
 simp only[List.foldl_cons];rw[Ho_];omega
theorem N8_ (f:Int→Int) {is is':List Int} (h:is.Perm is'):sumI f is=sumI f is':=
 h.foldl_eq' (fun x _ y _ z=>by omega) _
theorem Fm_ {f:Int→Int}:∀{is:List Int},(∀i∈is,0≤f i)→0≤sumI f is
 | [],_=>by simp[sumI]
 | i::is,h=>by
  rw[Av_]
  have:=Fm_ fun x hx=>h x (List.mem_cons_of_mem _ hx)
  have:=h i (by simp)
  omega
theorem I0_ {f:Int→Int} (p:Int→Bool):∀{is:List Int},(∀i∈is,0≤f i)→sumI f (is.filter p)≤sumI f is
 | [],_=>by simp[sumI]
 | i::is,h=>by
  have h1:=I0_ p fun x hx=>h x (List.mem_cons_of_mem i hx)
  have h2:=h i (by simp);rw[Av_]
  by_cases hp:p i=true
  ·rw[List.filter_cons_of_pos hp,Av_];omega
  ·rw[List.filter_cons_of_neg hp];omega
theorem ff_ {f:Int→Int} {n:Nat} {is:List Int} (hn:is.Nodup) (hi:∀i∈is,0≤i∧i<n) (hf:∀i∈rangeI n,0≤f i):sumI f is≤sumI f (rangeI n):=by
 have hp:is.Perm ((rangeI n).filter fun x=>is.contains x):=by
  refine Ge_ hn ((Cg_ n).filter _) fun x=>?_
  simp only[List.mem_filter,A6_,List.contains_iff_mem];exact⟨fun h=>⟨hi x h,h⟩,fun h=>h.2⟩
 rw[N8_ f hp];exact I0_ _ hf
theorem Dg_ {f g:Int→Int}:∀{is:List Int},(∀i∈is,f i≤g i)→sumI f is≤sumI g is
 | [],_=>by simp[sumI]
 | i::is,h=>by
  rw[Av_,Av_]
  have:=Dg_ fun x hx=>h x (List.mem_cons_of_mem _ hx)
  have:=h i (by simp)
  omega
theorem Xv_ {f:Int→Int} {M:Int}:∀{is:List Int} {a:Int},(∀i∈is,0≤f i)→a+sumI f is≤18446744073709551615→is.foldl (fun a i=>satA a (f i)) a=a+sumI f is
 | [],a,_,_=>by simp[sumI]
 | i::is,a,h,hb=>by
  have h1:=Fm_ fun x hx=>h x (List.mem_cons_of_mem i hx)
  rw[Av_] at hb ⊢;simp only[List.foldl_cons]
  have e:satA a (f i)=a+f i:=by unfold satA;rw[if_pos (by omega)]
  rw[e,Xv_ (M:=M) (fun x hx=>h x (List.mem_cons_of_mem i hx)) (by omega)]
  omega
def totAt (l:List Summ) (i:Int):Int:=((l[i.toNat]?).map (·.total)).getD 0
theorem Mx_ (l:List Summ):totalF l =(rangeI l.length).foldl (fun a i=>satA a (totAt l i)) 0:=by
 have:∀k,k≤l.length→totalF (l.take k) =(rangeI k).foldl (fun a i=>satA a (totAt l i)) 0:=by
  intro k
  induction k with
  | zero=>intro _;rfl
  | succ k ih=>
   intro hk;rw[B2_ (show k<l.length by omega),I4_,E9_,List.foldl_append,ih (by omega)]
   simp[totAt,gq_ (show k<l.length by omega)]
 have h:=this l.length (le_ _)
 rwa [List.take_length] at h
section
variable {c:Cfg} {lc:List (Int×Int)} {t:List Int} {lv:Value} {l:List Summ} {w:World}
theorem Wl_ (k:ByteArray) (is:List Int) :(foldB c t l k is).1=is.foldl (fun a i=>satA a (bP c t l k i).1) 0∧(foldB c t l k is).2=is.foldl (fun a i=>satA a (bP c t l k i).2) 0:=by
 unfold foldB
 have:∀(is:List Int) (a:Int×Int),(is.foldl (fun a i=>addP a (bP c t l k i)) a).1=is.foldl (fun a i=>satA a (bP c t l k i).1) a.1∧(is.foldl (fun a i=>addP a (bP c t l k i)) a).2=is.foldl (fun a i=>satA a (bP c t l k i).2) a.2:=by
  intro is
  induction is with
  | nil=>exact fun _=>⟨rfl,rfl⟩
  | cons i is ih=>
   intro a;simp only[List.foldl_cons];exact ih (addP a (bP c t l k i))
 exact this is (0,0)
theorem K5_ {m:Int} {n:Nat} {T:Int} (h0:0≤T):∀(k:Nat),(∀j:Nat,j<k→uF l (setN j m n)≤T)→restI m n l k≤T
 | 0,_=>by simpa [restI,rangeI] using h0
 | k+1,h=>by
  rw[Eo_]
  have h1:=K5_ h0 k fun j hj=>h j (by omega)
  have h2:=h k (by omega)
  omega
end
end
section
open Go.RowKit Go.Sort
theorem h2_ (a b:Int) (w:World) (ha:W64 a) (hb:W64 b):Calls prog 101 #[.int .u64 a,.int .u64 b] w (D0_ (subF a b) (decide (b≤a)) w):=by
 by_cases h:a<b
 ·have h1:=hh_ (show subF a b=0 by unfold subF;rw[if_pos h])
  have h2:=hh_ (show decide (b≤a)=false from df_ (by omega))
  go_enter func101,ntmps101
  go_wp2
  go_ret2
  first|exact Nt_ h1.out h2.out|exact Nt_ h1.out rfl
 ·have h1:=hh_ (show subF a b=a-b by unfold subF;rw[if_neg h])
  have h2:=hh_ (show decide (b≤a)=true from dt_ (by omega));unfold W64 at ha hb;have hw:IntKind.u64.wrap (a-b)=a-b:=IntWalk.u64_in _ (by omega)
  go_enter func101,ntmps101
  go_wp2
  go_ret2
  first|exact Nt_ h1.out h2.out|exact Nt_ h1.out rfl
theorem h3_ (v:Value) (l:List Ln) (k:Int) (w:World) (h:RdL lnF 3 w v l) (hl:l.length≤100000) (hk0:0≤k) (hk1:k≤1000):Calls prog 95 #[v,.int .i64 k] w (SelPost k l w):=by
 obtain⟨a,c,rfl⟩:=h.shape;have Hc:=hh_ (f1_ _ l w h (by omega));have hsl:=E0_ l;have HP:=hh_ (p:=∀e w',SelPost k l w e w'↔∃v1 v2,e=.returned (.tuple #[v1,v2])∧RdL lnF 3 w' v1 ((sortLn l).take (selN k l))∧RdL lnF 3 w' v2 ((sortLn l).drop (selN k l))∧CapOk v1∧From w.heap.size v1∧From w.heap.size v2∧w.grownBy w' none) (fun _ _=>Iff.rfl);obtain⟨kk,hkk⟩:∃kk,selN k l=kk:=⟨_,rfl⟩
 have hkd:kk≤l.length∧min k (l.length:Int) =(kk:Int):=by unfold selN at hkk;omega
 rw[hkk] at HP;clear hkk h
 have hmx:max k 0=k:=by omega
 obtain⟨hkl,hmn⟩:=hkd;rw[←hsl] at hkl hmn;have Hsl:=hh_ hsl;clear hsl;generalize sortLn l=S at *
 go_enter func95,ntmps95
 go_upto_region 2 with(go_at_call 127;refine Hc.out.mono ?_;rintro e w2 ⟨v2,rfl,o2,g2⟩;obtain⟨sa,sc,rfl⟩:=o2.shape)
 have hcap:=o2.cap
 have hk2 :(kk:Int)≤(S.length:Int):=by omega
 have hk3 :(0:Int)≤(kk:Int):=by omega
 have hk4 :(kk:Int)≤(sc:Int):=by omega
 have hk5 :(S.length:Int)≤(sc:Int):=by omega
 have H1:=hh_ fun w' (h:World.grownBy w2 w' none)=>(o2.rd.take Ay_ hkl sc).same h
 have H2:=hh_ fun w' (h:World.grownBy w2 w' none)=>(o2.rd.drop Ay_ hkl hcap (sc-kk)).same h
 have Hc1:=hh_ (show CapOk (.slice sa kk sc) from fun _ _ _ e=>by cases e;omega);have hff:=o2.from_;have Hf1:=hh_ (show From w.heap.size (.slice sa kk sc) from fun a n c e=>by cases e;exact hff _ _ _ rfl)
 have Hf2:=hh_ (show From w.heap.size (.slice (if sc=kk then sa else sa.map (·.add (kk*3))) (S.length-kk) (sc-kk)) from fun a n c e=>by
  split at e
  ·cases e;exact hff _ _ _ rfl
  ·rcases sa with _|sa
   ·cases e
   ·cases e;have:=hff sa _ _ rfl;simp only[Addr.add];split <;> exact this)
 clear Hc o2 hff;have hq1 :(kk:Int)≤(kk:Int):=Int.le_refl _
 rcases Decidable.em (sc=kk) with hq|hq
 ·subst hq
  have e0:S.length-sc=0:=by omega
  have e1:sc-sc=0:=by omega
  simp only[if_true,e0,e1] at H2 Hf2
  rcases sa with _|sa
  ·go_upto_region 3 with fail
   go_quiet (fail)
   go_wp2
   refine bodyPost_ret (v:=.tuple #[.slice none sc sc,.slice none 0 0]) (by simp[results,results95,go_sem]) rfl ?_;exact(HP.out _ _).2 ⟨_,_,rfl,H1.out _ gw_,H2.out _ gw_,Hc1.out,Hf1.out,Hf2.out,Aa_ g2 gw_⟩
  ·go_upto_region 3 with fail
   go_quiet (fail)
   go_wp2
   refine bodyPost_ret (v:=.tuple #[.slice (some sa) sc sc,.slice (some sa) 0 0]) (by simp[results,results95,go_sem]) rfl ?_;exact(HP.out _ _).2 ⟨_,_,rfl,H1.out _ gw_,H2.out _ gw_,Hc1.out,Hf1.out,Hf2.out,Aa_ g2 gw_⟩
 ·simp only[if_neg hq] at H2 Hf2
  go_upto_region 3 with fail
  go_quiet (fail)
  go_wp2
  refine bodyPost_ret (v:=.tuple #[.slice sa kk sc,.slice (sa.map (·.add (kk*3))) (S.length-kk) (sc-kk)]) (by simp[results,results95,go_sem]) rfl ?_;exact(HP.out _ _).2 ⟨_,_,rfl,H1.out _ gw_,H2.out _ gw_,Hc1.out,Hf1.out,Hf2.out,Aa_ g2 gw_⟩
theorem ef_ (v:Value) (l:List Ln) (un:Int) (w:World) (h:RdL lnF 3 w v l):Calls prog 99 #[v,.int .u64 un] w (RetWord (hiMax l un) w):=by
 obtain⟨a,c,rfl⟩:=h.shape;have hm:=h.2.1;have H:=hh_ h;have HM:=hh_ (show hiMax l un =(l.map (·.hi)).foldl max un from rfl);clear h;generalize hiMax l un=q at *
 go_enter func99,ntmps99
 go_wp2_with fail
 go_loopw [1,9] (fun s1 s9 wk=>∃k:Nat,k≤l.length∧s9=.int .i64 k∧s1=.int .u64 (((l.take k).map (·.hi)).foldl max un)∧w.grownBy wk none) (fun _ s9 _=>l.length-(RowKit.intOf s9).toNat)
 case atStart=>exact⟨0,zl_ _,rfl,rfl,Ab_ _ _⟩
 case round=>
  obtain⟨k,hk,rfl,rfl,hg⟩:=hrel
  by_cases hlt:k<l.length
  ·obtain⟨g,off,cap,hv,hgl,hc⟩:=(RdL.same H.out hg).at_ Ay_ hlt
   cases hv;have c0:=hc 0 _ rfl;have c1:=hc 1 _ rfl;have c2:=hc 2 _ rfl;rw[Nat.add_zero] at c0;clear hc;have HS:=hh_ (show((l.take (k+1)).map (·.hi)).foldl max un=max (((l.take k).map (·.hi)).foldl max un) l[k].hi by rw[tg_ hlt,List.map_append,List.foldl_append];rfl);generalize ((l.take k).map (·.hi)).foldl max un=M at *;generalize l[k]=x at *;have G2:=Ad_ hg (.cells #[.string x.key,.int .u64 x.lo,.int .u64 x.hi] 46);have A2:=(Blk.new wr #[.string x.key,.int .u64 x.lo,.int .u64 x.hi] 46).cell
   go_wp2_with fail
   exact⟨⟨k+1,by omega,by go_num,by rw[HS.out],G2⟩,by simp[RowKit.intOf];omega⟩
  ·have hle:l.take k=l:=tk_ (by omega)
   rw[hle,←HM.out]
   go_wp2_with fail
   go_ret
   exact Cl_ rfl hg
theorem Fg_ (l:List Summ) :(keysF l).Nodup:=(Ko_ _).1.imp fun h=>by intro e;rw[e] at h;exact List.lt_irrefl _ h
theorem L7_ (c:Cfg) (t:List Int) (l:List Summ) :(allF c t l).length =(keysF l).length:=by simp[allF]
def bLs (c:Cfg) (t:List Int) (l:List Summ):List Ln:=(sortLn (allF c t l)).take (selN c.Top (allF c t l))
def bOm (c:Cfg) (t:List Int) (l:List Summ):List Ln:=(sortLn (allF c t l)).drop (selN c.Top (allF c t l))
theorem N5_ (L:List Ln) (x:Ln) :(insL L x).Perm (L++[x]):=by
 unfold insL;generalize insK x L L.length=k
 have h1 :(L.take k++[x]++L.drop k).Perm (L.take k++(L.drop k++[x])):=by
  rw[List.append_assoc];exact List.Perm.append_left _ List.perm_append_comm
 rw[←List.append_assoc,List.take_append_drop] at h1;exact h1
theorem Fa_ (l:List Ln) :(sortLn l).Perm l:=by
 have:∀(l a:List Ln),(l.foldl insL a).Perm (a++l):=by
  intro l
  induction l with
  | nil=>intro a;simp
  | cons x l ih=>
   intro a;simp only[List.foldl_cons];refine(ih _).trans ?_
   have:=(N5_ a x).append_right l
   simpa using this
 simpa [sortLn] using this l []
theorem Dl_ {l:List Ln} {x:Ln} (h:x∈sortLn l):x∈l:=(Fa_ l).mem_iff.1 h
def bOver (c:Cfg) (t:List Int) (l:List Summ):Int:=subF (totalF l) (satL (loSum (bLs c t l)))
def bRest (c:Cfg) (t:List Int) (l:List Summ):Int:=hiMax (bOm c t l) (restF c l)
def Ix_ (c:Cfg) (t:List Int) (l:List Summ) (win:Int) (rej:List Int) (w:World) (e:Ending) (w':World):Prop:=
 ∃vl vr,e=.returned (repV win (totalF l) vl (bOver c t l) ((keysF l).length) (bRest c t l) vr)∧RdL lnF 3 w' vl (bLs c t l)∧RdL wordF 1 w' vr rej∧CapOk vl∧CapOk vr∧From w.heap.size vl∧From w.heap.size vr∧w.grownBy w' none
theorem Yq_ (L:List Ap_) (k:Ap_):lessN L k≤L.length:=List.Sublist.length_le (List.takeWhile_sublist _)
theorem Zt_ {L:List Ap_} {k:Ap_}:∀{i:Nat} (h:i<lessN L k) (h2:i<L.length),L[i]<k:=by
 induction L with
 | nil=>intro i h h2;simp at h2
 | cons a L ih=>
  intro i h h2
  by_cases ha:a<k
  ·cases i with
   | zero=>exact ha
   | succ i=>
    have:i<lessN L k:=by simp[lessN,ha] at h;simpa [lessN] using h
    simpa using ih this (by simpa using h2)
  ·simp[lessN,ha] at h
theorem Z7_ {L:List Ap_} {k:Ap_} (h:lessN L k<L.length):¬L[lessN L k]<k:=by
 induction L with
 | nil=>simp at h
 | cons a L ih=>
  by_cases ha:a<k
  ·have e:lessN (a::L) k=lessN L k+1:=by simp[lessN,ha]
   have:=ih (by rw[e] at h;simpa using h)
   simpa [e] using this
  ·have e:lessN (a::L) k=0:=by simp[lessN,ha]
   simpa [e] using ha
theorem it_ (b:Ap_) (k:ByteArray):Op.bytesLess b k.toList=decide (b<k.data.toList):=by
 rw[ByteArray.toList_eq,bytesLess_eq]
theorem is_ (b:Ap_) (k:ByteArray) :(b==k.toList)=decide (b=k.data.toList):=by
 rw[ByteArray.toList_eq,Bool.eq_iff_iff];simp
theorem Vo_ (v:Value) (l:List Summ) (w:World) (h:C4_ w v l) (hs :(keysL l).length≤100000):Calls prog 98 #[v] w (RetOwn strB 1 9 (keysF l) w):=by
 obtain⟨a,c,rfl⟩:=h.rd.shape;have hm:=h.rd.2.1;have H:=hh_ h;have Hs:=hh_ hs;clear h hs
 go_enter func98,ntmps98
 go_wp2_with fail
 go_loopw [3,11] (fun s3 s11 wk=>∃(k:Nat),k≤l.length∧s11=.int .i64 k∧Own strB 1 9 w.heap.size wk s3 ((keysL (l.take k)).foldl insF [])∧w.grownBy wk none) (fun _ s11 _=>l.length-(RowKit.intOf s11).toNat)
 case atStart=>exact⟨0,zl_ _,rfl,Own.nil _ _ _ _ _,Ab_ _ _⟩
 case round=>
  obtain⟨k,hk,rfl,hO,hg⟩:=hrel
  by_cases hlt:k<l.length
  ·obtain⟨g,off,cap,hv,hgl,c0,c1,c2,c3,hR,hW⟩:=(H.out.same hg).at_ hlt
   cases hv;have HS:=hh_ (B2_ hlt);have Hk:=hh_ (S1_ (l.take k) l[k]);have hbig:=hh_ (Lj_ l (k+1));obtain⟨a1,k1,e1⟩:=hR.es.shape;obtain⟨a2,k2,e2⟩:=hR.vs.shape;have Hes:=hh_ (H.out.all _ (mg_ hlt)).es;rw[e1] at c1 Hes;rw[e2] at c3;rw[HS.out] at hbig;clear hR hW e1 e2;generalize keysL (l.take k)=K at *;generalize l[k]=s at *;have hem:=Hes.out.2.1
   go_upto_region 6 with fail
   have O1:=hO.same (ga_ wr (.cells #[.int .u64 s.total,.slice a1 s.es.length k1,.int .u64 s.untr,.slice a2 s.vs.length k2] 129) none);have G1:=Ad_ hg (.cells #[.int .u64 s.total,.slice a1 s.es.length k1,.int .u64 s.untr,.slice a2 s.vs.length k2] 129);generalize wr.alloc _=w1 at *;clear hO hg c0 c1 c2 c3 hgl
   have hKb:K.length+s.es.length≤100000:=by
    have h1:=hbig.out;have h2:=Hs.out;rw[Hk.out,la_,List.length_map] at h1
    omega
   go_loopw [3,18] (fun s3 s18 wk=>∃(j:Nat),j≤s.es.length∧s18=.int .i64 j∧Own strB 1 9 w.heap.size wk s3 ((K++(s.es.take j).map entK).foldl insF [])∧w.grownBy wk none) (fun _ s18 _=>s.es.length-(RowKit.intOf s18).toNat)
   case atStart=>exact⟨0,zl_ _,rfl,by simpa using O1,G1⟩
   case round=>
    obtain⟨j,hj,rfl,hO,hg⟩:=hrel
    by_cases hjl:j<s.es.length
    ·obtain⟨ge,oe,ce,hve,hge,d0,d1,d2⟩:=RdL.ent (RdL.same Hes.out hg) hjl
     cases hve;have HT:=hh_ (B2_ hjl)
     have hbb :((K++(s.es.take j).map entK).foldl insF []).length≤100000:=by
      refine lt_ (H3_ _ []) ?_;rw[la_,List.length_map,lk_];simp;omega
     have HF:=hh_ (show(K++(s.es.take (j+1)).map entK).foldl insF []=insF ((K++(s.es.take j).map entK).foldl insF []) (entK s.es[j]) by rw[HT.out,List.map_append,←List.append_assoc,List.foldl_append];rfl);generalize (K++(s.es.take j).map entK).foldl insF []=KK at *;generalize s.es[j]=en at *;obtain⟨oa,oc,rfl⟩:=hO.shape
     go_upto_region 8 with fail
     have O2:=hO.same (ga_ wr (.cells #[.string en.key,.int .u64 en.own,.int .u64 en.slack] 224) none);have G2:=Ad_ hg (.cells #[.string en.key,.int .u64 en.own,.int .u64 en.slack] 224);have A2:=Blk.new wr #[.string en.key,.int .u64 en.own,.int .u64 en.slack] 224;generalize wr.alloc _=w2 at *;generalize wr.heap.size=gk at *;have HO:=hh_ hO;have HN1:=hh_ (Yq_ KK (entK en))
     have HN2:=hh_ fun i (h:i<lessN KK (entK en)) h2=>Zt_ (k:=entK en) h h2
     have HN3:=hh_ fun h=>Z7_ (L:=KK) (k:=entK en) h
     have HI:=hh_ (show insF KK (entK en)=if KK[lessN KK (entK en)]?=some (entK en) then KK else KK.take (lessN KK (entK en))++[entK en]++KK.drop (lessN KK (entK en)) from rfl);clear hO hg d0 d1 d2 hge;generalize lessN KK (entK en)=N at *;have hN:=HN1.out
     go_cut [8] (fun s8 wx=>s8=.int .i64 0∧w2=wx)
     case first=>
      go_wp2_with fail
      go_meet
      exact⟨rfl,rfl⟩
     obtain⟨rfl,rfl⟩:=hcut
     rename_i hK
     refine hK _ _ ?_
     apply wp_seq_k
     intro K1 hK1
     go_cut [8,22,23,24,25,26,27,28,29,30,31,32,33,34,35,36] (fun s8 _ _ _ _ _ _ _ _ _ _ _ _ _ _ _ wx=>s8=.int .i64 N∧w2.grownBy wx none)
     case first=>
      go_wp2_with fail
      go_loopw [8] (fun s8 wk=>∃m:Nat,m≤N∧s8=.int .i64 m∧w2.grownBy wk none) (fun s8 _=>N-(RowKit.intOf s8).toNat)
      case atStart=>exact⟨0,zl_ _,rfl,Ab_ _ _⟩
      case round=>
       obtain⟨m,hm,rfl,hgm⟩:=hrel;have am:=(A2.same hgm).cell
       by_cases hml:m<KK.length
       ·obtain⟨go,oo,co,hvo,hgo,cm⟩:=(O2.same hgm).rd.one K6_ hml
        cases hvo
        have hml2 :(m:Int)<(KK.length:Int):=by omega
        have hbl:=it_ KK[m] en.key
        by_cases hmN:m<N
        ·have hlt:=HN2.out m hmN hml
         rw[dt_ (show KK[m]<en.key.data.toList from hlt)] at hbl;generalize KK[m]=x at *;clear hlt
         go_wp2_with fail
         go_quiet (fail)
         go_wp2_with fail
         exact⟨⟨m+1,by omega,by go_num,Ae_ hgm _⟩,by simp[RowKit.intOf];omega⟩
        ·obtain rfl:m=N:=by omega
         have hlt:=HN3.out hml;rw[df_ (show ¬KK[m]<en.key.data.toList from hlt)] at hbl;generalize KK[m]=x at *;clear hlt
         go_wp2_with fail
         go_quiet (fail)
         go_wp2_with fail
         go_meet
         exact⟨rfl,Ae_ hgm _⟩
       ·obtain rfl:m=N:=by omega
        have hml2:decide ((m:Int)<(KK.length:Int))=false:=df_ (by omega)
        go_wp2_with fail
        go_quiet (fail)
        go_wp2_with fail
        go_meet
        exact⟨rfl,Ae_ hgm _⟩
     obtain⟨rfl,h3⟩:=hcut;refine hK1 _ _ ?_
     apply wp_seq_k
     intro K2 hK2;have O3:=O2.same h3;have A3:=A2.same h3;have a3:=A3.cell
     go_cut [37,38,39,40,41,42,43,44,45,46,47,48,49] (fun _ _ _ _ _ _ _ _ _ _ _ _ s49 wx=>s49=.bool (!decide (KK[N]?=some (entK en)))∧w2.grownBy wx none)
     case first=>
      by_cases hml:N<KK.length
      ·obtain⟨go,oo,co,hvo,hgo,cm⟩:=O3.rd.one K6_ hml
       cases hvo
       have hml2 :(N:Int)<(KK.length:Int):=by omega
       have hml3 :((N:Int)==(KK.length:Int))=false:=bf_ (by omega);have hbe:=is_ KK[N] en.key;have hgt:=hh_ (show decide (KK[N]?=some (entK en))=decide (KK[N]=en.key.data.toList) by rw[gq_ hml];simp[entK]);generalize KK[N]=x at *;cases hd:decide (x=en.key.data.toList)
       ·rw[hd] at hbe hgt
        clear hd
        go_wp2_with fail
        go_quiet (fail)
        go_wp2_with fail
        go_meet
        exact⟨by rw[hgt.out];rfl,Ae_ h3 _⟩
       ·rw[hd] at hbe hgt
        clear hd
        go_wp2_with fail
        go_quiet (fail)
        go_wp2_with fail
        go_meet
        exact⟨by rw[hgt.out];rfl,Ae_ h3 _⟩
      ·obtain rfl:N=KK.length:=by omega
       have hgt:=hh_ (show decide (KK[KK.length]?=some (entK en))=false by simp)
       go_wp2_with fail
       go_quiet (fail)
       go_wp2_with fail
       go_meet
       exact⟨by rw[hgt.out];rfl,Ae_ h3 _⟩
     obtain⟨rfl,h4⟩:=hcut;clear a3 A3 O3 hK hK1;refine hK2 _ _ ?_;have O4:=O2.same h4;have A4:=A2.same h4
     by_cases hins:KK[N]?=some (entK en)
     ·rw[dt_ hins]
      have hI:=HI.out;rw[if_pos hins] at hI;have HI2:=hh_ hI;clear hI hins
      go_wp2_with fail
      exact⟨⟨j+1,by omega,by go_num,by rw[HF.out,HI2.out];exact O4,Aa_ G2 h4⟩,by simp[RowKit.intOf];omega⟩
     ·rw[df_ hins]
      have hI:=HI.out;rw[if_neg hins] at hI;have HI2:=hh_ hI;clear hI hins;have O3:=O4;have A3:=A4;have G3:=Aa_ G2 h4;have hKl:=hN
      have hsl:KK.length≤1000000:=by omega
      have Hxk:=hh_ (show(#[Value.string en.key]:Array Value).toList=strB (entK en) by simp[strB,entK]);generalize entK en=x at *;obtain⟨S,rfl⟩:∃S,S=KK:=⟨_,rfl⟩;obtain⟨P,rfl⟩:∃P,P=N:=⟨_,rfl⟩;clear O4 A4
      go_upto_region 12 with fail
      have hcap:=O3.cap
      have hP0 :(0:Int)≤(P:Int):=by omega
      have hP1 :(P:Int)≤(S.length:Int):=by omega
      have hP2 :(P:Int)≤(oc:Int):=by omega
      have hP3 :(S.length:Int)≤(oc:Int):=by omega
      have hsz:=G3.size;refine wp_region_any (by kernel_rfl) ?_
      (refine tp_ 9 59 (.slice oa S.length oc) ?_);simp only[List.setIfInBounds_toArray,List.set_cons_zero,List.set_cons_succ]
      (refine tp_ 10 60 (.int .i64 P) ?_);simp only[List.setIfInBounds_toArray,List.set_cons_zero,List.set_cons_succ]
      (refine Tail.take_put 11 61 (.slice (if oc=P then oa else oa.map (·.add (P*1))) (S.length-P) (oc-P)) rfl rfl (by kernel_rfl) (by kernel_rfl) (by kernel_rfl) (fun _ _ _ h=>h) (Or.inl ⟨by rfl,fun w=>?_⟩) ?_;· go_simp);simp only[List.setIfInBounds_toArray,List.set_cons_zero,List.set_cons_succ]
      have RD:=hh_ fun w' (h:Own strB 1 9 w.heap.size w' (.slice oa S.length oc) S)=>h.rd.drop Km_ hKl hcap (oc-P)
      generalize (if oc=P then oa else oa.map (·.add (P*1)))=od at *
      (refine ra_ 8 #[false,false,false,false,false,false,false,false,false,true,true,true,false,false] ?_;simp only[List.take,List.drop,Rg.tailL];simp (decide:=true) only[if_true,if_false])
      have Gd:wc.grownBy wc.drew none:=gw_;have Kd:=Aa_ G3 Gd
      have hb1 :(S.take P).length=P:=by simp;omega
      have hb2 :(S.take P).length*16≤140737488355328:=by rw[hb1];omega
      have hb3 :(S.take P).length≤9223372036854775807:=by rw[hb1];omega
      have hb4 :((S.take P).length+1)*16≤140737488355328:=by rw[hb1];omega
      have hb5 :(S.take P).length+1≤9223372036854775807:=by rw[hb1];omega
      have hb6 :(S.take P++[x]).length=P+1:=by rw[la_,hb1];rfl
      have hb7 :(S.drop P).length=S.length-P:=by simp
      have hb8 :((S.take P++[x]).length+(S.drop P).length)*16≤140737488355328:=by rw[hb6,hb7];omega
      have hb9 :(S.take P++[x]).length+(S.drop P).length≤9223372036854775807:=by rw[hb6,hb7];omega
      have Hb1:=hh_ hb1.symm;have Hb7:=hh_ hb7.symm;clear hb1 hb6 hb7
      (refine to_ ?_;intro y0 my0 dy0)
      clear dy0;have zy0:w.heap.size≤y0.heap.size:=(Aa_ Kd my0).size
      go_wp2_with fail
      refine⟨ga_ _ _ _,?_⟩;have N0:=A0_ (e:=9) strB 1 zy0;have hg0:wc.heap.size≤y0.heap.size:=(Aa_ Gd my0).size;generalize y0.alloc _=e0 at *;generalize y0.heap.size=g0 at *
      (refine tq_ 3 ?_;(repeat(go_big_quiet_step (fail)));refine wn_ ?_)
      (refine to_ ?_;intro y4 my4 dy4)
      have N4:=N0.same (dy4.out 0 (by omega) (by kernel_rfl));have K4:=Aa_ Gd my4;have R4:=(O3.rd.take Km_ hKl oc).same K4;have z4:=(Aa_ Kd my4).size
      go_wp2_with (at_builtin;refine A5_ O6_ Ph_ N4 R4 Hb1.out hb2 hb3 z4 ?_;intro v4 e4 o4 g4 l4;have Hg4:=hh_ g4;clear g4)
      refine⟨Hg4.out,?_⟩;have hv4:=Lies.ge l4 (fun k hk=>lt_ hg0 (Rz_ _ _ _ k hk)) K4.size;clear R4 N0 N4 K4 z4 dy4 l4
      (refine tq_ 1 ?_;(repeat(go_big_quiet_step (fail)));refine wn_ ?_)
      (refine to_ ?_;intro y5 my5 dy5)
      clear dy5;have a5:=(A3.same (Aa_ Gd my5)).cell
      go_wp2_with fail
      refine⟨Ab_ _ _,?_⟩;clear a5
      (refine to_ ?_;intro y6 my6 dy6)
      clear dy6
      go_wp2_with fail
      refine⟨ga_ _ _ _,?_⟩;have N6:=Blk.new y6 #[.string en.key] 9;generalize y6.alloc _=e6 at *;generalize y6.heap.size=g6 at *
      (refine Rg.tree_nil ?_;intro z mz dz cz)
      have o5:=o4.same (dz.out 4 (by omega));have N7:=(N6.same (dz.out 7 (by omega))).one Km_ x Hxk.out;have Kz:=Aa_ Gd mz;have KK:=Aa_ Kd mz;have z7:=KK.size;have O7:=O3.same Kz
      have hlo:∀k,Value.ownBlock (.slice oa S.length oc)=some k→k<wc.heap.size:=fun k hk=>(O3.lt k hk).2
      have tok:=hh_ hP0;clear dz cz my0 my4 my5 my6 mz Hg4 Kz N6 o4 O3 A3 hg0 zy0 Gd Kd
      go_wp2_with (first
       |(at_builtin;have _t:=tok;refine app O6_ Ph_ o5 N7 rfl hb4 hb5 z7 ?_;intro v7 w7 o7 g7 l7;clear tok;have K7:=Aq_ KK o5 (le_ _) g7;have R8:=RD.out _ (O7.kept g7 (fun k hk e=>by have:=hlo k hk;have:=hv4 k e;omega));have z8:=K7.size)
       |(at_builtin;refine app O6_ Ph_ o7 R8 Hb7.out hb8 hb9 z8 ?_;intro v8 w8 o8 g8 l8;have K8:=Aq_ K7 o7 (le_ _) g8))
      exact⟨⟨j+1,by omega,by go_num,by rw[HF.out,HI2.out];exact o8,K8⟩,by simp[RowKit.intOf];omega⟩
    ·have hje:s.es.take j=s.es:=tk_ (by omega)
     rw[hje] at hO
     go_wp2_with fail
     exact⟨⟨k+1,by omega,by go_num,by rw[HS.out,Hk.out];exact hO,hg⟩,by simp[RowKit.intOf];omega⟩
  ·have hke:l.take k=l:=tk_ (by omega)
   rw[hke,Ze_] at hO
   go_wp2_with fail
   go_ret
   exact⟨_,rfl,hO,hg⟩
end
section
open Go.RowKit
attribute [local go_sem ↓] Ag_
attribute [local go_sem] Ah_
theorem Sb_ (c:Cfg) (t:List Int) (l:List Summ) (k:ByteArray) (O:List Int) {j:Nat} (hj:j<O.length) :
  foldB c t l k ((O.take (j+1)).filter (fun i:Int=>decide (i<(l.length:Int))))=if decide (O[j]<(l.length:Int)) then addP (foldB c t l k ((O.take j).filter (fun i:Int=>decide (i<(l.length:Int))))) (bP c t l k O[j]) else foldB c t l k ((O.take j).filter (fun i:Int=>decide (i<(l.length:Int)))):=by
 rw[B2_ hj,List.filter_append]
 by_cases h:decide (O[j]<(l.length:Int))=true
 ·rw[if_pos h,List.filter_cons_of_pos (p:=fun i:Int=>decide (i<(l.length:Int))) h,List.filter_nil,R7_]
 ·rw[if_neg h,List.filter_cons_of_neg (p:=fun i:Int=>decide (i<(l.length:Int))) h,List.filter_nil,List.append_nil]
theorem Tj_ {w0 w2:World} {bc g o:Nat} {c:Cfg} {ve vr:Value} {tot un:Int} (hlt:bc<w0.heap.size∧g<w0.heap.size) (hB:BoxAt w0 bc c)
  (h:w0.cell? ⟨g,o,none⟩=some (.int .u64 tot)∧w0.cell? ⟨g,o+1,none⟩=some ve∧w0.cell? ⟨g,o+2,none⟩=some (.int .u64 un)∧w0.cell? ⟨g,o+3,none⟩=some vr) (h0:w0.grownBy w2 none) :
  isCfg w2 bc=true∧readCfg w2 bc=c.val∧w2.cell? ⟨g,o,none⟩=some (.int .u64 tot)∧w2.cell? ⟨g,o+1,none⟩=some ve∧w2.cell? ⟨g,o+2,none⟩=some (.int .u64 un)∧w2.cell? ⟨g,o+3,none⟩=some vr:=by
 obtain⟨h3,h4,h5,h6⟩:=h;obtain⟨l3,l4⟩:=hlt;have hB2:=hB.same h0;have hc:=(Am_ h0).1;exact⟨hB2.is,hB2.reads,(hc g _ l4 (by simp)).trans h3,(hc g _ l4 (by simp)).trans h4,(hc g _ l4 (by simp)).trans h5,(hc g _ l4 (by simp)).trans h6⟩
theorem fr_ (c:Cfg) (t:List Int) (lv:Value) (l:List Summ) (k:ByteArray) (w:World) (h:RCfg w c t) (hl:C4_ w lv l) (ho:F4_ l) (hk:k.size≤9223372036854775807) :
  Calls prog 128 #[c.val,lv,.string k] w (Cq_ (hq_ k (lineF c t l k).1 (lineF c t l k).2) w):=by
 obtain⟨la,lc,rfl⟩:=hl.rd.shape;have H:=hh_ h;have HL:=hh_ hl;obtain⟨s1,s2⟩:=h.shards;have hsp:=h.spread;have hlm:=hl.rd.2.1;clear h hl
 go_enter func128,ntmps128
 go_upto_region 1 with(refine At_ rfl _ rfl c rfl ?_;intro w1 B1 G1 z1)
 have kr:Blk (w1.alloc (.cells #[.string ⟨#[]⟩,.int .u64 0,.int .u64 0] 46)) w1.heap.size #[.string ⟨#[]⟩,.int .u64 0,.int .u64 0]:=bk_;have kc:BoxAt (w1.alloc (.cells #[.string ⟨#[]⟩,.int .u64 0,.int .u64 0] 46)) w.heap.size c:=B1.same (ga_ _ _ _);have K4:w.grownBy (w1.alloc (.cells #[.string ⟨#[]⟩,.int .u64 0,.int .u64 0] 46)) none:=Aa_ G1 (ga_ _ _ _);clear G1 B1;generalize w1.alloc _=w4 at *;generalize w1.heap.size=b at *;have kb0:Blk (w4.alloc (.cells #[.int .u64 0,.int .u64 0] 84)) w4.heap.size #[.int .u64 0,.int .u64 0]:=Blk.new _ _ _;have kc5:=kc.same (ga_ w4 (.cells #[.int .u64 0,.int .u64 0] 84) none);have K5:w4.grownBy (w4.alloc (.cells #[.int .u64 0,.int .u64 0] 84)) none:=ga_ _ _ _
 have z5:w4.heap.size<(w4.alloc (.cells #[.int .u64 0,.int .u64 0] 84)).heap.size:=by simp
 go_upto_region 2 with fail
 generalize hbs:w4.heap.size=bs at *;generalize w4.alloc _=w5 at *
 go_upto_region 3 with(first |(refine An_ rfl _ rfl _ rfl c (by assumption) ?_) |(go_at_call 121;refine(b6_ c t k _ (H.out.same (Aa_ K4 K5)) hk).mono ?_;rintro e w6 ⟨ov,rfl,hov,G6⟩;obtain⟨oa,oc,rfl⟩:=hov.shape))
 have kb:=kb0.same G6;have K6:=Aa_ K5 G6
 have hbase:∀g,Value.ownBlock (.slice oa (setF c t k).length oc)=some g→g≠bs:=fun g hg e=>by have:=(hov.lt g hg).1;omega
 have hin:=Ei_ (h:=Xf_ c t k) (n:=c.Spread.toNat) s1
 have hlen :(setF c t k).length≤8:=by rw[setF,Fu_];omega
 have Hfin:=hh_ (p:=foldB c t l k ((setF c t k).filter (fun i:Int=>decide (i<(l.length:Int))))=lineF c t l k) rfl;have Hin:Hid (∀x∈setF c t k,0≤x∧x<c.Shards):=hh_ hin;obtain⟨O,hO⟩:∃O,O=setF c t k:=⟨_,rfl⟩;rw[←hO] at hov hlen Hin Hfin hbase ⊢;have HO:Hid (Own intF 1 3 w5.heap.size w6 (.slice oa O.length oc) O):=hh_ hov;have Hbs:=hh_ hbs
 have hbs1:w4.heap.size≤bs:=by omega
 clear hO hov hin G6 kb0 kc5 K5 hbs
 go_loopw [9,16] (fun s9 s16 wr=>∃j:Nat,j≤O.length∧s16=.int .i64 j∧Blk wr bs #[.int .u64 (foldB c t l k ((O.take j).filter (fun i:Int=>decide (i<(l.length:Int))))).1,.int .u64 (foldB c t l k ((O.take j).filter (fun i:Int=>decide (i<(l.length:Int))))).2]∧w6.grownBy wr (some bs)∧w4.grownBy wr none) (fun _ s16 _=>O.length-(RowKit.intOf s16).toNat)
 case atStart=>exact⟨0,zl_ _,rfl,kb,Ab_ _ _,K6⟩
 case round=>
  clear kb K6;obtain⟨j,hj,rfl,kb,h6,h4⟩:=hrel
  by_cases hlt:j<O.length
  ·obtain⟨g,off,cap,hv,hgl,c0⟩:=((HO.out.kept h6 (fun g hg e=>hbase g hg (by injection e with e;exact e.symm))).rd).one O4_ hlt
   cases hv;have hF:=Sb_ c t l k O hlt;obtain⟨hx0,hx1⟩:=Hin.out _ (mg_ hlt);obtain⟨hwa,hwb⟩:=Vl_ (c:=c) (t:=t) ho k ((O.take j).filter (fun i:Int=>decide (i<(l.length:Int))));generalize foldB c t l k ((O.take j).filter (fun i:Int=>decide (i<(l.length:Int))))=f at *;generalize O[j]=x at *
   by_cases hxl:x<(l.length:Int)
   ·rw[dt_ hxl,if_pos rfl] at hF
    obtain⟨n,rfl⟩:=Int.eq_ofNat_of_zero_le hx0
    have hn:n<l.length:=by omega
    have HF:=hh_ hF;obtain⟨hb1,hb2⟩:=bP_w (c:=c) (t:=t) ho k (n:Int)
    have hbP:bP c t l k (n:Int) =(min (bndE l[n].es l[n].untr k).1 (sEstF c t l[n] k),min (bndE l[n].es l[n].untr k).2 (sEstF c t l[n] k)):=by
     unfold bP;rw[Int.toNat_natCast,gq_ hn]
    have hm:=mg_ hn
    have hcon:=hh_ fun w' hg=>V9_ c t l[n] k w' (H.out.same hg) (((HL.out).all _ hm).same hg) (HL.out.wf _ hm) (ho.rows _ hm) (ho.len _ hm) hk
    have HV:=hh_ (p:=P3_ c t l[n] k=.tuple #[bndV (bP c t l k (n:Int)).1 (bP c t l k (n:Int)).2,.bool (Jl_ l[n].es k)]) (by rw[hbP];rfl);have K2:=Aa_ K4 h4;have E2:=HL.out.same K2;have hKC:=kc.same h4;generalize hbx:bP c t l k (n:Int)=bx at *;clear hbP hF hbx
    go_upto_region 6 with fail
    obtain⟨gl,offl,capl,hvl,hgll,d0,d1,d2,d3,_,_⟩:=E2.at_ hn;cases hvl
    have hn0 :(0:Int)≤(n:Int):=by omega
    have hn1 :(n:Int)<(l.length:Int):=by omega
    have HL2:=hh_ (p:=w.heap.size<wr.heap.size∧gl<wr.heap.size) ⟨hKC.lt,hgll⟩
    have HS2:=hh_ fun wx=>Tj_ (w2:=wx) HL2.out hKC ⟨d0,d1,d2,d3⟩
    have hz3:=kb.lt;clear c0 d0 d1 d2 d3 E2
    go_cut [10,11] (fun s10 s11 wx=>∃g9,s10=.pointer (some ⟨g9,0,none⟩)∧Blk wx g9 #[.int .u64 bx.1,.int .u64 bx.2]∧Blk wx bs #[.int .u64 f.1,.int .u64 f.2]∧wr.grownBy wx none)
    case first=>
     go_region_held3 (fun w'=>isCfg w' w.heap.size=true∧readCfg w' w.heap.size=c.val∧w'.cell? ⟨gl,offl+n*4,none⟩=some (.int .u64 l[n].total)∧w'.cell? ⟨gl,offl+n*4+1,none⟩=some l[n].ve∧w'.cell? ⟨gl,offl+n*4+2,none⟩=some (.int .u64 l[n].untr)∧w'.cell? ⟨gl,offl+n*4+3,none⟩=some l[n].vr)
      (first|exact HS2.out _ gw_)
      (first |(go_at_call 167;refine(hcon.out _ (Aa_ K2 gw_)).mono ?_;rw[HV.out];rintro e w3 ⟨rfl,G3⟩;(try(have hz:Blk w3 wr.heap.size #[.int .u64 0,.int .u64 0]:=Blk.same (Blk.drew1 (Blk.new wr _ _)) G3;have hzc:=hz.cell;have hzf:=hz.free));replace G3:wr.grownBy w3 none:=Aa_ gw_ G3;have BI3:=kb.same G3;have z3:=G3.size))
     ·go_wp2_with fail
      go_meet
      exact⟨_,rfl,Blk.new _ _ _,BI3.same (ga_ _ _ _),Ad_ G3 _⟩
     ·go_wp2_with fail
      go_meet
      exact⟨_,rfl,(hz.set_ 0 _ rfl).set_ 1 _ rfl,(BI3.off (by omega) _ _).off (by omega) _ _,Ai_ (Ai_ G3 (le_ _) _) (le_ _) _⟩
    case rest=>
     obtain⟨g9,rfl,BB,BI4,G4⟩:=hcut;have bb:=BB.cell;have bi:=BI4.cell;clear HS2 hKC HL2 BB kb
     go_wp2_with (go_at_call 168;refine(gg_ f.1 f.2 bx.1 bx.2 _ hwa hwb hb1 hb2).mono ?_;rintro e w7 ⟨rfl,G7⟩;have kb7:=BI4.same G7;have kbc7:=kb7.cell;have kbf7:=kb7.free)
     have G8:=Aa_ G4 G7;exact⟨⟨j+1,by omega,by go_num,by rw[HF.out];exact(kb7.set_ 0 _ rfl).set_ 1 _ rfl,Ac_ (Ac_ (Aa_ h6 (Ak_ G8 _)) 0 _) 1 _,Ai_ (Ai_ (Aa_ h4 G8) hbs1 _) hbs1 _⟩,by simp[RowKit.intOf];omega⟩
   ·rw[df_ hxl,if_neg (by decide)] at hF
    have HF:=hh_ hF;have hd:decide (x<(l.length:Int))=false:=df_ hxl;clear hF
    go_wp2_with fail
    exact⟨⟨j+1,by omega,by go_num,by rw[HF.out];exact kb,h6,h4⟩,by simp[RowKit.intOf];omega⟩
  ·have hl:foldB c t l k ((O.take j).filter (fun i:Int=>decide (i<(l.length:Int))))=lineF c t l k:=by rw[tk_ (by omega)];exact Hfin.out
   rw[hl] at kb;clear hl Hfin;generalize lineF c t l k=f at *;have kbc:=kb.cell;have krc:=(kr.same h4).cell;have krf:=(kr.same h4).free
   have hzz:b≠bs:=by have:=kr.lt;omega
   go_wp2_with fail
   have BZ:=(((kr.same h4).set_ 0 (.string k) rfl).set_ 1 (.int .u64 f.1) rfl).set_ 2 (.int .u64 f.2) rfl;have bz:=BZ.cell;refine bodyPost_ret (v:=hq_ k f.1 f.2) (by simp[results,results128,go_sem,bz]) rfl ?_;exact Bx_ rfl (Ai_ (Ai_ (Ai_ (Aa_ K4 h4) (by simp;omega) _) (by simp;omega) _) (by simp;omega) _)
end
section
open Go.RowKit Go.Sort
attribute [local go_sem ↓] Ag_
attribute [local go_sem] Ah_
theorem hv_ (c:Cfg) (t:List Int) (lv:Value) (l:List Summ) (w:World) (h:RCfg w c t) (hl:C4_ w lv l) (ho:F4_ l) (hs :(keysL l).length≤100000) (hk:∀s∈l,∀e∈s.es,e.key.size≤9223372036854775807) :
  Calls prog 96 #[c.val,lv] w (RetOwn lnF 3 46 (allF c t l) w):=by
 obtain⟨la,lc,rfl⟩:=hl.rd.shape
 have Hc1:=hh_ fun w' (h:w.grownBy w' none)=>Vo_ _ l w' (hl.same h) hs
 have Hc2:=hh_ fun(b:Ap_) (hb:b∈keysF l) w' (g:w.grownBy w' none)=>fr_ c t _ l (bA b) w' (h.same g) (hl.same g) ho (by
  obtain⟨s,h1,e,h2,rfl⟩:=I3_ hb
  have:=hk s h1 e h2
  show(entK e).toArray.size≤_
  simpa [entK] using this)
 have HKl:=hh_ (Fx_ l);have HA:=hh_ (show allF c t l =(keysF l).map (lnOf c t l) from rfl)
 have hln:∀b,lnOf c t l b =⟨bA b,(lineF c t l (bA b)).1,(lineF c t l (bA b)).2⟩:=fun _=>rfl
 have Hln:=hh_ hln;have Hs:=hh_ hs;clear h hl ho hs hk hln;generalize allF c t l=AL at *;generalize keysF l=K at *
 go_enter func96,ntmps96
 go_upto_region 2 with(refine At_ rfl _ rfl c rfl ?_;intro w1 B1 G1 z1)
 go_wp2_with (go_at_call 98;refine(Hc1.out _ G1).mono ?_;rintro e w2 ⟨v2,rfl,o2,g2⟩;have R2:=o2.rd;obtain⟨ka,kc,rfl⟩:=R2.shape)
 have B2:=B1.same g2;have K2:=Aa_ G1 g2;have hkm:=R2.2.1;clear o2 B1 Hc1
 go_loopw [5,11] (fun s7 s13 wk=>∃(j:Nat),j≤K.length∧s13=.int .i64 j∧Own lnF 3 46 w2.heap.size wk s7 ((K.take j).map (lnOf c t l))∧w2.grownBy wk none) (fun _ s13 _=>K.length-(RowKit.intOf s13).toNat)
 case atStart=>exact⟨0,zl_ _,rfl,Own.nil _ _ _ _ _,Ab_ _ _⟩
 case round=>
  obtain⟨j,hj,rfl,hO,hg⟩:=hrel;have B3:=B2.same hg
  by_cases hjl:j<K.length
  ·obtain⟨gk,ok,ck,hvk,hgk,ck0⟩:=(R2.same hg).one K6_ hjl
   cases hvk;have HT:=hh_ (show(K.take (j+1)).map (lnOf c t l) =(K.take j).map (lnOf c t l)++[lnOf c t l K[j]] by rw[B2_ hjl,List.map_append];rfl);have hcl:=hh_ (Hc2.out _ (mg_ hjl));have hlb:=hh_ (Hln.out K[j])
   have hb1 :(((K.take j).map (lnOf c t l)).length+1)*32≤140737488355328:=by have:=HKl.out;have:=Hs.out;rw[List.length_map,lk_];omega
   have hb2 :((K.take j).map (lnOf c t l)).length+1≤9223372036854775807:=by omega
   generalize (K.take j).map (lnOf c t l)=M at *;have hbA :(⟨K[j].toArray⟩:ByteArray)=bA K[j]:=rfl;rw[hbA] at ck0;generalize lnOf c t l K[j]=x at *;generalize bA K[j]=kk at *;generalize (lineF c t l kk).1=lo at *;generalize (lineF c t l kk).2=hi at *;have hx:=hlb.out;subst hx;clear hlb hbA
   go_upto_region 6 with(first |(refine An_ rfl _ rfl _ rfl c (by assumption) ?_) |(go_at_call 128;refine(hcl.out _ (Aa_ K2 hg)).mono ?_;rintro e w4 ⟨rfl,g4⟩;have O4:=hO.same g4;have G4:=Aa_ hg g4;have hsz:=G4.size;have Hcs:=hh_ (show(#[Value.string kk,.int .u64 lo,.int .u64 hi]:Array Value).toList=lnF ⟨kk,lo,hi⟩ from rfl)) |(at_builtin;refine A9_ J0_ Ki_ Ay_ O4 ⟨kk,lo,hi⟩ hb1 hb2 hsz Hcs.out ?_;intro v5 w5 o5 g5 l5))
   have K5:=Aq_ G4 O4 (le_ _) g5
   go_wp2_with fail
   exact⟨⟨j+1,by omega,by go_num,by rw[HT.out];exact o5,K5⟩,by simp[RowKit.intOf];omega⟩
  ·have hke:K.take j=K:=tk_ (by omega)
   rw[hke] at hO
   go_wp2_with fail
   go_ret
   refine⟨_,rfl,?_,Aa_ K2 hg⟩;rw[HA.out]
   exact hO.base fun k hk=>lt_ K2.size (hO.lt k hk).1
end
section
open Go.RowKit
attribute [local go_sem ↓] Ag_
attribute [local go_sem] Ah_
theorem U9_ {d n t:Int} {rows:List (List Int)} {m:Nat} (e:m=rows.length) (h:¬0<m):Da_ d n t rows=if Nn_ n rows then 3 else if Jy_ t rows then 1 else 0:=by
 have h0:rows=[]:=List.length_eq_zero_iff.1 (by omega);subst h0
 rfl
theorem Io_ {own slack tot:Int} (h :(own==0)=true∨(!Hr_ own slack tot)=true):own=0∨tot<own+slack:=by
 unfold Hr_ at h;simp at h;omega
theorem Q0_ {own slack tot:Int} (h :(own==0)=false∧(!Hr_ own slack tot)=false):own≠0∧own+slack≤tot:=by
 unfold Hr_ at h;simp at h;omega
theorem R4_ (c:Cfg) (s:Summ) (w:World) (hR:SumRd w s) (hW:SumW s) (hS:SumSmall s) :
  Calls prog 169 #[c.val,sumV s.total s.ve s.untr s.vr] w (RetInt (sumErr c.Depth c.Width s) w):=by
 have HR:=hh_ hR;have HW:=hh_ hW;have HS:=hh_ hS;obtain⟨a1,k1,e1⟩:=hR.es.shape;obtain⟨a2,k2,e2⟩:=hR.vs.shape;have hm:=hR.es.2.1;have h1:9223372036854775808<s.total∨s.total<s.untr→sumErr c.Depth c.Width s=1:=ig_;have h7:¬(9223372036854775808<s.total∨s.total<s.untr)→(96:Int)<s.es.length→sumErr c.Depth c.Width s=7:=ia_
 have ho:¬(9223372036854775808<s.total∨s.total<s.untr)→(s.es.length:Int)≤96→sumErr c.Depth c.Width s=if Dd_ s.total s.es≠0 then Dd_ s.total s.es else if s.total<ownE s.es then 12 else Da_ c.Depth c.Width s.total s.rows:=ge_
 have HRow:=hh_ hR.rowsRd;have Hvl:=hh_ hR.len
 have hv2:s.vs.length≤1000:=by rw[hR.len];exact hS.rows
 have hwt:=hW.total;have Hsl:=hh_ hS.row;have Hkey:=hh_ hS.key;have Hes:=hh_ hR.es;have Hew:=hh_ hW.es;rw[e1] at Hes ⊢;rw[e2] at HRow ⊢;have H1:=hh_ h1;have H7:=hh_ h7;have HO:=hh_ ho;clear hR hW hS h1 h7 ho e1 e2 HR HW HS;generalize sumErr c.Depth c.Width s=SE at *;obtain⟨tot,ve,un,vr,es,vs,rows⟩:=s
 simp only at *
 go_enter func169,ntmps169
 go_upto_region 1 with(refine At_ rfl _ rfl c rfl ?_;intro w1 B1 G1 z1)
 have B2:Blk (w1.alloc (.cells #[.int .u64 tot,.slice a1 es.length k1,.int .u64 un,.slice a2 vs.length k2] 129)) w1.heap.size #[.int .u64 tot,.slice a1 es.length k1,.int .u64 un,.slice a2 vs.length k2]:=bk_;have hg:w.grownBy (w1.alloc (.cells #[.int .u64 tot,.slice a1 es.length k1,.int .u64 un,.slice a2 vs.length k2] 129)) none:=Ad_ G1 _;have BC:BoxAt (w1.alloc (.cells #[.int .u64 tot,.slice a1 es.length k1,.int .u64 un,.slice a2 vs.length k2] 129)) w.heap.size c:=B1.same (ga_ _ _ _);generalize w1.alloc _=w2 at *;clear G1 B1;have b2:=B2.cell;generalize hbb:w1.heap.size=b at *;generalize hcc:w.heap.size=cb at *
 go_wp2_with fail
 rotate_right
 ·go_ret
  exact Aj_ (H1.out (Or.inl (by assumption))) hg
 ·go_ret
  exact Aj_ (H1.out (by assumption)) hg
 ·go_ret
  exact Aj_ (H7.out (by omega) (by assumption)) hg
 have ht:tot≤9223372036854775808:=by assumption
 have HE:=hh_ (HO.out (by omega) (by assumption))
 have hl96 :(es.length:Int)≤96:=by assumption
 clear H1 H7 HO
 go_loopw [5,31] (fun s5 s31 wr=>∃(j:Nat),j≤es.length∧s31=.int .i64 j∧s5=.int .u64 (ownE (es.take j))∧W64 (ownE (es.take j))∧(∀i,i<j→errAt tot es i=0)∧w2.grownBy wr none) (fun _ s31 _=>es.length-(RowKit.intOf s31).toNat)
 case atStart=>exact⟨0,zl_ _,rfl,rfl,D3_,by omega,Ab_ _ _⟩
 case round=>
  obtain⟨j,hj,rfl,rfl,hT,hall,hgr⟩:=hrel;have Hall:=hh_ hall;clear hall;have hgg:=Aa_ hg hgr;have BCr:=BC.same hgr;have B2r:=B2.same hgr;have b3:=B2r.cell
  have b4:=fun o=>(B2r.same (ga_ wr o none)).cell
  by_cases hlt:j<es.length
  ·obtain⟨g,off,cap,hv,hgl,c0,c1,c2⟩:=(Hes.out.same hgg).ent hlt
   cases hv;have HS:=hh_ (B2_ hlt);have Hs:=hh_ (Wm_ (es.take j) es[j]);obtain⟨hw1,hw2⟩:=Hew.out _ (mg_ hlt);have hks:=Hkey.out _ (mg_ hlt)
   have HX:Hid (∀k,entErr tot (prevK es j) es[j]=k→k≠0→SE=k):=hh_ fun k h hk=>by
    have he:errAt tot es j=k:=by unfold errAt;rw[gq_ hlt];exact h
    rw[HE.out,em_ (tot:=tot) hlt Hall.out (by rw[he];exact hk),he,if_pos hk]
   have Hno:Hid (entErr tot (prevK es j) es[j]=0→∀i,i<j+1→errAt tot es i=0):=hh_ fun h i hi=>by
    by_cases e:i=j
    ·subst e;unfold errAt;rw[gq_ hlt];exact h
    ·exact Hall.out i (by omega)
   generalize ownE (es.take j)=T at *;generalize es[j]=en at *
   go_wp2_with fail
   ·go_ret
    exact Aj_ (HX.out 3 (Uw_ (by assumption)) (by decide)) (Aa_ hgg (ga_ _ _ _))
   ·go_ret
    exact Aj_ (HX.out 4 (ah_ (by assumption) (by assumption)) (by decide)) (Aa_ hgg (ga_ _ _ _))
   have he:en.key.toList.isEmpty=false:=by assumption
   have hl :(en.key.size:Int)≤255:=by assumption
   have HEm:=hh_ he;have HLn:=hh_ hl;clear he hl
   by_cases h0:0<j
   ·obtain⟨m,rfl⟩:∃m,j=m+1:=⟨j-1,by omega⟩
    obtain⟨g',off',cap',hv',hgl',p0,p1,p2⟩:=(Hes.out.same hgg).ent (k:=m) (by omega);cases hv'
    have hpk:prevK es (m+1)=some es[m].key:=by simp[prevK,gq_ (show m<es.length by omega)]
    rw[hpk] at HX Hno;have hd:decide ((0:Int)<((m+1:Nat):Int))=true:=dt_ (by omega)
    have hx :((m+1:Nat):Int)-1 =(m:Int):=by omega
    have hm1 :(0:Int)≤(m:Int):=by omega
    have hm2 :(m:Int)<(es.length:Int):=by omega
    have pp:=fun o=>((Am_ (ga_ wr o none)).1 g (off+m*3) hgl (by simp)).trans p0
    clear hpk p1 p2;generalize es[m].key=pk at *
    go_quiet (fail)
    have Hb:=hh_ (p:=(Op.bytesLess en.key.toList pk.toList||en.key.toList==pk.toList) =((some pk).map (leB en.key)).getD false) rfl;generalize (Op.bytesLess en.key.toList pk.toList||en.key.toList==pk.toList)=bx at *;clear pp;have BE:Blk ((wr.alloc (.cells #[.string en.key,.int .u64 en.own,.int .u64 en.slack] 224)).drewN nq) wr.heap.size #[.string en.key,.int .u64 en.own,.int .u64 en.slack]:=bk_;have BS:Blk ((wr.alloc (.cells #[.string en.key,.int .u64 en.own,.int .u64 en.slack] 224)).drewN nq) b #[.int .u64 tot,.slice (some ⟨g,off,none⟩) es.length k1,.int .u64 un,.slice a2 vs.length k2]:=Blk.drew (B2r.same (ga_ _ _ _)) _;have Kq:wr.grownBy ((wr.alloc (.cells #[.string en.key,.int .u64 en.own,.int .u64 en.slack] 224)).drewN nq) none:=gw_;generalize (wr.alloc (.cells #[.string en.key,.int .u64 en.own,.int .u64 en.slack] 224)).drewN nq=wq at *;have be:=BE.cell;have bs:=BS.cell;clear b4 BS;cases bx
    ·have HP:=hh_ (p:=((some pk).map (leB en.key)).getD false=false) Hb.out.symm
     have hW2:=Cr_ hT hw1
     go_wp2_with (first |(go_at_call 185;refine(Rk_ en.own en.slack tot _ hw1 hw2 hwt).mono ?_;rintro e w5 ⟨rfl,G5⟩;have be5:=(BE.same G5).cell) |(go_at_call 68;refine(Ft_ T en.own _ hT hw1).mono ?_;rintro e w' ⟨rfl,rfl⟩))
     ·go_ret
      exact Aj_ (HX.out 1 (F2_ HEm.out HLn.out HP.out (Or.inl (by assumption))) (by decide)) (Aa_ hgg Kq)
     ·go_ret
      exact Aj_ (HX.out 1 (F2_ HEm.out HLn.out HP.out (Io_ (by assumption))) (by decide)) (Aa_ (Aa_ hgg Kq) G5)
     ·obtain⟨q1,q2⟩:=Q0_ (own:=en.own) (slack:=en.slack) (tot:=tot) (by assumption)
      have hN:=Hno.out (cs_ HEm.out HLn.out HP.out q1 q2);exact⟨⟨(m+1)+1,by omega,by go_num,by rw[HS.out,Hs.out],by rw[HS.out,Hs.out];exact hW2,hN,Aa_ hgr (Aa_ Kq G5)⟩,by simp[RowKit.intOf];omega⟩
    ·have HP:=hh_ (p:=((some pk).map (leB en.key)).getD false=true) Hb.out.symm
     go_wp2_with fail
     go_ret
     exact Aj_ (HX.out 6 (V7_ HEm.out HLn.out HP.out) (by decide)) (Aa_ hgg Kq)
   ·have hj0:j=0:=by omega
    subst hj0
    go_quiet (fail)
    have BE:Blk ((wr.alloc (.cells #[.string en.key,.int .u64 en.own,.int .u64 en.slack] 224)).drewN nq) wr.heap.size #[.string en.key,.int .u64 en.own,.int .u64 en.slack]:=bk_;have BS:Blk ((wr.alloc (.cells #[.string en.key,.int .u64 en.own,.int .u64 en.slack] 224)).drewN nq) b #[.int .u64 tot,.slice (some ⟨g,off,none⟩) es.length k1,.int .u64 un,.slice a2 vs.length k2]:=Blk.drew (B2r.same (ga_ _ _ _)) _;have Kq:wr.grownBy ((wr.alloc (.cells #[.string en.key,.int .u64 en.own,.int .u64 en.slack] 224)).drewN nq) none:=gw_;generalize (wr.alloc (.cells #[.string en.key,.int .u64 en.own,.int .u64 en.slack] 224)).drewN nq=wq at *;have be:=BE.cell;have bs:=BS.cell;clear b4 BS;have HP:=hh_ (p:=((prevK es 0).map (leB en.key)).getD false=false) rfl;have hW2:=Cr_ hT hw1
    go_wp2_with (first |(go_at_call 185;refine(Rk_ en.own en.slack tot _ hw1 hw2 hwt).mono ?_;rintro e w5 ⟨rfl,G5⟩;have be5:=(BE.same G5).cell) |(go_at_call 68;refine(Ft_ T en.own _ hT hw1).mono ?_;rintro e w' ⟨rfl,rfl⟩))
    ·go_ret
     exact Aj_ (HX.out 1 (F2_ HEm.out HLn.out HP.out (Or.inl (by assumption))) (by decide)) (Aa_ hgg Kq)
    ·go_ret
     exact Aj_ (HX.out 1 (F2_ HEm.out HLn.out HP.out (Io_ (by assumption))) (by decide)) (Aa_ (Aa_ hgg Kq) G5)
    ·obtain⟨q1,q2⟩:=Q0_ (own:=en.own) (slack:=en.slack) (tot:=tot) (by assumption)
     have hN:=Hno.out (cs_ HEm.out HLn.out HP.out q1 q2);exact⟨⟨0+1,by omega,by go_num,by rw[HS.out,Hs.out],by rw[HS.out,Hs.out];exact hW2,hN,Aa_ hgr (Aa_ Kq G5)⟩,by simp[RowKit.intOf];omega⟩
  ·have hl:es.take j=es:=tk_ (by omega)
   have hez:Dd_ tot es=0:=es_ fun i hi=>Hall.out i (by omega)
   have hSE:SE=if tot<ownE es then 12 else Da_ c.Depth c.Width tot rows:=by rw[HE.out,hez,if_neg (by decide)]
   have HSE:=hh_ hSE;rw[hl] at hT ⊢;have hb8:=BCr.cell;clear hl hez hSE HE Hall b4;generalize ownE es=T at *
   go_wp2_with fail
   ·go_ret
    exact Aj_ (HSE.out.trans (if_pos (by assumption))) hgg
   ·have h0:0<vs.length:=by assumption
    have hq:Da_ c.Depth c.Width tot rows=3:=gv_ Hvl.out (bf_ (by omega)) (by assumption)
    go_ret
    exact Aj_ (HSE.out.trans ((if_neg (by omega)).trans hq)) hgg
   ·have h0:0<vs.length:=by assumption
    have HQ:=hh_ (HSE.out.trans ((if_neg (by omega)).trans (fm_ (n:=c.Width) (t:=tot) Hvl.out (bf_ (by omega)) (by assumption))));generalize ((vs.length:Int) != c.Depth)=bq at *
    have hbq:bq=false:=by assumption
    subst hbq;clear h0;clear HSE
    go_loopw [98] (fun s98 wy=>∃j:Nat,j≤vs.length∧s98=.int .i64 j∧(∀i,(hi:i<rows.length)→i<j→decide ((rows[i].length:Int)≠c.Width)=false)∧wr=wy) (fun s98 _=>vs.length-(RowKit.intOf s98).toNat)
    case atStart=>exact⟨0,zl_ _,rfl,by intro i _ h;omega,rfl⟩
    case round=>
     clear hj hlt;obtain⟨j,hj,rfl,hall,rfl⟩:=hrel;have Hall:=hh_ hall;clear hall
     by_cases hjv:j<vs.length
     ·have hjl:j<rows.length:=by have:=Hvl.out;omega
      obtain⟨g,off,cap,hv,hgl,c1⟩:=(HRow.out.same hgg).rd.one O7_ hjv;cases hv;have hrow:=Hsl.out _ (mg_ hjl);have hRR:=(HRow.out.same hgg).all j vs[j] rows[j] (gq_ hjv) (gq_ hjl);have HN:=hh_ (fun h:decide ((rows[j].length:Int)≠c.Width)=true=>Xn_ (p:=fun r:List Int=>decide ((r.length:Int)≠c.Width)) hjl h)
      have HY:=hh_ (fun h:decide ((rows[j].length:Int)≠c.Width)=false=>(fun i (hi:i<rows.length) (hij:i<j+1)=>by
       by_cases e:i=j
       ·subst e;exact h
       ·exact Hall.out i hi (by omega):∀i,(hi:i<rows.length)→i<j+1→decide ((rows[i].length:Int)≠c.Width)=false))
      generalize vs[j]=u at *;generalize rows[j]=row at *;obtain⟨ra,rc,rfl⟩:=hRR.shape;clear hRR
      go_wp2_with fail
      ·have h :((row.length:Int) != c.Width)=true:=by assumption
       have hb:Nn_ c.Width rows=true:=HN.out (dt_ (bne_iff_ne.1 h))
       have hz:SE=3:=by rw[HQ.out,if_pos hb]
       go_ret
       exact Aj_ hz hgg
      ·have h :((row.length:Int) != c.Width)=false:=by assumption
       exact⟨⟨j+1,by omega,by go_num,HY.out (df_ (fun e=>e (bne_eq_false_iff_eq.1 h))),trivial⟩,by simp[RowKit.intOf];omega⟩
     ·have hb:Nn_ c.Width rows=false:=cv_ fun i hi=>Hall.out i hi (by have:=Hvl.out;omega)
      have HQ2:=hh_ (p:=SE=if Jy_ tot rows then 1 else 0) (by rw[HQ.out,if_neg (by rw[hb];decide)]);clear HQ hb Hall
      go_wp2_with fail
      go_loopw [111] (fun s111 wy=>∃j:Nat,j≤vs.length∧s111=.int .i64 j∧(∀i,(hi:i<rows.length)→i<j→gtF tot rows[i]=false)∧wr=wy) (fun s111 _=>vs.length-(RowKit.intOf s111).toNat)
      case atStart=>exact⟨0,zl_ _,rfl,by intro i _ h;omega,rfl⟩
      case round=>
       clear hj hjv;obtain⟨j,hj,rfl,hall,rfl⟩:=hrel;have Hall:=hh_ hall;clear hall
       by_cases hjv:j<vs.length
       ·have hjl:j<rows.length:=by have:=Hvl.out;omega
        obtain⟨g,off,cap,hv,hgl,c1⟩:=(HRow.out.same hgg).rd.one O7_ hjv;cases hv;have hRR:=(HRow.out.same hgg).all j vs[j] rows[j] (gq_ hjv) (gq_ hjl);have hrow:=Hsl.out _ (mg_ hjl);have HN:=hh_ (fun h:gtF tot rows[j]=true=>Xn_ (p:=gtF tot) hjl h)
        have HY:=hh_ (fun h:gtF tot rows[j]=false=>(fun i (hi:i<rows.length) (hij:i<j+1)=>by
         by_cases e:i=j
         ·subst e;exact h
         ·exact Hall.out i hi (by omega):∀i,(hi:i<rows.length)→i<j+1→gtF tot rows[i]=false))
        generalize vs[j]=u at *;generalize rows[j]=row at *;obtain⟨ra,rc,rfl⟩:=hRR.shape;have HRR:=hh_ hRR;clear hRR
        go_wp2_with fail
        go_loopw [117] (fun s117 wy=>∃k:Nat,k≤row.length∧s117=.int .i64 k∧(∀i,(hi:i<row.length)→i<k→decide (tot<row[i])=false)∧wr=wy) (fun s117 _=>row.length-(RowKit.intOf s117).toNat)
        case atStart=>exact⟨0,zl_ _,rfl,by intro i _ h;omega,rfl⟩
        case round=>
         obtain⟨k,hk,rfl,hall,rfl⟩:=hrel;have Hal2:=hh_ hall;clear hall
         by_cases hkl:k<row.length
         ·obtain⟨gx,offx,capx,hvx,hgx,cx⟩:=HRR.out.one Cs_ hkl
          cases hvx;have HN2:=hh_ (fun h:decide (tot<row[k])=true=>dc_ hkl h)
          have HY2:=hh_ (fun h:decide (tot<row[k])=false=>(fun i (hi:i<row.length) (hij:i<k+1)=>by
           by_cases e:i=k
           ·subst e;exact h
           ·exact Hal2.out i hi (by omega):∀i,(hi:i<row.length)→i<k+1→decide (tot<row[i])=false))
          generalize row[k]=x at *
          go_wp2_with fail
          ·have hb:Jy_ tot rows=true:=HN.out (HN2.out (dt_ (by assumption)))
           have hz:SE=1:=by rw[HQ2.out,if_pos hb]
           go_ret
           exact Aj_ hz hgg
          ·exact⟨⟨k+1,by omega,by go_num,HY2.out (df_ (by omega)),trivial⟩,by simp[RowKit.intOf];omega⟩
         ·have hgt:=HY.out (gtF_no fun i hi=>Hal2.out i hi (by omega))
          have Hgt:=hh_ hgt;clear hgt
          go_wp2_with fail
          exact⟨⟨j+1,by omega,by go_num,Hgt.out,trivial⟩,by simp[RowKit.intOf];omega⟩
       ·have hb:Jy_ tot rows=false:=cv_ fun i hi=>Hall.out i hi (by have:=Hvl.out;omega)
        have hz:SE=0:=by rw[HQ2.out,if_neg (by rw[hb];decide)]
        have Hz:=hh_ hz;clear hz hb
        go_wp2_with fail
        go_ret
        exact Aj_ Hz.out hgg
   ·have h0:¬0<vs.length:=by assumption
    have HQ:=hh_ (HSE.out.trans ((if_neg (by omega)).trans (U9_ (d:=c.Depth) (n:=c.Width) (t:=tot) Hvl.out h0)))
    have hz:SE=0:=by
     have hr0:rows=[]:=List.length_eq_zero_iff.1 (by have:=Hvl.out;omega);rw[HQ.out,hr0];rfl
    have Hz:=hh_ hz;clear HSE HQ hz
    go_loopw [98] (fun s98 wy=>s98=.int .i64 0∧wr=wy) (fun _ _=>0)
    case atStart=>exact⟨rfl,rfl⟩
    case round=>
     obtain⟨rfl,rfl⟩:=hrel
     go_wp2_with fail
     go_loopw [111] (fun s111 wy=>s111=.int .i64 0∧wr=wy) (fun _ _=>0)
     case atStart=>exact⟨rfl,rfl⟩
     case round=>
      obtain⟨rfl,rfl⟩:=hrel
      go_wp2_with fail
      go_ret
      exact Aj_ Hz.out hgg
end
section
open Go.RowKit
attribute [local go_sem ↓] Ag_
attribute [local go_sem] Ah_
theorem ax_ (c:Cfg) (t:List Int) (lv:Value) (l:List Summ) (w:World) (h:RCfg w c t) (hl:C4_ w lv l) (hs:D7_ l) :
  Calls prog 129 #[c.val,lv] w (RetInt (mergeErr c l) w):=by
 obtain⟨la,lc,rfl⟩:=hl.rd.shape;have H:=hh_ h;have HL:=hh_ hl;have Hs:=hh_ hs;have hlm:=hl.rd.2.1
 have h11 :(l.length:Int)≠c.Shards→mergeErr c l=11:=fun h=>by unfold mergeErr;rw[if_pos h]
 have hme :(l.length:Int)=c.Shards→mergeErr c l=if Ef_ c l≠0 then Ef_ c l else if 9223372036854775808<totalF l then 12 else 0:=fun h=>by unfold mergeErr;rw[if_neg (fun e=>e h)]
 have H11:=hh_ h11;have Hme:=hh_ hme
 have Ht:=hh_ fun w' (hg:w.grownBy w' none)=>Qe_ _ l w' (hl.same hg)
 clear h hl hs h11 hme;generalize mergeErr c l=ME at *
 go_enter func129,ntmps129
 go_upto_region 1 with(refine At_ rfl _ rfl c rfl ?_;intro w1 B1 G1 z1)
 go_wp2_with (first |(refine An_ rfl _ rfl _ rfl c (by assumption) ?_) |(go_at_call 110;refine(F6_ c t _ (H.out.same G1)).mono ?_;rintro e w2 ⟨rfl,G2⟩;have BC:=B1.same G2;have bc:=BC.cell))
 ·go_ret
  exact Aj_ (H11.out (bne_iff_ne.1 (by assumption))) (Aa_ G1 G2)
 have h18 :((l.length:Int) != c.Shards)=false:=by assumption
 have HM:=hh_ (Hme.out (bne_eq_false_iff_eq.1 h18));rw[h18]
 rename_i h19 _ _
 clear h18 h19;have hg:=Aa_ G1 G2;clear H11 Hme G1 B1 G2 bc
 go_loopw [21] (fun s21 wr=>∃(j:Nat),j≤l.length∧s21=.int .i64 j∧(∀i,(hi:i<l.length)→i<j→sumErr c.Depth c.Width l[i]=0)∧w2.grownBy wr none) (fun s21 _=>l.length-(RowKit.intOf s21).toNat)
 case atStart=>exact⟨0,zl_ _,rfl,by intro i _ h;omega,Ab_ _ _⟩
 case round=>
  obtain⟨j,hj,rfl,hall,hgr⟩:=hrel;have Hall:=hh_ hall;clear hall;have hgg:=Aa_ hg hgr;have BCr:=BC.same hgr
  by_cases hlt:j<l.length
  ·obtain⟨g,off,cap,hv,hgl,c0,c1,c2,c3,hR,hW⟩:=(HL.out.same hgg).at_ hlt
   cases hv;have hsm:=Hs.out _ (mg_ hlt)
   have hcall:=fun w' (h':wr.grownBy w' none)=>R4_ c l[j] w' (hR.same h') hW hsm
   obtain⟨a1,k1,e1⟩:=hR.es.shape;obtain⟨a2,k2,e2⟩:=hR.vs.shape;rw[e1] at c1 hcall;rw[e2] at c3 hcall
   have hat:=fun h=>ft_ (c:=c) hlt Hall.out h
   have hno:=fun(h:sumErr c.Depth c.Width l[j]=0)=>(fun i hi (hij:i<j+1)=>by
    by_cases e:i=j
    ·subst e;exact h
    ·exact Hall.out i hi (by omega):∀i,(hi:i<l.length)→i<j+1→sumErr c.Depth c.Width l[i]=0)
   clear hR hW hsm e1 e2
   by_cases hz:sumErr c.Depth c.Width l[j]=0
   ·have Hno:=hh_ (hno hz)
    rw[hz] at hcall;have Hc:=hh_ hcall;clear hz hno hat hcall;generalize l[j].total=x0 at *;generalize l[j].untr=x2 at *
    go_wp2_with (first |(refine An_ rfl _ rfl _ rfl c (BCr.same (ga_ _ _ _)) ?_) |(go_at_call 169;refine(Hc.out _ gw_).mono ?_;rintro e w5 ⟨rfl,G5⟩))
    exact⟨⟨j+1,by omega,by go_num,Hno.out,Aa_ hgr (Aa_ (ga_ _ _ _) G5)⟩,by simp[RowKit.intOf];omega⟩
   ·have Hq:=hh_ (p:=ME=sumErr c.Depth c.Width l[j]) (by rw[HM.out,hat hz,if_pos hz])
    have Hc:=hh_ hcall;clear hno hat hcall HM;generalize sumErr c.Depth c.Width l[j]=ee at *;have hz2 :(ee != 0)=true:=bne_iff_ne.2 hz;generalize l[j].total=x0 at *;generalize l[j].untr=x2 at *
    go_wp2_with (first |(refine An_ rfl _ rfl _ rfl c (BCr.same (ga_ _ _ _)) ?_) |(go_at_call 169;refine(Hc.out _ gw_).mono ?_;rintro e w5 ⟨rfl,G5⟩))
    go_ret
    exact Aj_ Hq.out (Aa_ hgg (Aa_ (ga_ _ _ _) G5))
  ·have hsz:Ef_ c l=0:=fb_ fun i hi=>Hall.out i hi (by omega)
   have hME:ME=if 9223372036854775808<totalF l then 12 else 0:=by rw[HM.out,hsz,if_neg (by decide)]
   have HME:=hh_ hME;clear hsz hME HM Hall;generalize totalF l=T at *
   go_wp2_with (first |(refine An_ rfl _ rfl _ rfl c (by assumption) ?_) |(go_at_call 97;refine(Ht.out _ hgg).mono ?_;rintro e w5 ⟨rfl,G5⟩))
   ·go_ret
    exact Aj_ (HME.out.trans (if_pos (by assumption))) (Aa_ hgg G5)
   ·go_ret
    exact Aj_ (HME.out.trans (if_neg (by omega))) (Aa_ hgg G5)
end
end Go.Proofs.YtckmgjmeanloaaaGreat
