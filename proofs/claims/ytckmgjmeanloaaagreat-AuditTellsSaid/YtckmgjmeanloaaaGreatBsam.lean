/- Several texts in one file: contracts of functions of the given program, and plain laws, for the proof of a statement. -/
import Derived.Test.YtckmgjmeanloaaaGreatBsal
import Derived.Test.YtckmgjmeanloaaaGreatBsad
import Derived.Test.YtckmgjmeanloaaaGreatBsai
import Derived.Test.YtckmgjmeanloaaaGreatBsaj
import Derived.Test.YtckmgjmeanloaaaGreatBsaf
import Derived.Test.YtckmgjmeanloaaaGreatBsak
import Derived.Deep.RegionWith
import Derived.Test.YtckmgjmeanloaaaGreatBsaa
import Derived.Laws.Bits128
import Derived.Test.YtckmgjmeanloaaaGreatBsac
import Derived.Test.YtckmgjmeanloaaaGreatBsah
import Derived.Test.YtckmgjmeanloaaaGreatBsae
import Derived.Test.YtckmgjmeanloaaaGreatBsab
import Derived.ProofKit
import Derived.ShutString
import Derived.ChangeOld
set_option maxHeartbeats 8000000
set_option maxRecDepth 100000
namespace Go.Proofs.YtckmgjmeanloaaaGreat
section
open Go.RowKit Go.Sort
attribute [local go_sem ↓] Ag_
attribute [local go_sem] Ah_
section
variable {α:Type} {f:α→List Value} {st e:TypeId} {z:Value} {size bytes:Nat} {w:World} {B:Nat} {v:Value} {l:List α}
variable {o:Oper} {a:Act} {ops:Array Oper} {rest:List Oper} {Q:Exit→Act→World→Prop}
theorem Km_ (E:Elt st e z size bytes) (hf:∀x,(f x).length=size) (hown:Own f size e B w v l) (y:α) (h1:∀u∈f y,u.oneCell'=true) (hb :(l.length+1)*bytes≤140737488355328) (h63:l.length+1≤9223372036854775807) (hbase:B≤w.heap.size) {te:TypeId} {cs:Array Value} (hcs:cs.toList=f y) {g:Nat} (hg:w.heap.size=g)
  (hgd:o.guard=none) (s x:Operand) (ho:o.op=.call { callee:=.builtin .append,args:=#[s,x],argTypes:=#[st,st] }) (hs:a.eval s=v) (hx:a.eval x=.slice (some ⟨g,0,none⟩) 1 1)
  (h:∀v' w',Own f size e B w' v' (l++[y])→w.grownBy w' v.ownBlock→Lies v v' w.heap.size→wpList Tryz.prog ops Q rest (a.put o.dst v') w'):wpList Tryz.prog ops Q (o::rest) a (w.alloc (.cells cs te)):=by
 subst hg;exact Bw_ E hf hown y h1 hb h63 hbase hcs hgd s x ho hs hx h
end
theorem Y2_ {α:Type} {f:α→List Value} {size:Nat} {w:World} {g:Nat} {cs:Array Value} (h:Blk w g cs) (hf:∀x,(f x).length=size) (l:List α) (hcs:cs.toList=cellsOf f l) (hl:l.length≤9223372036854775807):RdL f size w (.slice (some ⟨g,0,none⟩) l.length l.length) l:=by
 refine⟨Au_ f size hf l,hl,.inr ⟨g,0,l.length,rfl,h.lt,fun j u hu=>?_⟩⟩;rw[Nat.zero_add,h.cell j];rw[←hcs] at hu
 simpa using hu
structure OpsK (B b bc:Nat) (c:Cfg) (w0:World) (v:Value) (l:List OpR) (w:World):Prop where
 deck:Deck B w b
 box:BoxAt w bc c
 ops:OpsG (bc+1) w v l
 ok:∀o∈l,opE o=0
 G:w0.grownBy w (some b)
 lt:b<B∧B≤bc∧w0.heap.size=bc∧bc<w.heap.size
section
variable {B b bc:Nat} {c:Cfg} {w0 w w':World} {v v':Value} {l:List OpR} {o:OpR}
theorem OpsK.next (h:OpsK B b bc c w0 v l w) (hd:Deck B w' b) (hg:w.grownBy w' (some b)):OpsK B b bc c w0 v l w':=by
 obtain⟨h1,h2,h3,h4⟩:=h.lt;have h5:=hg.size;exact⟨hd,h.box.kept hg (by simp;omega),h.ops.kept hg (fun k e=>by cases e;omega),h.ok,Aa_ h.G hg,h1,h2,h3,by omega⟩
theorem OpsK.same (h:OpsK B b bc c w0 v l w) (hg:w.grownBy w' none):OpsK B b bc c w0 v l w':=by
 obtain⟨h1,h2,h3,h4⟩:=h.lt;have h5:=hg.size;exact⟨h.deck.kept hg (by simp),h.box.kept hg (by simp),h.ops.same hg,h.ok,Aa_ h.G (Ak_ hg _),h1,h2,h3,by omega⟩
theorem OpsK.snoc {n:Nat} (h:OpsK B b bc c w0 v l w) (h1:OpRd w o) (h2:OpIn n w.heap.size o) (hn:bc+1≤n) (hv:∀k,v.ownBlock=some k→k<n) (hE:opE o=0)
  (ho:Own opF 6 65 (bc+1) w' v' (l++[o])) (hg:w.grownBy w' v.ownBlock) (hL:Lies v v' w.heap.size):OpsK B b bc c w0 v' (l++[o]) w':=by
 obtain⟨k1,k2,k3,k4⟩:=h.lt;have h5:=hg.size
 have hlo:∀k,v.ownBlock=some k→bc+1≤k:=fun k hk=>(h.ops.own.lt k hk).1
 refine⟨h.deck.kept hg (fun k e=>by have:=hlo _ e;omega),h.box.kept hg (fun e=>by have:=hlo _ e;omega),h.ops.snoc h1 h2 hn hv ho hg hL,fun x hx=>?_,?_,k1,k2,k3,by omega⟩
 ·rcases ma_ hx with hx|hx
  ·exact h.ok x hx
  ·rw[ms_ hx];exact hE
 ·cases hq:v.ownBlock with
  | none=>rw[hq] at hg;exact Aa_ h.G (Ak_ hg _)
  | some q=>rw[hq] at hg;exact Af_ h.G hg (by have:=hlo q hq;omega)
end
theorem Mo_ (w:World):RdL byF 1 w (.slice none 0 0) []:=(Own.nil byF 1 5 0 w).rd
theorem Rh_ (w:World):RdL intF 1 w (.slice none 0 0) []:=(Own.nil intF 1 3 0 w).rd
theorem Nc_ (w:World) (k t s:Int) (y:ByteArray):OpRd w ⟨k,.slice none 0 0,t,s,y,.slice none 0 0,[],[]⟩:=⟨Mo_ w,Rh_ w,fun a n c e=>by cases e;omega,fun a n c e=>by cases e;omega⟩
theorem L7_ (lo hi:Nat) (k t s:Int) (y:ByteArray):OpIn lo hi ⟨k,.slice none 0 0,t,s,y,.slice none 0 0,[],[]⟩:=⟨Hn_ _ _ _ _,Hn_ _ _ _ _⟩
theorem eu_:opE ⟨4,.slice none 0 0,0,0,⟨#[]⟩,.slice none 0 0,[],[]⟩=0:=by rfl
theorem e9_ {s:Int} (h:0≤s∧s<5):opE ⟨3,.slice none 0 0,0,s,⟨#[]⟩,.slice none 0 0,[],[]⟩=0:=by
 rw[Hm_];refine⟨by rfl,by rfl,?_⟩
 simp[rangeB,inR];omega
theorem fa_ {t:Int} {y:ByteArray} (h:0≤t∧t≤1099511627776) (hy:y.size≤255):opE ⟨5,.slice none 0 0,t,0,y,.slice none 0 0,[],[]⟩=0:=by
 rw[Hm_];refine⟨by rfl,?_,?_⟩
 ·simp[longB];omega
 ·simp[rangeB,inR];omega
theorem e2_ {v:Value} {d:List UInt8} (h:d.length≤4096):opE ⟨1,v,0,0,⟨#[]⟩,.slice none 0 0,d,[]⟩=0:=by
 rw[Hm_];refine⟨by rfl,?_,by rfl⟩
 simp[longB,ByteArray.size];omega
theorem d4_ {v:Value} {t q r:Int} (h:0≤t∧t≤1099511627776) (hq:0≤q∧q<9) (hr:0≤r∧r<9):opE ⟨2,.slice none 0 0,t,0,⟨#[]⟩,v,[],[q,r]⟩=0:=by
 rw[Hm_];refine⟨by rfl,by rfl,?_⟩
 simp[rangeB,inR];omega
def OpsD (B b:Nat) (n:Int) (w:World) (e:Ending) (w':World):Prop:=∃v L,e=.returned v∧OpsG w.heap.size w' v L∧(∀o∈L,opE o=0)∧(1≤L.length∧(L.length:Int)≤n+1)∧Deck B w' b∧w.grownBy w' (some b)
theorem do_ {B:Nat} (b:Nat) (c:Cfg) (n:Int) (w:World) (hd:Deck B w b) (hB:B≤w.heap.size) (hn:0≤n∧n≤20) (hL:1≤c.Length∧c.Length≤20):Calls Tryz.prog 20 #[.pointer (some ⟨b,0,none⟩),c.val,.int .i64 n] w (OpsD B b n w):=by
 have hbB:=hd.below
 go_enter Tryz.func20,Tryz.ntmps20
 go_upto_region 1 with(refine As_ rfl _ rfl c rfl ?_;intro w1 B1 G1 z1)
 have hd1:=hd.kept G1 (by simp);have C1:=hh_ (A1_ b (n+1) w1 hd1 (by omega) (by omega));have HB1:=hh_ B1;have HG1:=hh_ G1;have hz1:=B1.lt;clear B1 G1 hd1 hd
 go_upto_region 4 with(go_at_call 37;refine C1.out.mono ?_;rintro e w2 ⟨k0,rfl,hk0,hk1,hd2,hg2⟩)
 obtain⟨bc,hbc⟩:∃bc,w.heap.size=bc:=⟨_,rfl⟩;have K0:=hh_ (show OpsK B b bc c w (.slice none 0 0) [] w2 from⟨hd2,by rw[←hbc];exact HB1.out.kept hg2 (by simp;omega),OpsG.nil _ _,by simp,Aa_ (Ak_ HG1.out _) hg2,hbB,by omega,hbc,by have:=hg2.size;omega⟩);rw[hbc];have HBC:=hh_ hbc;clear hbc C1 HB1 HG1 hd2 hg2 hz1
 go_loopw [9,7,8] (fun s9 s7 s8 wk=>∃(k:Int) (l:List OpR) (tm:Int),s9=.int .i64 k∧s8=.int .i64 tm∧(-1≤k∧k≤k0)∧(l.length:Int)=k0-k∧(0≤tm∧tm≤40*(k0-k))∧OpsK B b bc c w s7 l wk) (fun s9 _ _ _=>(RowKit.intOf s9+1).toNat)
 case atStart=>exact⟨k0,[],0,rfl,rfl,by omega,by simp,by omega,K0.out⟩
 case round=>
  clear K0;obtain⟨k,l,tm,rfl,rfl,⟨hk2,hk3⟩,hl,⟨ht0,ht1⟩,hK⟩:=hrel;have HK:=hh_ hK;have Hl:=hh_ hl
  have hl4:l.length≤21:=by omega
  obtain⟨oa,oc,rfl⟩:=hK.ops.own.shape;clear hK hl
  have hb1 :(l.length+1)*88≤140737488355328:=by omega
  have hb2:l.length+1≤9223372036854775807:=by omega
  by_cases hge:0≤k
  ·have C2:=hh_ (A1_ b 10 wr HK.out.deck (by omega) (by omega))
   go_wp2_with fail
   refine C2.out.mono ?_;rintro e w3 ⟨r,rfl,hr0,hr1,hd3,hg3⟩;have HK3:=hh_ (HK.out.next hd3 hg3);clear HK C2 hd3 hg3;have hz3:bc+1≤w3.heap.size:=HK3.out.lt.2.2.2
   by_cases h3:r=3
   ·subst h3
    go_upto_region 5 with(at_builtin;refine Bw_ H9_ Ef_ (HK3).out.ops.own ⟨4,.slice none 0 0,0,0,⟨#[]⟩,.slice none 0 0,[],[]⟩ It_ hb1 hb2 hz3 (by rfl) rfl _ _ (by rfl) (by rfl) (by rfl) ?_;intro v4 w4 o4 g4 l4)
    have K5:=(HK3).out.snoc (o:=⟨4,.slice none 0 0,0,0,⟨#[]⟩,.slice none 0 0,[],[]⟩) (n:=w3.heap.size) (Nc_ _ _ _ _ _) (L7_ _ _ _ _ _ _) hz3 (fun k hk=>(HK3.out.ops.own.lt k hk).2) eu_ o4 g4 l4;have HK5:=hh_ K5;clear K5 o4 g4 l4 HK3
    go_wp2_with fail
    exact⟨⟨k-1,_,tm,rfl,rfl,by omega,by have:=Hl.out;simp;omega,by omega,HK5.out⟩,by simp[RowKit.intOf];omega⟩
   have f3 :((r:Int)==3)=false:=by simpa using h3
   by_cases h2:r=2
   ·subst h2
    clear h3 f3;have C3:=hh_ (A1_ b 5 w3 HK3.out.deck (by omega) (by omega))
    go_wp2_with fail
    refine C3.out.mono ?_;rintro e w5 ⟨q,rfl,hq0,hq1,hd5,hg5⟩;have HK5':=hh_ (HK3.out.next hd5 hg5);have hz5:bc+1≤w5.heap.size:=HK5'.out.lt.2.2.2;clear HK3 C3 hd5 hg5
    go_upto_region 5 with(at_builtin;refine Bw_ H9_ Ef_ (HK5').out.ops.own ⟨3,.slice none 0 0,0,q,⟨#[]⟩,.slice none 0 0,[],[]⟩ It_ hb1 hb2 hz5 (by rfl) rfl _ _ (by rfl) (by rfl) (by rfl) ?_;intro v4 w4 o4 g4 l4)
    have K5:=(HK5').out.snoc (o:=⟨3,.slice none 0 0,0,q,⟨#[]⟩,.slice none 0 0,[],[]⟩) (n:=w5.heap.size) (Nc_ _ _ _ _ _) (L7_ _ _ _ _ _ _) hz5 (fun k hk=>(HK5'.out.ops.own.lt k hk).2) (e9_ ⟨hq0,hq1⟩) o4 g4 l4;have HK5:=hh_ K5;clear K5 o4 g4 l4 HK5'
    go_wp2_with fail
    exact⟨⟨k-1,_,tm,rfl,rfl,by omega,by have:=Hl.out;simp;omega,by omega,HK5.out⟩,by simp[RowKit.intOf];omega⟩
   have f2 :((r:Int)==2)=false:=by simpa using h2
   by_cases h4:r=4
   ·subst h4
    clear h3 f3 h2 f2;have h34:=HK3.out.lt;have C3:=hh_ (da_ b w3 HK3.out.deck (by omega))
    go_wp2_with fail
    refine C3.out.mono ?_;rintro e w5 ⟨L,rfl,-,hd5,hg5⟩;have HK5':=hh_ (HK3.out.next hd5 hg5);have C4:=hh_ (A1_ b 40 w5 hd5 (by omega) (by omega));have hy:=Jb_ L;clear HK3 C3 hd5 hg5 h34;generalize keyY L=y at *
    go_wp2_with fail
    refine C4.out.mono ?_;rintro e w6 ⟨q,rfl,hq0,hq1,hd6,hg6⟩;have HK6:=hh_ (HK5'.out.next hd6 hg6);have hz6:bc+1≤w6.heap.size:=HK6.out.lt.2.2.2;clear HK5' C4 hd6 hg6
    go_upto_region 5 with(at_builtin;refine Bw_ H9_ Ef_ (HK6).out.ops.own ⟨5,.slice none 0 0,max (tm+q-10) 0,0,y,.slice none 0 0,[],[]⟩ It_ hb1 hb2 hz6 (by rfl) rfl _ _ (by rfl) (by rfl) (by rfl) ?_;intro v4 w4 o4 g4 l4)
    have K5:=(HK6).out.snoc (o:=⟨5,.slice none 0 0,max (tm+q-10) 0,0,y,.slice none 0 0,[],[]⟩) (n:=w6.heap.size) (Nc_ _ _ _ _ _) (L7_ _ _ _ _ _ _) hz6 (fun k hk=>(HK6.out.ops.own.lt k hk).2) (fa_ (by omega) hy) o4 g4 l4;have HK5:=hh_ K5;clear K5 o4 g4 l4 HK6
    go_wp2_with fail
    exact⟨⟨k-1,_,tm,rfl,rfl,by omega,by have:=Hl.out;simp;omega,by omega,HK5.out⟩,by simp[RowKit.intOf];omega⟩
   have f4 :((r:Int)==4)=false:=by simpa using h4
   by_cases h01:r=0∨r=1
   ·clear h2 h3 h4 f2 f3 f4
    rcases h01 with rfl|rfl
    ·have bx:=HK3.out.box.cell
     have C3:=hh_ (A1_ b (2*c.Length) w3 HK3.out.deck (by omega) (by omega))
     go_wp2_with fail
     refine C3.out.mono ?_;rintro e w5 ⟨q,rfl,hq0,hq1,hd5,hg5⟩;have HK5':=hh_ (HK3.out.next hd5 hg5);have C4:=hh_ (A1_ b 9 w5 hd5 (by omega) (by omega));clear HK3 C3 hd5 hg5 bx
     go_wp2_with fail
     refine C4.out.mono ?_;rintro e w6 ⟨q1,rfl,hq10,hq11,hd6,hg6⟩;have HK6:=hh_ (HK5'.out.next hd6 hg6);have C5:=hh_ (A1_ b 9 w6 hd6 (by omega) (by omega));clear HK5' C4 hd6 hg6
     go_wp2_with fail
     refine C5.out.mono ?_;rintro e w7 ⟨q2,rfl,hq20,hq21,hd7,hg7⟩;have HK7:=hh_ (HK6.out.next hd7 hg7);clear HK6 C5 hd7 hg7;have G8:=ga_ w7 (.cells #[.int .i64 q1,.int .i64 q2] 3) none;have HK8:=hh_ (HK7.out.same G8);have hz8:bc+1≤(w7.alloc (.cells #[.int .i64 q1,.int .i64 q2] 3)).heap.size:=HK8.out.lt.2.2.2;have hz7:bc+1≤w7.heap.size:=HK7.out.lt.2.2.2;have Hg8:=hh_ (show(w7.alloc (.cells #[.int .i64 q1,.int .i64 q2] 3)).heap.size=w7.heap.size+1 by simp);have HR8:=hh_ (Y2_ (f:=intF) (size:=1) (Blk.new w7 #[.int .i64 q1,.int .i64 q2] 3) (fun _=>rfl) [q1,q2] rfl (by simp));have hlt7:=hh_ (fun k hk=>(HK7.out.ops.own.lt k hk).2:∀k,(Value.slice oa l.length oc).ownBlock=some k→k<w7.heap.size);clear G8 HK7
     go_upto_region 5 with(at_builtin;refine Km_ H9_ Ef_ HK8.out.ops.own ⟨2,.slice none 0 0,tm+q,0,⟨#[]⟩,.slice (some ⟨w7.heap.size,0,none⟩) 2 2,[],[q1,q2]⟩ It_ hb1 hb2 hz8 (by rfl) Hg8.out rfl _ _ (by rfl) (by rfl) (by rfl) ?_;intro v4 w4 o4 g4 l4)
     have K5:=(HK8).out.snoc (o:=⟨2,.slice none 0 0,tm+q,0,⟨#[]⟩,.slice (some ⟨w7.heap.size,0,none⟩) 2 2,[],[q1,q2]⟩) (n:=w7.heap.size) ⟨Mo_ _,HR8.out,fun a n c e=>by cases e;omega,fun a n c e=>by cases e;omega⟩ ⟨Hn_ _ _ _ _,fun a n c e=>by cases e;rw[Hg8.out];exact⟨Nat.le_refl _,Nat.lt_succ_self _⟩⟩ hz7 hlt7.out (d4_ (by omega) ⟨hq10,hq11⟩ ⟨hq20,hq21⟩) o4 g4 l4;have HK5:=hh_ K5;clear K5 o4 g4 l4 HK8
     go_wp2_with fail
     exact⟨⟨k-1,_,(tm+q),rfl,rfl,by omega,by have:=Hl.out;simp;omega,by omega,HK5.out⟩,by simp[RowKit.intOf];omega⟩
    ·have bx:=HK3.out.box.cell
     have C3:=hh_ (A1_ b (2*c.Length) w3 HK3.out.deck (by omega) (by omega))
     go_wp2_with fail
     refine C3.out.mono ?_;rintro e w5 ⟨q,rfl,hq0,hq1,hd5,hg5⟩;have HK5':=hh_ (HK3.out.next hd5 hg5);have C4:=hh_ (A1_ b 9 w5 hd5 (by omega) (by omega));clear HK3 C3 hd5 hg5 bx
     go_wp2_with fail
     refine C4.out.mono ?_;rintro e w6 ⟨q1,rfl,hq10,hq11,hd6,hg6⟩;have HK6:=hh_ (HK5'.out.next hd6 hg6);have C5:=hh_ (A1_ b 9 w6 hd6 (by omega) (by omega));clear HK5' C4 hd6 hg6
     go_wp2_with fail
     refine C5.out.mono ?_;rintro e w7 ⟨q2,rfl,hq20,hq21,hd7,hg7⟩;have HK7:=hh_ (HK6.out.next hd7 hg7);clear HK6 C5 hd7 hg7;have G8:=ga_ w7 (.cells #[.int .i64 q1,.int .i64 q2] 3) none;have HK8:=hh_ (HK7.out.same G8);have hz8:bc+1≤(w7.alloc (.cells #[.int .i64 q1,.int .i64 q2] 3)).heap.size:=HK8.out.lt.2.2.2;have hz7:bc+1≤w7.heap.size:=HK7.out.lt.2.2.2;have Hg8:=hh_ (show(w7.alloc (.cells #[.int .i64 q1,.int .i64 q2] 3)).heap.size=w7.heap.size+1 by simp);have HR8:=hh_ (Y2_ (f:=intF) (size:=1) (Blk.new w7 #[.int .i64 q1,.int .i64 q2] 3) (fun _=>rfl) [q1,q2] rfl (by simp));have hlt7:=hh_ (fun k hk=>(HK7.out.ops.own.lt k hk).2:∀k,(Value.slice oa l.length oc).ownBlock=some k→k<w7.heap.size);clear G8 HK7
     go_upto_region 5 with(at_builtin;refine Km_ H9_ Ef_ HK8.out.ops.own ⟨2,.slice none 0 0,tm+q,0,⟨#[]⟩,.slice (some ⟨w7.heap.size,0,none⟩) 2 2,[],[q1,q2]⟩ It_ hb1 hb2 hz8 (by rfl) Hg8.out rfl _ _ (by rfl) (by rfl) (by rfl) ?_;intro v4 w4 o4 g4 l4)
     have K5:=(HK8).out.snoc (o:=⟨2,.slice none 0 0,tm+q,0,⟨#[]⟩,.slice (some ⟨w7.heap.size,0,none⟩) 2 2,[],[q1,q2]⟩) (n:=w7.heap.size) ⟨Mo_ _,HR8.out,fun a n c e=>by cases e;omega,fun a n c e=>by cases e;omega⟩ ⟨Hn_ _ _ _ _,fun a n c e=>by cases e;rw[Hg8.out];exact⟨Nat.le_refl _,Nat.lt_succ_self _⟩⟩ hz7 hlt7.out (d4_ (by omega) ⟨hq10,hq11⟩ ⟨hq20,hq21⟩) o4 g4 l4;have HK5:=hh_ K5;clear K5 o4 g4 l4 HK8
     go_wp2_with fail
     exact⟨⟨k-1,_,(tm+q),rfl,rfl,by omega,by have:=Hl.out;simp;omega,by omega,HK5.out⟩,by simp[RowKit.intOf];omega⟩
   ·have f0 :((r:Int)==0)=false:=by simp;omega
    have f1 :((r:Int)==1)=false:=by simp;omega
    clear h01 h2 h3 h4;have h34:=HK3.out.lt;have C3:=hh_ (Wp_ b tm w3 HK3.out.deck (by omega) (by omega))
    go_wp2_with fail
    refine C3.out.mono ?_;rintro e w5 ⟨fv,F,rfl,oF,hF,hd5,hg5⟩;obtain⟨fa,fc,rfl⟩:=oF.shape;have HK5':=hh_ (HK3.out.next hd5 hg5);have hz5:bc+1≤w5.heap.size:=HK5'.out.lt.2.2.2;have HOF:=hh_ oF;have hlt3:=hh_ (fun k hk=>(HK3.out.ops.own.lt k hk).2:∀k,(Value.slice oa l.length oc).ownBlock=some k→k<w3.heap.size);clear HK3 C3 hd5 hg5 oF h34
    go_upto_region 5 with(at_builtin;refine Bw_ H9_ Ef_ (HK5').out.ops.own ⟨1,.slice fa F.length fc,0,0,⟨#[]⟩,.slice none 0 0,F,[]⟩ It_ hb1 hb2 hz5 (by rfl) rfl _ _ (by rfl) (by rfl) (by rfl) ?_;intro v4 w4 o4 g4 l4)
    have K5:=(HK5').out.snoc (o:=⟨1,.slice fa F.length fc,0,0,⟨#[]⟩,.slice none 0 0,F,[]⟩) (n:=w3.heap.size) ⟨HOF.out.rd,Rh_ _,fun a n c e=>by cases e;exact HOF.out.cap,fun a n c e=>by cases e;omega⟩ ⟨HOF.out.inB,Hn_ _ _ _ _⟩ hz3 hlt3.out (e2_ hF) o4 g4 l4;have HK5:=hh_ K5;clear K5 o4 g4 l4 HK5'
    go_wp2_with fail
    exact⟨⟨k-1,_,tm,rfl,rfl,by omega,by have:=Hl.out;simp;omega,by omega,HK5.out⟩,by simp[RowKit.intOf];omega⟩
  ·obtain rfl:k=-1:=by omega
   go_wp2_with fail
   go_ret
   have h4:=HK.out.lt;exact⟨_,l,rfl,HK.out.ops.base (by omega),HK.out.ok,by have:=Hl.out;omega,HK.out.deck,HK.out.G⟩
end
section
open Go.RowKit Go.Sort
def opBl (o:OpR):Fp:=fun i=>ownF o.vd i∨ownF o.vp i
def opsFp (v:Value) (L:List OpR):Fp:=fun i=>ownF v i∨∃o∈L,opBl o i
structure OpsQ (w:World) (lo:Nat) (v:Value) (L:List OpR):Prop where
 own:Own opF 6 65 lo w v L
 rd:∀o∈L,OpRd w o
 low:Low w (opsFp v L)
theorem Uq_ {lo hi:Nat} {a:Option Addr} {n c:Nat} (h:InB lo hi (.slice a n c)):∀i,ownF (.slice a n c) i→lo≤i∧i<hi:=by
 intro i hi
 cases a with
 | none=>cases hi
 | some ad=>cases hi;exact h _ _ _ rfl
theorem OpRd.shapes {w:World} {o:OpR} (h:OpRd w o) :(∃a c,o.vd=.slice a o.data.length c)∧∃a c,o.vp=.slice a o.picks.length c:=⟨h.data.shape,h.picks.shape⟩
theorem OpsG.q {lo:Nat} {w:World} {v:Value} {L:List OpR} (h:OpsG lo w v L):OpsQ w lo v L∧∀i,opsFp v L i→lo≤i:=by
 have key:∀o∈L,∀i,opBl o i→lo≤i∧i<w.heap.size:=fun o ho i hi=>by
  obtain⟨h1,h2,_⟩:=h.all o ho;obtain⟨⟨a,c,e1⟩,⟨a2,c2,e2⟩⟩:=h1.shapes
  rcases hi with hi|hi
  ·have:=h2.vd;rw[e1] at this hi;exact Uq_ this i hi
  ·have:=h2.vp;rw[e2] at this hi;exact Uq_ this i hi
 exact⟨⟨h.own,fun o ho=>(h.all o ho).1,fun i hi=>hi.elim (fun e=>(h.own.lt i e).2) fun⟨o,ho,e⟩=>(key o ho i e).2⟩,fun i hi=>hi.elim (fun e=>(h.own.lt i e).1) fun⟨o,ho,e⟩=>(key o ho i e).1⟩
theorem OpRd.offS {w w':World} {o:OpR} {S:Fp} (h:OpRd w o) (k:GrownS S w w') (ho:Off (opBl o) S):OpRd w' o:=
 ⟨h.data.keptS k fun _ a n c e hs=>ho a.block (.inl (by rw[e];rfl)) hs,h.picks.keptS k fun _ a n c e hs=>ho a.block (.inr (by rw[e];rfl)) hs,h.dcap,h.pcap⟩
theorem OpsQ.offS {w w':World} {lo:Nat} {v:Value} {L:List OpR} {S:Fp} (h:OpsQ w lo v L) (k:GrownS S w w') (ho:Off (opsFp v L) S):OpsQ w' lo v L:=
 ⟨h.own.offS k (ho.left fun i hi=>.inl hi),fun o hm=>(h.rd o hm).offS k (ho.left fun i hi=>.inr ⟨o,hm,hi⟩),h.low.up k.size⟩
theorem OpsQ.base {w:World} {lo lo':Nat} {v:Value} {L:List OpR} (h:OpsQ w lo v L) (hl:lo'≤lo):OpsQ w lo' v L:=⟨h.own.base fun k hk=>lt_ hl (h.own.lt k hk).1,h.rd,h.low⟩
structure RpS (w0:World) (c:Cfg) (t:List Int) (vq:Value) (L:List OpR) (w:World) (G:RcG) (K:CluM) (vl:Value) (rs:List Rep):Prop where
 clu:RClu w G c t K
 hi:∀i,G.F i→w0.heap.size≤i
 ops:OpsQ w w0.heap.size vq L
 o0:Off (opsFp vq L) G.F
 out:Jr_ w0.heap.size w vl rs
 o2:Off (I6_ vl rs) G.F
 o3:Off (opsFp vq L) (I6_ vl rs)
 grown:w0.grownBy w none
section
variable {w0 w w' w'':World} {c:Cfg} {t:List Int} {vq:Value} {L:List OpR} {G G':RcG} {K K':CluM} {vl vl':Value} {rs xs:List Rep}
theorem RpS.mov (h:RpS w0 c t vq L w G K vl rs) (hc:RClu w' G' c t K') (m:Mov G.F G'.F w w'):RpS w0 c t vq L w' G' K' vl rs:=
 ⟨hc,m.above h.grown.size h.hi,h.ops.offS m.grown h.o0,m.off h.ops.low h.o0,h.out.offS m.grown h.o2,m.off h.out.low h.o2,h.o3,Mov.back h.grown m h.hi⟩
theorem RpS.same (h:RpS w0 c t vq L w G K vl rs) (g:w.grownBy w' none):RpS w0 c t vq L w' G K vl rs:=h.mov (h.clu.same g) (Mov.same g)
theorem RpS.cfg {l:List (Int×Int)} (h:RpS w0 c t vq L w G K vl rs) (hn:CfgNums c) (hm:CfgMem c l t w0) (htl:∀i,ownF c.Table i→i<w0.heap.size):CfgW w c t G.F:=
 ⟨hn,hm.table.same h.grown,hm.tlen,fun i hi=>Nat.lt_of_lt_of_le (htl i hi) h.grown.size,fun i hi hf=>by have:=htl i hi;have:=h.hi i hf;omega⟩
theorem RpS.app (h:RpS w0 c t vq L w' G' K' vl rs) {N:Nat} (hN:∀i,ownF vl i→i<N) (hN0:w0.heap.size≤N) (hx:∀x∈xs,RepRd w' x) (hb:∀x∈xs,∀i,repBl x i→N≤i) (hox:∀x∈xs,Off (repBl x) G'.F) (hops:∀i,opsFp vq L i→i<N)
  (ho:Own repF 7 26 w0.heap.size w'' vl' (rs++xs)) (hg:w'.grownBy w'' vl.ownBlock) (hL:Lies vl vl' w'.heap.size):RpS w0 c t vq L w'' G' K' vl' (rs++xs):=by
 have gS:GrownS (ownF vl) w' w'':=GrownS.of hg fun k hk=>hk
 have hlo:∀i,ownF vl i→w0.heap.size≤i:=fun i hi=>(h.out.own.lt i hi).1
 have hnew:∀i,ownF vl' i→ownF vl i∨w'.heap.size≤i:=fun i hi=>by
  rcases hL with e |⟨m,e1,e2⟩
  ·left;unfold ownF at hi ⊢;rw[←e];exact hi
  ·right;unfold ownF at hi;rw[e1] at hi;cases hi;exact e2
 have hcl:=h.clu.low;have hol:=h.ops.low
 have hxl:∀x∈xs,Low w' (repBl x):=fun x hm=>repK.low (hx x hm)
 refine⟨h.clu.keptS gS (h.o2.symm.right fun i hi=>.inl hi),h.hi,h.ops.offS gS (h.o3.right fun i hi=>.inl hi),h.o0,⟨ho,fun x hm=>?_⟩,fun i hi hf=>?_,fun i hf hi=>?_,?_⟩
 ·rcases ma_ hm with hm|hm
  ·obtain⟨a1,a2,a3⟩:=h.out.all x hm
   refine⟨repK.keep a1 gS fun i hi hs=>a3 i hs hi,a2,fun k hk hi=>?_⟩
   rcases hnew k hk with e|e
   ·exact a3 k e hi
   ·have:=repK.low a1 k hi;omega
  ·refine⟨repK.keep (hx x hm) gS fun i hi hs=>?_,fun i hi=>lt_ hN0 (hb x hm i hi),fun k hk hi=>?_⟩
   ·have:=hN i hs;have:=hb x hm i hi;omega
   ·rcases hnew k hk with e|e
    ·have:=hN k e;have:=hb x hm k hi;omega
    ·have:=hxl x hm k hi;omega
 ·rcases hi with hi |⟨x,hm,hi⟩
  ·rcases hnew i hi with e|e
   ·exact h.o2 i (.inl e) hf
   ·have:=hcl i hf;omega
  ·rcases ma_ hm with hm|hm
   ·exact h.o2 i (.inr ⟨x,hm,hi⟩) hf
   ·exact hox x hm i hi hf
 ·rcases hi with hi |⟨x,hm,hi⟩
  ·rcases hnew i hi with e|e
   ·exact h.o3 i hf (.inl e)
   ·have:=hol i hf;omega
  ·rcases ma_ hm with hm|hm
   ·exact h.o3 i hf (.inr ⟨x,hm,hi⟩)
   ·have:=hb x hm i hi;have:=hops i hf;omega
 ·exact Ig_ h.grown hg fun q hq=>hlo q hq
end
theorem reps_one {w:World} {xs:List Rep} (h:∀x∈xs,RepRd w x):∀u∈cellsOf repF xs,u.oneCell'=true:=by
 intro u hu;obtain⟨x,hx,hu⟩:=List.mem_flatMap.1 hu;obtain⟨a,c,e1⟩:=(h x hx).lines.shape;obtain⟨a2,c2,e2⟩:=(h x hx).rej.shape;simp only[repF,List.mem_cons,List.not_mem_nil,or_false] at hu
 rcases hu with rfl|rfl|rfl|rfl|rfl|rfl|rfl
 ·rfl
 ·rfl
 ·rw[e1];rfl
 ·rfl
 ·rfl
 ·rfl
 ·rw[e2];rfl
section
variable {α:Type} {f:α→List Value} {st e:TypeId} {z:Value} {size bytes N:Nat} {P:List α→Prop} {w:World}
variable {v:Value} {l l2:List α} {A:Option Addr} {m c:Nat}
variable {o:Oper} {a:Act} {ops:Array Oper} {rest:List Oper} {Q:Exit→Act→World→Prop}
theorem Pj_ (E:Elt st e z size bytes) (h1:∀u∈cellsOf f l2,u.oneCell'=true) (hf:∀x,(f x).length=size) (hown:Own f size e N w v l) (hr:RdL f size w (.slice A m c) l2) (hm:m=l2.length) (hb :(l.length+l2.length)*bytes≤140737488355328) (h63:l.length+l2.length≤9223372036854775807) (hbase:N≤w.heap.size)
  (hP:∀T,P T→T.length≤l.length∨T <+: l++l2∨l++l2 <+: T)
  (hgd:o.guard=none) (s x:Operand) (ho:o.op=.call { callee:=.builtin .append,args:=#[s,x],argTypes:=#[st,st] }) (hs:a.eval s=v) (hx:a.eval x=.slice A m c)
  (h:∀v' w',Own f size e N w' v' (l++l2)→KeepR f size e N P v.ownBlock w w'→Lies v v' w.heap.size→wpList Tryz.prog ops Q rest (a.put o.dst v') w'):wpList Tryz.prog ops Q (o::rest) a w:=by
 refine wpList_plain hgd fun _ hK=>?_
 subst hm;obtain⟨v',w',hrun,h2,h3,h4⟩:=F5_ (ty:=o.type) E hown hr h1 (by unfold maxLen;exact h63) hb hbase
 have h2':Own f size e N w' v' (l++l2):=by unfold Own;rw[Ap_,List.length_append];exact h2
 obtain⟨v3,w3,hrun3,_,_,h5⟩:=E7_ (ty:=o.type) E hown hr h1 (by unfold maxLen;exact h63) hb hbase;rw[hrun] at hrun3;cases hrun3;unfold Oper.wp execOp;simp only[ho,resolve,invoke,builtin,Sem.run_bind,Sem.run_pure,Result.andThen_ok,List.map_toArray,List.map_cons,List.map_nil,hs,hx,hrun];exact hK _ _ (h v' w' h2' ⟨h3,fun T u hp hu=>Em_ hf E.pos hown h2' h3 h4 (hP T hp) hu⟩ h5)
end
theorem CfgMem.keptS {c:Cfg} {l:List (Int×Int)} {t:List Int} {w w':World} {S:Nat→Prop} (h:CfgMem c l t w) (k:GrownS S w w') (h1:∀a i m,c.Table=.slice (some a) i m→¬S a.block) (h2:0<l.length→∀a i m,c.Classes=.slice (some a) i m→¬S a.block):CfgMem c l t w':=
 ⟨Rd.keptS h.classes k h2,Rd.keptS h.table k fun _=>h1,h.tlen,h.twords⟩
theorem BoxAt.keptS {w w':World} {b:Nat} {c:Cfg} {S:Nat→Prop} (h:BoxAt w b c) (k:GrownS S w w') (hS:¬S b):BoxAt w' b c:=by
 obtain⟨t,f,e,he⟩:=h.block;exact⟨⟨t,f,(k.block b h.lt hS).trans e,he⟩⟩
section
variable {α:Type} {f:α→List Value} {size:Nat} {e:TypeId} {N:Nat} {P:List α→Prop} {r:Option Nat} {b:Nat} {c:Cfg} {w w' w'':World}
structure De_ (f:α→List Value) (size:Nat) (e:TypeId) (N:Nat) (P:List α→Prop) (r:Option Nat) (b:Nat) (c:Cfg) (w w':World):Prop where
 grown:GrownS (fun i=>r=some i∨i=b) w w'
 own:∀T v,P T→Own f size e N w v T→Own f size e N w' v T
 b1:BoxAt w b c→BoxAt w' b c
 b2 :(∃c0,BoxAt w b c0)→∃c0,BoxAt w' b c0
theorem De_.refl (f:α→List Value) (size:Nat) (e:TypeId) (N:Nat) (P:List α→Prop) (r:Option Nat) (b:Nat) (c:Cfg) (w:World):De_ f size e N P r b c w w:=⟨GrownS.refl _ _,fun _ _ _ h=>h,id,id⟩
theorem De_.trans (h:De_ f size e N P r b c w w') (k:De_ f size e N P r b c w' w''):De_ f size e N P r b c w w'':=⟨h.grown.trans k.grown fun _ h _=>h,fun T v hp ho=>k.own T v hp (h.own T v hp ho),k.b1∘h.b1,k.b2∘h.b2⟩
theorem De_.ofR (h:KeepR f size e N P r w w') (hr:r≠some b):De_ f size e N P r b c w w':=
 ⟨GrownS.of h.grown fun k hk=>.inl hk,h.own,fun hb=>hb.kept h.grown hr,fun⟨c0,hb⟩=>⟨c0,hb.kept h.grown hr⟩⟩
theorem De_.store (hg:w.grownBy w' (some b)) (hb:BoxAt w' b c) (hN:b<N):De_ f size e N P r b c w w':=
 ⟨GrownS.of hg fun k hk=>.inr (by cases hk;rfl),fun T v _ ho=>ho.kept hg fun k hk e=>by have h1:=(ho.lt k hk).1;cases e;omega,fun _=>hb,fun _=>⟨c,hb⟩⟩
theorem De_.blk {g:Nat} {cs:Array Value} (h:De_ f size e N P r b c w w') (hb:Blk w g cs) (hg:r≠some g) (hb':g≠b):Blk w' g cs:=hb.keptS h.grown fun hs=>hs.elim hg hb'
end
theorem RpS.fin {w0 w w' w'':World} {c:Cfg} {t:List Int} {vq:Value} {L:List OpR} {G':RcG} {K':CluM} {vl vl':Value} {rs xs:List Rep} (h:RpS w0 c t vq L w' G' K' vl rs) {N b:Nat} (hN:∀i,ownF vl i→i<N) (hN0:w0.heap.size≤N) (hbl:b<w0.heap.size) (hx:∀x∈xs,RepRd w' x) (hb:∀x∈xs,∀i,repBl x i→N≤i) (hox:∀x∈xs,Off (repBl x) G'.F)
  (ho:Own repF 7 26 w0.heap.size w'' vl' (rs++xs)) (gS:GrownS (fun i=>vl.ownBlock=some i∨i=b) w' w'') (hL:Lies vl vl' w'.heap.size):RClu w'' G' c t K'∧Jr_ w0.heap.size w'' vl' (rs++xs)∧Off (I6_ vl' (rs++xs)) G'.F:=by
 have hlo:∀i,ownF vl i→w0.heap.size≤i:=fun i hi=>(h.out.own.lt i hi).1
 have hnew:∀i,ownF vl' i→ownF vl i∨w'.heap.size≤i:=fun i hi=>by
  rcases hL with e |⟨m,e1,e2⟩
  ·left;unfold ownF at hi ⊢;rw[←e];exact hi
  ·right;unfold ownF at hi;rw[e1] at hi;cases hi;exact e2
 have hcl:=h.clu.low
 have hxl:∀x∈xs,Low w' (repBl x):=fun x hm=>repK.low (hx x hm)
 refine⟨h.clu.keptS gS fun i hi hs=>hs.elim (fun e=>h.o2 i (.inl e) hi) fun e=>by have:=h.hi i hi;omega,⟨ho,fun x hm=>?_⟩,fun i hi hf=>?_⟩
 ·rcases ma_ hm with hm|hm
  ·obtain⟨a1,a2,a3⟩:=h.out.all x hm
   refine⟨repK.keep a1 gS fun i hi hs=>hs.elim (fun e=>a3 i e hi) fun e=>by have:=a2 i hi;omega,a2,fun k hk hi=>?_⟩
   rcases hnew k hk with e|e
   ·exact a3 k e hi
   ·have:=repK.low a1 k hi;omega
  ·refine⟨repK.keep (hx x hm) gS fun i hi hs=>?_,fun i hi=>lt_ hN0 (hb x hm i hi),fun k hk hi=>?_⟩
   ·have h2:=hb x hm i hi
    rcases hs with e|e
    ·have:=hN i e;omega
    ·omega
   ·rcases hnew k hk with e|e
    ·have:=hN k e;have:=hb x hm k hi;omega
    ·have:=hxl x hm k hi;omega
 ·rcases hi with hi |⟨x,hm,hi⟩
  ·rcases hnew i hi with e|e
   ·exact h.o2 i (.inl e) hf
   ·have:=hcl i hf;omega
  ·rcases ma_ hm with hm|hm
   ·exact h.o2 i (.inr ⟨x,hm,hi⟩) hf
   ·exact hox x hm i hi hf
end
section
open Go.RowKit Go.Sort
attribute [local go_sem ↓] Ag_
attribute [local go_sem] Ah_
def eq_ (w:World) (e:Ending) (w':World):Prop:=
 ∃(c:Cfg) (lc:List (Int×Int)) (t:List Int) (K:CluM) (vl vi:Value) (rs:List Rep),e=.returned (.tuple #[c.val,vl,vi])∧CfgNums c∧Nums0 c∧CfgMem c lc t w'∧ClsFit c lc∧Jr_ w.heap.size w' vl rs∧rs.length≤200000000∧Fq_ c t rs∧ReachK c t K∧CluOk c K 5000000∧Own itF 3 41 w.heap.size w' vi K.items∧Off (ownF vi) (I6_ vl rs)∧w.grownBy w' none∧(∀i,ownF c.Table i→w.heap.size≤i∧i<w'.heap.size)
theorem Q6_ (dv ov:Value) (xs ys:List Int) (n m:Nat) (w:World) (hd:Rd w 1 dv n (xs.map (fun x=>Value.int .i64 x))) (ho:Rd w 1 ov m (ys.map (fun x=>Value.int .i64 x))) :
  Calls Tryz.prog 7 #[dv,ov] w (eq_ w):=by
 have HD:=hh_ hd;have HO:=hh_ ho;obtain⟨da,dc,rfl⟩:=hd.shape;obtain⟨oa,oc,rfl⟩:=ho.shape;clear hd ho
 go_enter Tryz.func7,Tryz.ntmps7
 go_upto_region 1 with(refine Cw_ rfl rfl ?_;intro wa B4 Ga za)
 have HD1:=hh_ (Rd.same HD.out Ga);have HO1:=hh_ (Rd.same HO.out Ga);clear HD HO
 go_upto_region 2 with(first
  |(go_at_call 17;refine(d3_ _ _ _ _ HD1.out).mono ?_;rintro e w1 ⟨rfl,D1,G1⟩)
  |(go_at_call 18;refine(Sr_ _ _ D1 (Nat.le_refl _)).mono ?_;rintro e w2 ⟨c,lc,t,rfl,N2,M2,D2,G2,T2,C2,Z2,F2⟩;have oc1:=M2.one1;have oc2:=M2.one2;replace G2:=Af_ G1 G2 (Nat.le_refl _);have hz12:=G1.size)
  |(refine Cw_ rfl rfl ?_;intro w3 B3 G3 z3)
  |(refine Ct_ rfl _ _ rfl _ rfl c rfl oc1 oc2 Cfg.zero B3 ?_;intro w5 B7 G5))
 have M5:=M2.same (Af_ G3 G5 (Nat.le_refl _));have hw2:w.heap.size<w2.heap.size:=Nat.lt_of_lt_of_le za G2.size;have H5:w.grownBy w5 none:=Af_ (Aa_ Ga (Aa_ G2 G3)) G5 (Nat.le_of_lt hw2);have B45:=(B4.same (Aa_ G2 G3)).kept G5 (by simp;omega);have HO5:=hh_ (Rd.same HO1.out (Af_ (Aa_ G2 G3) G5 G2.size))
 have htl:∀i,ownF c.Table i→w.heap.size<i∧i<w5.heap.size:=fun i hi=>⟨by
  obtain⟨a,cp,e⟩:=M2.table.shape;rw[e] at hi
  cases a with
  | none=>cases hi
  | some ad=>cases hi;have:=T2 _ _ _ e;omega,Nu_ M5.table (by rw[M5.tlen];decide) i hi⟩
 have Hcls:=hh_ (show 0<lc.length→∀a i m,c.Classes=.slice (some a) i m→w.heap.size<a.block∧a.block<w5.heap.size from fun h0 a i m e=>⟨by have:=C2 _ _ _ e;omega,M5.classes.blockLt h0 _ _ _ e⟩);have hb7:=B7.lt;clear M2 D1 D2 G1 G2 G3 G5 B3 B4 Ga T2 C2 HD1 HO1 z3 hz12;generalize w2.heap.size=b7 at *;have HN2:=hh_ N2;have HM5:=hh_ M5;have HF2:=hh_ F2;have HZ2:=hh_ Z2;have HH5:=hh_ H5;have HB7:=hh_ B7;have HB45:=hh_ B45;have Htl:=hh_ htl;have CN:=hh_ (b7_ c lc t w5 N2 M5 F2);clear N2 M5 F2 Z2 H5 htl
 go_upto_region 3 with(first |(refine Al_ rfl _ rfl _ rfl c B7 ?_) |(go_at_call 19;refine CN.out.mono ?_;rintro e w6 ⟨G,rfl,hC,hi,g6⟩))
 have HCl:=hh_ hC;have Hhi:=hh_ hi;have Hg6:=hh_ g6;have B76:=B7.same g6;have HO6:=hh_ (Rd.same HO5.out g6);have hz56:=g6.size;clear hC hi g6 HO5 B7 B45 CN
 go_upto_region 4 with fail
 have KN:World.grownBy w6 w6.drew none:=gw_;have B7d:=B76.same KN;have HOd:=hh_ (Rd.same HO6.out KN);have HKN:=hh_ KN;clear KN HO6 B76;refine wp_region_any (by kernel_rfl) ?_
 (refine Tail.take_put 5 30 (.int .i64 0) rfl rfl (by kernel_rfl) (by kernel_rfl) (by kernel_rfl) (fun _ _ _ h=>h) (Or.inl ⟨by rfl,fun w=>?_⟩) ?_;· go_simp);simp only[List.setIfInBounds_toArray,List.set_cons_zero,List.set_cons_succ]
 (refine Rg.wpAny_rg 3 #[] #[false,false,false,false,false,true] (fun w w'=>World.grownBy w w' none) (fun j _ w v w'=>match j with | 1=>(v=.pointer (some ⟨w.heap.size,0,none⟩)∧Deck w'.heap.size w' w.heap.size)∧World.grownBy w w' none | _=>False) (by kernel_rfl) (by kernel_rfl) rfl (by kernel_rfl) (by simp only[Rg.tailL,List.drop];decide) (fun w=>Ab_ w none) (fun _ _ _ h k=>Aa_ h k) (fun _ _ _ _ _ h=>h) ?_;simp only[List.take,List.drop,Rg.tailL];simp (decide:=true) only[if_true,if_false])
 (refine tq_ 1 ?_;simp only[ts_,Nat.reduceAdd];(repeat(go_big_quiet_step (fail)));refine wpQuiet_nil ?_)
 (refine Rg.tree_call rfl rfl rfl ?_;intro x1 mx1 dx1;refine⟨?_,?_⟩;· (unfold Rg.callSpec;go_simp;(refine(d3_ _ _ _ _ (Rd.same HOd.out mx1)).mono ?_;rintro e w' ⟨rfl,h1,h2⟩;exact⟨_,rfl,⟨rfl,h1⟩,h2⟩)))
 have hzx1:=mx1.size;clear dx1;rintro v1 y1 ⟨⟨rfl,D1⟩,g1⟩;refine⟨g1,?_⟩;simp only[pt_]
 (refine Rg.tree_op rfl rfl ?_;intro x2 mx2 dx2)
 clear dx2;have BX:=B7d.same mx2
 go_wp2_with (refine Al_ rfl _ rfl _ rfl c BX ?_)
 refine⟨Ab_ _ _,?_⟩;clear BX
 (refine Rg.tree_nil ?_;intro z mz dz cz)
 have Dz:=D1.kept (dz.out 1 (by omega)) (by simp);have hyz:=(dz.out 1 (by omega)).size;have HKz:=hh_ (Aa_ HKN.out mz);have HCz:=hh_ (HCl.out.same HKz.out);have CO:=hh_ (do_ x1.heap.size c 14 z Dz hyz (by omega) HZ2.out.length);have hxz:w6.heap.size≤x1.heap.size:=lt_ HKN.out.size hzx1;have hxzz:w6.heap.size≤z.heap.size:=HKz.out.size;clear mx1 g1 mx2 mz dz cz D1 Dz HOd B7d hzx1 hyz
 go_upto_region 5 with(go_at_call 20;refine CO.out.mono ?_;rintro e w8 ⟨vq,L,rfl,hO,hE,hLl,hD8,g8⟩;obtain⟨qa,qc,rfl⟩:=hO.own.shape)
 obtain⟨hq1,hq2⟩:=hO.q;have R0:RpS w5 c t (.slice qa L.length qc) L w8 G (newK c.Shards.toNat) (.slice none 0 0) []:=⟨HCz.out.keptS (GrownS.of (S:=fun i=>some x1.heap.size=some i) g8 fun k e=>e) fun i hi e=>by cases e;have:=HCl.out.low _ hi;omega,Hhi.out,hq1.base (lt_ hz56 hxzz),fun i hi hf=>by have:=hq2 i hi;have:=HCl.out.low i hf;omega,Bo_.nil _ _,fun i hi=>by rcases hi with hi |⟨_,hx,_⟩;exact absurd hi (Ax_ i);simp at hx,fun i _ hi=>by rcases hi with hi |⟨_,hx,_⟩;exact absurd hi (Ax_ i);simp at hx,Af_ (Aa_ Hg6.out HKz.out) g8 (by omega)⟩;have HR0:=hh_ R0;have HE:=hh_ hE
 have hL15:L.length≤15:=by have:=hLl.2;omega
 have hgg:∃g0,G.g=g0:=⟨_,rfl⟩;obtain⟨g0,hg0⟩:=hgg;have Hg0:=hh_ hg0;rw[hg0];clear R0 hq1 hq2 hO hE hLl hD8 g8 CO HCz HKz HKN hxz hxzz hg0 HCl Hhi;clear hz56
 go_loopw [10,30] (fun s10 s30 wk=>∃(k:Nat) (G':RcG) (K':CluM) (rs:List Rep),k≤L.length∧s30=.int .i64 k∧RpS w5 c t (.slice qa L.length qc) L wk G' K' s10 rs∧G'.g=g0∧CluOk c K' (266240*k)∧ReachK c t K'∧Fq_ c t rs∧rs.length≤10000000*k) (fun _ s30 _=>L.length-(RowKit.intOf s30).toNat)
 case atStart=>exact⟨0,G,_,[],Nat.zero_le _,rfl,HR0.out,Hg0.out,as_ HN2.out,.new,fun r hr=>by simp at hr,Nat.zero_le _⟩
 case round=>
  clear HR0 Hg0;obtain⟨k,G',K',rs,hk,rfl,hR,hg,hO,hK,hrs,hrl⟩:=hrel
  by_cases hlt:k<L.length
  ·have HR:=hh_ hR
   have HO:=hh_ hO;have HK:=hh_ hK;have Hrs:=hh_ hrs;obtain⟨gq,oq,hv,_,hgq,_,hcq,_⟩:=hR.ops.own.at_ Ef_ hlt;cases hv;have hor:=hR.ops.rd _ (mg_ hlt);have hoe:=HE.out _ (mg_ hlt);have Hc:=hh_ (show ∀j v,(opF (L[k]))[j]?=some v→wr.cell? ⟨gq,k*6+j,none⟩=some v from hcq)
   have hklt :(k:Int)<(L.length:Int):=by omega
   clear hR hO hK hrs hcq;generalize L[k]=o at *;obtain⟨kd,vd,tm,sd,ky,vp,d,q⟩:=o;obtain⟨⟨da',dc',e1⟩,⟨pa,pc,e2⟩⟩:=hor.shapes;dsimp only at *;subst e1 e2;have Hor:=hh_ hor;obtain⟨_,hlong,hrange⟩:=Hm_.1 hoe
   have hdl:d.length≤4096:=by simp[longB] at hlong;omega
   have htm:¬badT tm:=by
    simp only[rangeB,Bool.and_eq_true,ck_] at hrange;unfold badT;omega
   have htm2:0≤tm∧tm≤1099511627776:=by unfold badT at htm;omega
   clear hor hoe hlong hrange
   go_upto_region 7 with(first
    |(refine Qj_ rfl _ rfl _ _ rfl Hc.out ?_)
    |(refine X5_ rfl rfl ?_;intro wa' Aa ga za')
    |(refine Wr_ rfl _ _ rfl _ rfl rfl rfl rfl _ rfl Aa ?_;intro wb Ab gb))
   have gab:=Af_ ga gb (Nat.le_refl _);have ab:=Ab.cell;have HRb:=hh_ (HR.out.same gab);have Hdat:=hh_ (Hor.out.data.same gab)
   have hNk:266240*k+65*d.length≤266240*(k+1):=by omega
   have hNb:266240*k<4000000:=by omega
   clear ga gb gab Aa Ab za' HR Hc Hor;have HCF:=hh_ (HRb.out.cfg HN2.out HM5.out fun i hi=>(Htl.out i hi).2)
   by_cases h1:kd=1
   ·subst h1
    have CF:=Vs_ G' c t K' (266240*k) (.slice da' d.length dc') d wb HRb.out.clu HCF.out HO.out Hdat.out (by omega) (by omega);rw[hg] at CF;unfold Zm_ at CF;have CF:=hh_ CF
    go_wp2_with (go_at_call 21;refine CF.out.mono ?_;rintro e w9 ⟨G2,vo,rfl,FD⟩)
    have R9:=HRb.out.mov FD.clu FD.mov;have O9:=(X9_ (t:=t) HN2.out HO.out d).up hNk;have K9:=HK.out.feed HO.out.str d;exact⟨⟨k+1,_,_,rs,by omega,by go_num,R9,FD.g.trans hg,O9,K9,Hrs.out,by omega⟩,by simp[RowKit.intOf];omega⟩
   ·have e1 :(kd==1)=false:=beq_eq_false_iff_ne.2 h1
    by_cases h2:kd=2
    ·subst h2
     have CT:=Pf_ G' c t K' (266240*k) tm wb HRb.out.clu HCF.out HO.out (by omega) htm;rw[hg] at CT;unfold TickP at CT;have CT:=hh_ CT;clear e1 h1
     go_upto_region 12 with(go_at_call 22;refine CT.out.mono ?_;rintro e w9 ⟨G2,vw,ws,vo,xs',rfl,TD,TR⟩)
     have R9:=HRb.out.mov TD.clu TD.mov;have HR9:=hh_ R9;have HTD:=hh_ TD
     have hxl:xs'.length≤10000000:=by
      have h1:=TR.1;have h2:=(List.takeWhile_prefix (l:=K'.led.map (·.1)) (fun w=>decide (w<lowV c (max K'.mark tm)))).length_le;have h3:=HO.out.led;rw[List.length_map] at h2;have h4 :(low1 c (max K'.mark tm) (K'.led.map (·.1))).length≤K'.led.length:=h2
      omega
     have HTR:=hh_ (Os_ (HK.out.mark tm htm2) TR);obtain⟨xa,xc,rfl⟩:=TD.fr.out.own.shape;have hxr:=hh_ (fun x hx=>(TD.fr.out.all x hx).1)
     have hb1 :(rs.length+xs'.length)*88≤140737488355328:=by omega
     have hb2:rs.length+xs'.length≤9223372036854775807:=by omega
     have hbs:w5.heap.size≤w9.heap.size:=R9.grown.size;have HRx:=hh_ TD.fr.out.own.rd;clear TD TR R9 CT
     go_upto_region 13 with(at_builtin;refine c7_ L3_ (reps_one hxr.out) HR9.out.out.own HRx.out rfl hb1 hb2 hbs (by rfl) _ _ (by rfl) (by rfl) (by rfl) ?_;intro v7 w7 o7 g7 l7)
     have hz:=HRb.out.grown.size;have R7:=HR9.out.app (N:=wb.heap.size) (fun i hi=>HRb.out.out.own.low i hi) hz hxr.out (fun x hx i hi=>(HTD.out.fr.out.all x hx).2.1 i hi) (fun x hx i hi hf=>HTD.out.fr.o2 i (.inr ⟨x,hx,hi⟩) hf) (fun i hi=>HRb.out.ops.low i hi) o7 g7 l7;have HR7:=hh_ R7;have HG2:=hh_ (HTD.out.g.trans hg);have O7:=hh_ ((N9_ (t:=t) HN2.out.tier.cfg HO.out tm).up (show 266240*k≤266240*(k+1) by omega));have K7:=hh_ (HK.out.tick htm2);clear R7 o7 g7 l7 HRx hxr HR9 HTD
     go_wp2_with fail
     exact⟨⟨k+1,_,_,rs++xs',by omega,by go_num,HR7.out,HG2.out,O7.out,K7.out,Hrs.out.app HTR.out,by rw[List.length_append];omega⟩,by simp[RowKit.intOf];omega⟩
    ·have e2 :(kd==2)=false:=beq_eq_false_iff_ne.2 h2
     clear h1 h2
     go_wp2_with fail
     exact⟨⟨k+1,_,_,rs,by omega,by go_num,HRb.out,hg,HO.out.up (by omega),HK.out,Hrs.out,by omega⟩,by simp[RowKit.intOf];omega⟩
  ·have hkl:k≤15:=by omega
   have hO2:=hO.up (show 266240*k≤4000000 by omega);have HCF:=hh_ (hR.cfg HN2.out HM5.out fun i hi=>(Htl.out i hi).2);have CT:=Pf_ G' c t K' 4000000 1099511627776 wr hR.clu HCF.out hO2 (by omega) (by unfold badT;omega);rw[hg] at CT;unfold TickP at CT;have CT:=hh_ CT;have HR:=hh_ hR;have HO:=hh_ hO2;have HK:=hh_ hK;have Hrs:=hh_ hrs
   have hrl2:rs.length≤150000000:=by omega
   clear hR hO hO2 hK hrs hrl hk
   go_upto_region 15 with(go_at_call 22;refine CT.out.mono ?_;rintro e w9 ⟨G2,vw,ws,vo,xs',rfl,TD,TR⟩)
   have R9:=HR.out.mov TD.clu TD.mov
   have hxl:xs'.length≤10000000:=by
    have h1:=TR.1;have h2:=(List.takeWhile_prefix (l:=K'.led.map (·.1)) (fun w=>decide (w<lowV c (max K'.mark 1099511627776)))).length_le;have h3:=HO.out.led;rw[List.length_map] at h2;have h4 :(low1 c (max K'.mark 1099511627776) (K'.led.map (·.1))).length≤K'.led.length:=h2
    omega
   have HTR:=hh_ (Os_ (HK.out.mark 1099511627776 (by omega)) TR);have HTD:=hh_ TD;obtain⟨xa,xc,rfl⟩:=TD.fr.out.own.shape
   have hb1 :(rs.length+xs'.length)*88≤140737488355328:=by omega
   have hb2:rs.length+xs'.length≤9223372036854775807:=by omega
   have hg9:=TD.g.trans hg;have KN:World.grownBy w9 w9.drew none:=gw_;have HRd:=hh_ (R9.same KN);have HTz:=hh_ (TD.same KN);have HKN:=hh_ KN;have HB7d:=hh_ (HB7.out.same HRd.out.grown);have hbs:w5.heap.size≤w9.drew.heap.size:=HRd.out.grown.size;obtain⟨r,hr⟩:∃r,u10.ownBlock=r:=⟨_,rfl⟩
   have hr5:∀k,r=some k→w5.heap.size≤k∧k<wr.heap.size:=fun k e=>HR.out.out.own.lt k (hr.trans e)
   have hr7:r≠some b7:=fun e=>by have:=hr5 _ e;omega
   have hrg:r≠some g0:=fun e=>HRd.out.o2 g0 (.inl (hr.trans e)) (by rw[←hg9];exact RcG.F_part (j:=0) (P:=oneF G2.g) rfl G2.g rfl)
   obtain⟨ia,ic,hvi⟩:=HRd.out.clu.core.it.shape;have Hvi:=hh_ hvi;have Hr:=hh_ hr;have HBk:=hh_ HRd.out.clu.blk;clear TD TR R9 CT KN hr hvi
   have hrb:r≠some w.heap.size:=fun e=>by have:=hr5 _ e;omega
   have hgb:g0≠w.heap.size:=fun e=>by have:=HRd.out.hi G2.g (RcG.F_part (j:=0) (P:=oneF G2.g) rfl G2.g rfl);omega
   have hb7b:b7≠w.heap.size:=by omega
   have hbN:w.heap.size<w5.heap.size:=by omega
   have HB4d:=hh_ (HB45.out.same HRd.out.grown)
   (refine Rg.wp_region_rgZ 11 #[] (De_ repF 7 26 w5.heap.size (fun T=>T=rs∨T=rs++xs') r w.heap.size c) (fun _ _ _ _ _=>False) (by kernel_rfl) (by kernel_rfl) (De_.refl _ _ _ _ _ _ _ _) (fun _ _ _ h k=>h.trans k) (fun _ _ _ _ _ h=>h) ?_;simp only[List.take,List.drop])
   generalize w9.drew=wd at *
   (refine Rg.tree_op rfl rfl ?_;intro y0 my0 dy0)
   clear dy0;have BX:=HB7d.out.keptS my0.grown (fun h=>h.elim hr7 hb7b)
   go_wp2_with (refine Al_ rfl _ rfl _ rfl c BX ?_)
   refine⟨De_.refl _ _ _ _ _ _ _ _ _,?_⟩;clear BX
   (refine tq_ 2 ?_;simp only[ts_,Nat.reduceAdd];(repeat(go_big_quiet_step (fail)));refine wpQuiet_nil ?_)
   (refine Rg.tree_op rfl rfl ?_;intro y3 my3 dy3)
   have O3:=my3.own _ _ (.inl rfl) HRd.out.out.own
   have R3:RdL repF 7 y3 (.slice xa xs'.length xc) xs':=(HTz.out.fr.out.own.keptS my3.grown fun g hg hs=>by
    have h2:=(HTz.out.fr.out.own.lt g hg).1;have h3:=HR.out.grown.size
    rcases hs with e|e
    ·have:=hr5 _ e;omega
    ·omega).rd
   have z3:=my3.grown.size;clear dy3
   go_wp2_with (at_builtin;refine Pj_ (P:=fun T=>T=rs∨T=rs++xs') L3_ (reps_one fun x hx=>(HTz.out.fr.out.all x hx).1) Gw_ O3 R3 rfl hb1 hb2 (lt_ hbs z3) (fun T e=>e.elim (fun e=>.inl (by rw[e];exact Nat.le_refl _)) (fun e=>.inr (.inl (by rw[e];exact List.prefix_refl _)))) (by rfl) _ _ (by rfl) (by rfl) (by rfl) ?_;intro v3 e3 o3 k3 l3;have Hk3:=hh_ k3;clear k3)
   rw[Hr.out] at Hk3;refine⟨De_.ofR Hk3.out hrb,?_⟩
   have L3:Lies u10 v3 wd.heap.size:=l3.imp id fun⟨m,e1,e2⟩=>⟨m,e1,lt_ z3 e2⟩
   obtain⟨a3,c3,rfl⟩:=o3.shape
   (refine tq_ 3 ?_;simp only[ts_,Nat.reduceAdd];(repeat(go_big_quiet_step (fail)));refine wpQuiet_nil ?_)
   (refine Rg.tree_op rfl rfl ?_;intro y7 my7 dy7)
   clear dy7;have bx:=(my7.blk HBk.out (by rw[hg9];exact hrg) (by rw[hg9];exact hgb)).cell;rw[hg9,Hvi.out] at bx
   go_wp2_with fail
   refine⟨De_.refl _ _ _ _ _ _ _ _ _,?_⟩;clear bx
   (refine Rg.tree_op rfl rfl ?_;intro y8 my8 dy8)
   clear dy8;obtain⟨c0,B8⟩:=my8.b2 ⟨_,HB4d.out⟩
   go_wp2_with (refine Ct_ rfl _ _ rfl _ rfl c rfl oc1 oc2 c0 B8 ?_;intro e8 B9 G9)
   refine⟨De_.store G9 B9 hbN,?_⟩
   try simp only[pt_]
   (refine tq_ 2 ?_;simp only[ts_,Nat.reduceAdd];(repeat(go_big_quiet_step (fail)));refine wpQuiet_nil ?_)
   (refine Rg.tree_nil ?_;intro z2 mz2 dz2 cz2)
   have OZ:=(dz2.out 3 (by omega)).own _ _ (.inr rfl) o3;have BZ:=(dz2.out 8 (by omega)).b1 B9;have gS:=mz2.grown;rw[←Hr.out] at gS;obtain⟨CZ,RZ,FZ⟩:=HRd.out.fin (w:=w) (N:=wr.heap.size) (xs:=xs') (fun i hi=>HR.out.out.own.low i hi) HR.out.grown.size hbN (fun x hx=>(HTz.out.fr.out.all x hx).1) (fun x hx i hi=>(HTz.out.fr.out.all x hx).2.1 i hi) (fun x hx i hi hf=>HTz.out.fr.o2 i (.inr ⟨x,hx,hi⟩) hf) OZ gS L3
   have hla :(rs++xs').length=rs.length+xs'.length:=by simp
   rw[hla] at RZ FZ;have HCZ:=hh_ CZ;have HRZ:=hh_ RZ;have HFZ:=hh_ FZ;have HBZ:=hh_ BZ;have HgS:=hh_ gS;clear my0 my3 my7 my8 mz2 dz2 cz2 OZ L3 o3 l3 Hk3 O3 R3 HTz HBk B8 B9 G9 CZ RZ FZ BZ gS
   go_wp2_with fail
   obtain⟨tb,fb,hbl,hba⟩:=HBZ.out.block;have L1:=run_loadVar_row (P:=Tryz.prog) z2 w.heap.size tb 31 _ fb _ hbl Tryz.underlying31 rfl Db_;refine bodyPost_ret (v:=.tuple #[c.val,.slice a3 (rs.length+xs'.length) c3,.slice ia (tickK c t K' 1099511627776).items.length ic]) (by simp[results,Tryz.results7,asAddr,L1,Cfg.val]) rfl ?_;have hz05:=HH5.out.size;have hz5z:w5.heap.size≤z2.heap.size:=lt_ hbs HgS.out.size
   have hS:∀i,(u10.ownBlock=some i∨i=w.heap.size)→w5.heap.size≤i∨i=w.heap.size:=fun i hs=>hs.imp (fun e=>(HR.out.out.own.lt i e).1) id
   have hIt:=HCZ.out.core.it
   have hvi4:∀i,ownF G2.vi i→w5.heap.size≤i:=fun i hi=>HRd.out.hi i (RcG.F_part (j:=4) (P:=ownF G2.vi) rfl i hi)
   have hItB:=hIt.base (fun k hk=>lt_ hz05 (hvi4 k hk));have hOf:Off (ownF G2.vi) (I6_ (.slice a3 (rs.length+xs'.length) c3) (rs++xs')):=HFZ.out.symm.left (RcG.F_part (j:=4) (P:=ownF G2.vi) rfl);rw[Hvi.out] at hItB hOf;refine⟨c,lc,t,_,_,_,rs++xs',rfl,HN2.out,HZ2.out,?_,HF2.out,HRZ.out.base hz05,by rw[hla];omega,Hrs.out.app HTR.out,HK.out.tick (by omega),(N9_ (t:=t) HN2.out.tier.cfg HO.out _).up (by omega),hItB,hOf,?_,fun i hi=>⟨Nat.le_of_lt (Htl.out i hi).1,by have:=(Htl.out i hi).2;omega⟩⟩
   ·refine CfgMem.keptS ((CfgMem.same HM5.out HRd.out.grown)) HgS.out (fun a i m e hs=>?_) (fun h0 a i m e hs=>?_)
    ·have:=Htl.out a.block (by rw[e];rfl)
     have:=hS _ hs;omega
    ·have:=Hcls.out h0 a i m e
     have:=hS _ hs;omega
   ·exact HgS.out.base (Aa_ HH5.out HRd.out.grown) fun i hs=>by have:=hS i hs;omega
end
section
open Go.RowKit
theorem Q2_ (n:Int) (k:Nat) (hk:k≤62):bits .and .i64 n (2 ^ k-1)=n%2 ^ k:=by
 have h2 :(BitVec.ofInt 64 (2 ^ k-1)).toNat=2 ^ k-1:=by
  have hp :(2:Nat) ^ k≤2 ^ 62:=Nat.pow_le_pow_right (by omega) hk;have h0:0<(2:Nat) ^ k:=Nat.two_pow_pos k;rw[BitVec.toNat_ofInt]
  have e :((2:Int) ^ k-1) =((2 ^ k-1:Nat):Int):=by rw[Int.natCast_sub h0];simp
  rw[e,show((2 ^ 64:Nat):Int)=18446744073709551616 by decide]
  omega
 have key :(BitVec.ofInt 64 n &&& BitVec.ofInt 64 (2 ^ k-1)).toNat =(n%((2 ^ 64:Nat):Int)).toNat%2 ^ k:=by
  rw[BitVec.toNat_and,BitVec.toNat_ofInt,h2,Nat.and_two_pow_sub_one_eq_mod]
 show IntKind.i64.wrap ((BitVec.ofInt 64 n &&& BitVec.ofInt 64 (2 ^ k-1)).toNat:Nat)=n%2 ^ k
 rw[key,IntKind.wrap_i64];have hp :(2:Nat) ^ k≤2 ^ 62:=Nat.pow_le_pow_right (by omega) hk;have h0:0<(2:Nat) ^ k:=Nat.two_pow_pos k
 have hdv :((2:Int) ^ k) ∣ ((2 ^ 64:Nat):Int):=by
  refine⟨2 ^ (64-k),?_⟩;rw[←Int.pow_add,show k+(64-k)=64 by omega];rfl
 have hmm:n%((2 ^ 64:Nat):Int)%2 ^ k=n%2 ^ k:=Int.emod_emod_of_dvd n hdv;have hn:0≤n%((2 ^ 64:Nat):Int):=Int.emod_nonneg _ (by decide)
 have e2 :(((n%((2 ^ 64:Nat):Int)).toNat%2 ^ k:Nat):Int)=n%2 ^ k:=by
  rw[Int.natCast_emod,Int.toNat_of_nonneg hn];rw[←hmm];simp
 rw[e2];have b1:=Int.emod_nonneg n (show(2:Int) ^ k≠0 by have :(0:Int)<2 ^ k:=Int.pow_pos (by omega);omega);have b2:=Int.emod_lt_of_pos n (show(0:Int)<2 ^ k from Int.pow_pos (by omega))
 have b3 :(2:Int) ^ k≤4611686018427387904:=by
  have :(((2:Nat) ^ k:Nat):Int)≤((2 ^ 62:Nat):Int):=Int.ofNat_le.2 hp
  simpa using this
 omega
end
section
open Go.RowKit Go.Sort
def O2_ (r:Rep) (w:World) (e:Ending) (w':World):Prop:=
 ∃x:Rep,e=.returned (repV x.win x.tot x.vl x.over x.trk x.rest x.vr)∧RepRd w' x∧RepW x∧x.lines.length≤r.lines.length∧x.rej.length=r.rej.length∧w.grownBy w' none
structure SpE4 (r:Rep) (w0:World) (B br rb:Nat) (w:World) (x:Rep):Prop where
 A:Blk w br (repA x.win x.tot x.vl x.over x.trk x.rest x.vr)
 C:Blk w rb rep0
 rd:RepRd w x
 fl:From B x.vl
 jl:0<x.rej.length→∀a n c,x.vr=.slice (some a) n c→a.block<w0.heap.size
 W:RepW x
 G:w0.grownBy w none
 lo:w0.heap.size≤rb
 hi:rb<B
 n3:x.lines.length≤r.lines.length
 nj:x.rej.length=r.rej.length
theorem SpE4.fin {r:Rep} {w0:World} {B br rb:Nat} {w w':World} {x:Rep} (h:SpE4 r w0 B br rb w x) (hg:w.grownBy w' (some rb)):O2_ r w0 (.returned (repV x.win x.tot x.vl x.over x.trk x.rest x.vr)) w':=
 ⟨x,rfl,⟨h.rd.lines.keptFrom h.fl hg h.hi,h.rd.rej.kept0 hg fun h0 b e a n c hv=>by cases e;have:=h.jl h0 a n c hv;have:=h.lo;omega,h.rd.lcap,h.rd.rcap⟩,h.W,h.n3,h.nj,Af_ h.G hg h.lo⟩
structure Sp4 (w0:World) (B br rb:Nat) (w:World) (x:Rep):Prop where
 A:Blk w br (repA x.win x.tot x.vl x.over x.trk x.rest x.vr)
 C:Blk w rb rep0
 ol:Own lnF 3 46 B w x.vl x.lines
 oj:RdL wordF 1 w x.vr x.rej
 jl:0<x.rej.length→∀a n c,x.vr=.slice (some a) n c→a.block<w0.heap.size
 jc:∀a n c,x.vr=.slice a n c→n≤c
 W:RepW x
 G:w0.grownBy w none
 lb:w0.heap.size≤br
 lo:w0.heap.size≤rb
 hi:rb<B
 hb:br<B
 ne:br≠rb
theorem Sp4.e {r:Rep} {w0:World} {B br rb:Nat} {w:World} {x:Rep} (h:Sp4 w0 B br rb w x) (n3:x.lines.length≤r.lines.length) (nj:x.rej.length=r.rej.length):SpE4 r w0 B br rb w x:=
 ⟨h.A,h.C,⟨h.ol.rd,h.oj,h.ol.capOk,h.jc⟩,h.ol.from_,h.jl,h.W,h.G,h.lo,h.hi,n3,nj⟩
theorem Sp4.set {w0:World} {B br rb:Nat} {w:World} {x:Rep} (h:Sp4 w0 B br rb w x) (y:Rep) (i:Nat) (v:Value) (e :(repA x.win x.tot x.vl x.over x.trk x.rest x.vr).setIfInBounds i v=repA y.win y.tot y.vl y.over y.trk y.rest y.vr)
  (ol:Own lnF 3 46 B w y.vl y.lines) (oj:RdL wordF 1 w y.vr y.rej) (jl:0<y.rej.length→∀a n c,y.vr=.slice (some a) n c→a.block<w0.heap.size) (jc:∀a n c,y.vr=.slice a n c→n≤c) (hW:RepW y):Sp4 w0 B br rb (w.setCell ⟨br,i,none⟩ v) y:=by
 have hg:=Ac_ (Ab_ w (some br)) i v;have hb:=h.hb;have hlb:=h.lb;exact⟨h.A.set_ i v e,h.C.kept hg (by simp;exact h.ne),ol.kept hg (fun k hk e=>by cases e;have:=(ol.lt _ hk).1;omega),oj.kept0 hg (fun h0 k e a n c hv=>by cases e;have:=jl h0 a n c hv;omega),jl,jc,hW,Aj_ (p:=⟨br,i,none⟩) h.G h.lb v,h.lb,h.lo,h.hi,h.hb,h.ne⟩
theorem Sp4.drewN {w0:World} {B br rb:Nat} {w:World} {x:Rep} (h:Sp4 w0 B br rb w x) (k:Nat):Sp4 w0 B br rb (w.drewN k) x:=by
 have g:=Ae_ (Ab_ w none) k;exact⟨h.A.same g,h.C.same g,h.ol.same g,RdL.same h.oj g,h.jl,h.jc,h.W,Ae_ h.G k,h.lb,h.lo,h.hi,h.hb,h.ne⟩
theorem Sp4.line {w0:World} {B br rb:Nat} {w:World} {x:Rep} (h:Sp4 w0 B br rb w x) {gl n cap:Nat} (hv:x.vl=.slice (some ⟨gl,0,none⟩) n cap) {i j:Nat} (hi:i<x.lines.length) (hj:j<3) (u:Value) (y:Ln) (hy:lnF y =(lnF x.lines[i]).set j u) (hw:LnW y) :
  Sp4 w0 B br rb (w.setCell ⟨gl,i*3+j,none⟩ u) ⟨x.win,x.tot,x.vl,x.over,x.trk,x.rest,x.vr,x.lines.set i y,x.rej⟩:=by
 have ho:=h.ol;rw[hv] at ho;have hl:=ho.lt gl rfl;have hb:=h.hb;have hr:=h.hi;have hlb:=h.lb;obtain⟨st,hg⟩:=ho.stored Av_ hi hj u y hy;refine⟨h.A.kept hg (by simp;omega),h.C.kept hg (by simp;omega),by rw[hv];exact st,h.oj.kept0 hg (fun h0 k e a n c hv=>by cases e;have:=h.jl h0 a n c hv;omega),h.jl,h.jc,⟨h.W.win,h.W.tot,h.W.over,h.W.trk,h.W.rest,fun z hz=>?_,h.W.rej⟩,Aj_ (p:=⟨gl,i*3+j,none⟩) h.G (by simp only;omega) _,h.lb,h.lo,h.hi,h.hb,h.ne⟩
 rcases List.mem_or_eq_of_mem_set hz with h1|h1
 ·exact h.W.lines z h1
 ·rw[h1];exact hw
theorem wrapW4 (n:Int):W64 (IntKind.u64.wrap n):=by have:=IntKind.wrap_u64 n;unfold W64;rw[this];omega
theorem eo_ {xx:Ln} (x:Ln) (h:x=xx) (k:Int):lnF ⟨xx.key,k,xx.hi⟩ =(lnF x).set 1 (.int .u64 k):=by subst h;rfl
theorem O1_ (n:Int):I64 (wrap64 n):=by unfold wrap64 I64;omega
theorem ee_ (n k:Int):W64 (bits .and .u64 n k):=wrapW4 _
theorem Ta_ (x:Rep) (at_ n:Int) (w:World) (hR:RepRd w x) (hW:RepW x) (hl:x.lines.length≤100000) :
  Calls Tryz.prog 10 #[repV x.win x.tot x.vl x.over x.trk x.rest x.vr,.int .i64 at_,.int .u64 n] w (O2_ x w):=by
 have HR:=hh_ hR;have HW:=hh_ hW;obtain⟨win,tot,vl,over,trk,rest,vr,ls,rj⟩:=x;obtain⟨la,lc,e1⟩:=hR.lines.shape;obtain⟨ja,jc,e2⟩:=hR.rej.shape;dsimp only at *;subst e1 e2;clear hR hW;have ha7:bits .and .i64 at_ 7=at_%8:=Q2_ at_ 3 (by omega);have ha8:bits .and .i64 (at_/8) 7=at_/8%8:=Q2_ _ 3 (by omega)
 go_enter Tryz.func10,Tryz.ntmps10
 go_upto_region 1 with fail
 have A1:=(Blk.new w (repA win tot (.slice la ls.length lc) over trk rest (.slice ja rj.length jc)) 26).same (ga_ _ (.cells rep0 26) none);have C1:=Blk.new' (w.alloc (.cells (repA win tot (.slice la ls.length lc) over trk rest (.slice ja rj.length jc)) 26)) rep0 26 (g:=w.heap.size+1) (by simp);have G1:=Ad_ (Ad_ (Ab_ w none) (.cells (repA win tot (.slice la ls.length lc) over trk rest (.slice ja rj.length jc)) 26)) (.cells rep0 26)
 have z1 :((w.alloc (.cells (repA win tot (.slice la ls.length lc) over trk rest (.slice ja rj.length jc)) 26)).alloc (.cells rep0 26)).heap.size=w.heap.size+2:=by simp
 generalize (w.alloc (.cells (repA win tot (.slice la ls.length lc) over trk rest (.slice ja rj.length jc)) 26)).alloc (.cells rep0 26)=w1 at *;obtain⟨br,hbr⟩:∃br,w.heap.size=br:=⟨_,rfl⟩;obtain⟨rb,hrb⟩:∃rb,w.heap.size+1=rb:=⟨_,rfl⟩;obtain⟨B,hB⟩:∃B,w1.heap.size=B:=⟨_,rfl⟩;rw[hrb] at C1 ⊢;rw[hbr] at A1 ⊢
 have hbB:br<B:=by omega
 have hrB:rb<B:=by omega
 have hne:br≠rb:=by omega
 have hlo:w.heap.size≤rb:=by omega
 have hlb:w.heap.size≤br:=by omega
 have HB:=hh_ hB;clear hbr hrb z1 hB
 have hml:ls.length*32≤140737488355328:=by omega
 have hml2:ls.length≤9223372036854775807:=by omega
 have R1:=hh_ (RdL.same HR.out.lines G1);have A1b:=A1.same (ga_ w1 (.cells #[] 46) none);have N1:=Aw_ (e:=46) lnF 3 (Nat.le_refl w1.heap.size);have RL:=RdL.same R1.out (ga_ w1 (.cells #[] 46) none);have ab:=A1b.cell;have tok:=hh_ hml
 go_upto_region 2 with(at_builtin;have _t:=tok;refine A2_ Fl_ Fj_ N1 RL rfl hml hml2 (by simp) (by rfl) _ _ (by rfl) (by rfl) (by rfl) ?_;intro v2 w2 o2 g2 l2;clear tok ab;have A2:=A1b.same g2;have C2:=(C1.same (ga_ w1 (.cells #[] 46) none)).same g2;have K2:=Aa_ (ga_ w1 (.cells #[] 46) none) g2;clear A1b N1 RL g2 l2;have f2:=A2.free;have a2:=A2.cell;obtain⟨la2,lc2,rfl⟩:=o2.shape)
 have o2':Own lnF 3 46 B w2 (.slice la2 ls.length lc2) ls:=HB.out▸o2;have gs:=Ac_ (Ab_ w2 (some br)) 2 (.slice la2 ls.length lc2);have HWo:=HW.out
 have S0:Sp4 w B br rb (w2.setCell ⟨br,2,none⟩ (.slice la2 ls.length lc2)) ⟨win,tot,.slice la2 ls.length lc2,over,trk,rest,.slice ja rj.length jc,ls,rj⟩:=
  ⟨A2.set_ 2 (.slice la2 ls.length lc2) rfl,C2.kept gs (by simp;exact hne),o2'.kept gs (fun k hk e=>by cases e;have:=(o2'.lt _ hk).1;omega),
   (RdL.same HR.out.rej (Aa_ G1 K2)).kept0 gs (fun h0 k e a n' c hv=>by cases e;have:=(HR.out.rej.blockLt h0 _ _ _ hv);omega),fun h0 a n c hv=>HR.out.rej.blockLt h0 a n c hv,HR.out.rcap,⟨HWo.win,HWo.tot,HWo.over,HWo.trk,HWo.rest,HWo.lines,HWo.rej⟩,Aj_ (p:=⟨br,2,none⟩) (Aa_ G1 K2) hlb _,hlb,hlo,hrB,hbB,hne⟩
 generalize w2.setCell ⟨br,2,none⟩ (.slice la2 ls.length lc2)=w5 at *;clear f2 a2 gs A2 C2 o2 o2' A1 C1 K2 HWo R1 G1 HR;obtain⟨r0,hr0⟩:∃r0:Rep,(⟨win,tot,.slice la ls.length lc,over,trk,rest,.slice ja rj.length jc,ls,rj⟩:Rep)=r0:=⟨_,rfl⟩
 have hq1:rj.length=r0.rej.length:=by rw[←hr0]
 have hq2:ls.length≤r0.lines.length:=by rw[←hr0];exact Nat.le_refl _
 have HW0:=HW.out;have Hr0:=hh_ hr0;have Hq1:=hh_ hq1;clear HW HB hr0 hq1
 go_upto_region 4 with fail
 obtain⟨i,hi⟩:∃i:Nat,at_/8%8=i:=⟨(at_/8%8).toNat,by omega⟩;rw[hi];obtain⟨r,hr⟩:∃r,at_%8=r:=⟨_,rfl⟩;rw[hr]
 have hr8:r=0∨r=1∨r=2∨r=3∨r=4∨r=5∨r=6∨r=7:=by omega
 have hi0 :(0:Int)≤(i:Int):=by omega
 clear ha7 ha8 hi hr;obtain⟨m3,h3⟩:∃q,bits .and .u64 n 3=q:=⟨_,rfl⟩;obtain⟨m6,h6⟩:∃q,bits .and .u64 n 63=q:=⟨_,rfl⟩;have hm6:W64 m6:=h6▸ee_ n 63;have a5:=S0.A.cell;have f5:=S0.A.free
 rcases hr8 with rfl|rfl|rfl|rfl|rfl|rfl|rfl|rfl
 ·go_upto_region 6 with fail
  have S1:=S0.set ⟨win,IntKind.u64.wrap (tot+m3),.slice la2 ls.length lc2,over,trk,rest,.slice ja rj.length jc,ls,rj⟩ 1 (.int .u64 (IntKind.u64.wrap (tot+m3))) rfl S0.ol S0.oj S0.jl S0.jc ⟨HW0.win,wrapW4 _,HW0.over,HW0.trk,HW0.rest,HW0.lines,HW0.rej⟩;have hT:=wrapW4 (tot+m3);generalize w5.setCell ⟨br,1,none⟩ (.int .u64 (IntKind.u64.wrap (tot+m3)))=w6 at *;generalize IntKind.u64.wrap (tot+m3)=T2 at *;clear S0 a5 f5;have a5:=S1.A.cell;have f5:=S1.A.free
  go_upto_region 23 with fail
  have S2:=S1.set ⟨win,T2,.slice la2 ls.length lc2,IntKind.u64.wrap (over+m3),trk,rest,.slice ja rj.length jc,ls,rj⟩ 3 (.int .u64 (IntKind.u64.wrap (over+m3))) rfl S1.ol S1.oj S1.jl S1.jc ⟨HW0.win,hT,wrapW4 _,HW0.trk,HW0.rest,HW0.lines,HW0.rej⟩;have hE:=S2.e (r:=r0) hq2 Hq1.out;generalize w6.setCell ⟨br,3,none⟩ (.int .u64 (IntKind.u64.wrap (over+m3)))=w7 at *;generalize IntKind.u64.wrap (over+m3)=O2 at *;clear S1 S2 a5 f5;have hA:=(hE).A;have hC:=(hE).C;dsimp only at hA hC
  go_wp2_with (first
   |(refine A0_ rfl _ rfl _ rfl hA ?_)
   |(refine A3_ rfl _ _ rfl _ rfl rfl rfl rfl _ rfl hC ?_;intro wz Cz Gz))
  (try simp only[pt_])
  have hF:=(hE).fin Gz;obtain⟨td,hbd⟩:=Cz.blk;have L2:=run_loadVar_row (P:=Tryz.prog) wz rb td 26 _ _ _ hbd Tryz.underlying26 rfl (by kernel_rfl);refine bodyPost_ret (v:=repV win T2 (.slice la2 ls.length lc2) O2 trk rest (.slice ja rj.length jc)) (by simp[results,Tryz.results10,asAddr,L2]) rfl ?_;rw[←Hr0.out] at hF;exact hF
 ·go_upto_region 23 with fail
  have S1:=S0.set ⟨win,tot,.slice la2 ls.length lc2,over,trk,m6,.slice ja rj.length jc,ls,rj⟩ 5 (.int .u64 m6) rfl S0.ol S0.oj S0.jl S0.jc ⟨HW0.win,HW0.tot,HW0.over,HW0.trk,hm6,HW0.lines,HW0.rej⟩;have hE:=S1.e (r:=r0) hq2 Hq1.out;generalize w5.setCell ⟨br,5,none⟩ (.int .u64 m6)=w6 at *;clear S0 S1 a5 f5;have hA:=(hE).A;have hC:=(hE).C;dsimp only at hA hC
  go_wp2_with (first
   |(refine A0_ rfl _ rfl _ rfl hA ?_)
   |(refine A3_ rfl _ _ rfl _ rfl rfl rfl rfl _ rfl hC ?_;intro wz Cz Gz))
  (try simp only[pt_])
  have hF:=(hE).fin Gz;obtain⟨td,hbd⟩:=Cz.blk;have L2:=run_loadVar_row (P:=Tryz.prog) wz rb td 26 _ _ _ hbd Tryz.underlying26 rfl (by kernel_rfl);refine bodyPost_ret (v:=repV win tot (.slice la2 ls.length lc2) over trk m6 (.slice ja rj.length jc)) (by simp[results,Tryz.results10,asAddr,L2]) rfl ?_;rw[←Hr0.out] at hF;exact hF
 ·obtain⟨q3,hq3⟩:∃q,IntKind.i64.wrap m3=q:=⟨_,rfl⟩
  go_upto_region 23 with fail
  have S1:=S0.set ⟨win,tot,.slice la2 ls.length lc2,over,wrap64 (trk+q3),rest,.slice ja rj.length jc,ls,rj⟩ 4 (.int .i64 (wrap64 (trk+q3))) rfl S0.ol S0.oj S0.jl S0.jc ⟨HW0.win,HW0.tot,HW0.over,O1_ _,HW0.rest,HW0.lines,HW0.rej⟩;have hE:=S1.e (r:=r0) hq2 Hq1.out;generalize w5.setCell ⟨br,4,none⟩ (.int .i64 (wrap64 (trk+q3)))=w6 at *;clear S0 S1 a5 f5;have hA:=(hE).A;have hC:=(hE).C;dsimp only at hA hC
  go_wp2_with (first
   |(refine A0_ rfl _ rfl _ rfl hA ?_)
   |(refine A3_ rfl _ _ rfl _ rfl rfl rfl rfl _ rfl hC ?_;intro wz Cz Gz))
  (try simp only[pt_])
  have hF:=(hE).fin Gz;obtain⟨td,hbd⟩:=Cz.blk;have L2:=run_loadVar_row (P:=Tryz.prog) wz rb td 26 _ _ _ hbd Tryz.underlying26 rfl (by kernel_rfl);refine bodyPost_ret (v:=repV win tot (.slice la2 ls.length lc2) over (wrap64 (trk+q3)) rest (.slice ja rj.length jc)) (by simp[results,Tryz.results10,asAddr,L2]) rfl ?_;rw[←Hr0.out] at hF;exact hF
 ·by_cases hil:i<ls.length
  ·obtain⟨gl,cap',hv',hgB,hgl,hcap,hcx,hfz⟩:=S0.ol.at_ Av_ hil
   cases hv';have fz:=hfz (i*3+2)
   (try rw[Nat.add_zero] at fz)
   have c0:=hcx 0 _ rfl;have c1:=hcx 1 _ rfl;have c2:=hcx 2 _ rfl;rw[Nat.add_zero] at c0;clear hcx hfz
   have hi1 :(i:Int)<(ls.length:Int):=by omega
   have Hil:=hh_ hil
   go_upto_region 23 with fail
   have S1:=S0.line rfl Hil.out (show 2<3 by omega) (.int .u64 (IntKind.u64.wrap (ls[i].hi+m3))) (⟨ls[i].key,ls[i].lo,IntKind.u64.wrap (ls[i].hi+m3)⟩) rfl ⟨(HW0.lines _ (mg_ Hil.out)).lo,wrapW4 _,(HW0.lines _ (mg_ Hil.out)).key⟩
   (try rw[Nat.add_zero] at S1)
   have hE:=S1.e (r:=r0) (by simp only[List.length_set];exact hq2) Hq1.out;clear S1;generalize w5.setCell ⟨gl,i*3+2,none⟩ (.int .u64 (IntKind.u64.wrap (ls[i].hi+m3)))=w6 at *;clear S0 a5 f5 fz c0 c1 c2;have hA:=(hE).A;have hC:=(hE).C;dsimp only at hA hC
   go_wp2_with (first
    |(refine A0_ rfl _ rfl _ rfl hA ?_)
    |(refine A3_ rfl _ _ rfl _ rfl rfl rfl rfl _ rfl hC ?_;intro wz Cz Gz))
   (try simp only[pt_])
   have hF:=(hE).fin Gz;obtain⟨td,hbd⟩:=Cz.blk;have L2:=run_loadVar_row (P:=Tryz.prog) wz rb td 26 _ _ _ hbd Tryz.underlying26 rfl (by kernel_rfl);refine bodyPost_ret (v:=repV win tot (.slice (some ⟨gl,0,none⟩) ls.length lc2) over trk rest (.slice ja rj.length jc)) (by simp[results,Tryz.results10,asAddr,L2]) rfl ?_;rw[←Hr0.out] at hF;exact hF
  ·have hi1:¬((i:Int)<(ls.length:Int)):=by omega
   clear hil
   go_upto_region 23 with fail
   have hE:=S0.e (r:=r0) hq2 Hq1.out;clear S0 a5 f5;have hA:=(hE).A;have hC:=(hE).C;dsimp only at hA hC
   go_wp2_with (first
    |(refine A0_ rfl _ rfl _ rfl hA ?_)
    |(refine A3_ rfl _ _ rfl _ rfl rfl rfl rfl _ rfl hC ?_;intro wz Cz Gz))
   (try simp only[pt_])
   have hF:=(hE).fin Gz;obtain⟨td,hbd⟩:=Cz.blk;have L2:=run_loadVar_row (P:=Tryz.prog) wz rb td 26 _ _ _ hbd Tryz.underlying26 rfl (by kernel_rfl);refine bodyPost_ret (v:=repV win tot (.slice la2 ls.length lc2) over trk rest (.slice ja rj.length jc)) (by simp[results,Tryz.results10,asAddr,L2]) rfl ?_;rw[←Hr0.out] at hF;exact hF
 ·by_cases hil:i<ls.length
  ·obtain⟨gl,cap',hv',hgB,hgl,hcap,hcx,hfz⟩:=S0.ol.at_ Av_ hil
   cases hv';have fz:=hfz (i*3+1);have c1':=hcx 1 _ rfl;clear hcx hfz
   have hi1 :(i:Int)<(ls.length:Int):=by omega
   have Hil:=hh_ hil;have hxw':=HW0.lines _ (mg_ hil);obtain⟨xx,hxx,c1,hxw⟩:∃x,ls[i]'hil=x∧w5.cell? ⟨gl,i*3+1,none⟩=some (.int .u64 x.lo)∧LnW x:=⟨_,rfl,c1',hxw'⟩;clear c1' hxw';have Hxx:=hh_ hxx;clear hxx
   by_cases hlo0:0<xx.lo
   ·have e0:decide (0<xx.lo)=true:=decide_eq_true hlo0
    go_upto_region 15 with fail
    have S1:=S0.line rfl Hil.out (show 1<3 by omega) (.int .u64 (IntKind.u64.wrap (xx.lo-1))) ⟨xx.key,IntKind.u64.wrap (xx.lo-1),xx.hi⟩ (eo_ _ Hxx.out _) ⟨wrapW4 _,hxw.hi,hxw.key⟩;generalize w5.setCell ⟨gl,i*3+1,none⟩ (.int .u64 (IntKind.u64.wrap (xx.lo-1)))=w6 at *;generalize hls2:ls.set i ⟨xx.key,IntKind.u64.wrap (xx.lo-1),xx.hi⟩=ls2 at *
    have hl2:ls2.length=ls.length:=by rw[←hls2];simp
    have Hl2:=hh_ hl2;clear S0 a5 f5 fz c1 hl2 hls2;have a5:=S1.A.cell;have f5:=S1.A.free
    go_upto_region 23 with fail
    have S2:=S1.set ⟨win,tot,.slice (some ⟨gl,0,none⟩) ls.length lc2,IntKind.u64.wrap (over+1),trk,rest,.slice ja rj.length jc,ls2,rj⟩ 3 (.int .u64 (IntKind.u64.wrap (over+1))) rfl S1.ol S1.oj S1.jl S1.jc ⟨S1.W.win,S1.W.tot,wrapW4 _,S1.W.trk,S1.W.rest,S1.W.lines,S1.W.rej⟩;have hE:=S2.e (r:=r0) (by have:=Hl2.out;dsimp only;omega) Hq1.out;generalize w6.setCell ⟨br,3,none⟩ (.int .u64 (IntKind.u64.wrap (over+1)))=w7 at *;generalize IntKind.u64.wrap (over+1)=O2 at *;clear S1 S2 a5 f5;have hA:=(hE).A;have hC:=(hE).C;dsimp only at hA hC
    go_wp2_with (first
     |(refine A0_ rfl _ rfl _ rfl hA ?_)
     |(refine A3_ rfl _ _ rfl _ rfl rfl rfl rfl _ rfl hC ?_;intro wz Cz Gz))
    (try simp only[pt_])
    have hF:=(hE).fin Gz;obtain⟨td,hbd⟩:=Cz.blk;have L2:=run_loadVar_row (P:=Tryz.prog) wz rb td 26 _ _ _ hbd Tryz.underlying26 rfl (by kernel_rfl);refine bodyPost_ret (v:=repV win tot (.slice (some ⟨gl,0,none⟩) ls.length lc2) O2 trk rest (.slice ja rj.length jc)) (by simp[results,Tryz.results10,asAddr,L2]) rfl ?_;rw[←Hr0.out] at hF;exact hF
   ·have e0:decide (0<xx.lo)=false:=decide_eq_false hlo0
    clear hlo0
    go_upto_region 23 with fail
    have hE:=S0.e (r:=r0) hq2 Hq1.out;clear S0 a5 f5 c1 fz;have hA:=(hE).A;have hC:=(hE).C;dsimp only at hA hC
    go_wp2_with (first
     |(refine A0_ rfl _ rfl _ rfl hA ?_)
     |(refine A3_ rfl _ _ rfl _ rfl rfl rfl rfl _ rfl hC ?_;intro wz Cz Gz))
    (try simp only[pt_])
    have hF:=(hE).fin Gz;obtain⟨td,hbd⟩:=Cz.blk;have L2:=run_loadVar_row (P:=Tryz.prog) wz rb td 26 _ _ _ hbd Tryz.underlying26 rfl (by kernel_rfl);refine bodyPost_ret (v:=repV win tot (.slice (some ⟨gl,0,none⟩) ls.length lc2) over trk rest (.slice ja rj.length jc)) (by simp[results,Tryz.results10,asAddr,L2]) rfl ?_;rw[←Hr0.out] at hF;exact hF
  ·have hi1:¬((i:Int)<(ls.length:Int)):=by omega
   clear hil
   go_upto_region 23 with fail
   have hE:=S0.e (r:=r0) hq2 Hq1.out;clear S0 a5 f5;have hA:=(hE).A;have hC:=(hE).C;dsimp only at hA hC
   go_wp2_with (first
    |(refine A0_ rfl _ rfl _ rfl hA ?_)
    |(refine A3_ rfl _ _ rfl _ rfl rfl rfl rfl _ rfl hC ?_;intro wz Cz Gz))
   (try simp only[pt_])
   have hF:=(hE).fin Gz;obtain⟨td,hbd⟩:=Cz.blk;have L2:=run_loadVar_row (P:=Tryz.prog) wz rb td 26 _ _ _ hbd Tryz.underlying26 rfl (by kernel_rfl);refine bodyPost_ret (v:=repV win tot (.slice la2 ls.length lc2) over trk rest (.slice ja rj.length jc)) (by simp[results,Tryz.results10,asAddr,L2]) rfl ?_;rw[←Hr0.out] at hF;exact hF
 ·by_cases hil:0<ls.length
  ·obtain⟨gl,cap',hv',hgB,hgl,hcap,hcx,hfz⟩:=S0.ol.at_ Av_ (show ls.length-1<ls.length by omega)
   cases hv';have c1':=hcx 1 _ rfl;have hxw':=HW0.lines _ (mg_ (show ls.length-1<ls.length by omega));obtain⟨xx,c1,hxw⟩:∃x:Ln,w5.cell? ⟨gl,(ls.length-1)*3+1,none⟩=some (.int .u64 x.lo)∧LnW x:=⟨_,c1',hxw'⟩;clear c1' hxw';clear hcx hfz
   have hi1 :(0:Int)<(ls.length:Int):=by omega
   have hI0 :(0:Int)≤(ls.length:Int)-1:=by omega
   have hI1 :(ls.length:Int)-1<(ls.length:Int):=by omega
   have hI2 :((ls.length:Int)-1).toNat=ls.length-1:=by omega
   go_upto_region 17 with fail
   (refine Tail.wp_region_tail_drawn 13 (by kernel_rfl) (by kernel_rfl) ?_;simp only[List.take,List.drop];(repeat(go_big_quiet_step (fail)));refine wpQuiet_nil ?_;rintro _ ⟨nq,rfl⟩)
   have S1:=(S0.drewN nq).set ⟨win,tot,.slice (some ⟨gl,0,none⟩) ls.length lc2,IntKind.u64.wrap (over+xx.lo),trk,rest,.slice ja rj.length jc,ls,rj⟩ 3 (.int .u64 (IntKind.u64.wrap (over+xx.lo))) rfl (S0.drewN nq).ol (S0.drewN nq).oj S0.jl S0.jc ⟨HW0.win,HW0.tot,wrapW4 _,HW0.trk,HW0.rest,HW0.lines,HW0.rej⟩
   go_upto_region 18 with fail
   generalize (w5.drewN nq).setCell ⟨br,3,none⟩ (.int .u64 (IntKind.u64.wrap (over+xx.lo)))=w6 at *;generalize IntKind.u64.wrap (over+xx.lo)=ov at *;clear S0 a5 f5 c1;have a6:=S1.A.cell;have f6:=S1.A.free;have hcap2:ls.length≤lc2:=hcap
   have hI3 :(ls.length:Int)-1≤(lc2:Int):=by omega
   go_upto_region 23 with fail
   have hlt2 :(ls.take (ls.length-1)).length=ls.length-1:=by simp
   have Rl:RdL lnF 3 w6 (.slice (some ⟨gl,0,none⟩) (ls.length-1) lc2) (ls.take (ls.length-1)):=S1.ol.rd.take Av_ (by dsimp only;omega) lc2
   have Fl:From B (.slice (some ⟨gl,0,none⟩) (ls.length-1) lc2):=fun a n c e=>by cases e;exact hgB
   have gs:=Ac_ (Ab_ w6 (some br)) 2 (.slice (some ⟨gl,0,none⟩) (ls.length-1) lc2)
   have hE:SpE4 r0 w B br rb (w6.setCell ⟨br,2,none⟩ (.slice (some ⟨gl,0,none⟩) (ls.length-1) lc2)) ⟨win,tot,.slice (some ⟨gl,0,none⟩) (ls.length-1) lc2,ov,trk,rest,.slice ja rj.length jc,ls.take (ls.length-1),rj⟩:=
    ⟨S1.A.set_ 2 _ rfl,S1.C.kept gs (by simp;exact hne),⟨Rl.keptFrom Fl gs hbB,S1.oj.kept0 gs (fun h0 k e a n c hv=>by cases e;have:=S1.jl h0 a n c hv;omega),fun a n c e=>by cases e;omega,S1.jc⟩,Fl,S1.jl,
     ⟨S1.W.win,S1.W.tot,S1.W.over,S1.W.trk,S1.W.rest,fun z hz=>HW0.lines z (List.mem_of_mem_take hz),HW0.rej⟩,
     Aj_ (p:=⟨br,2,none⟩) S1.G hlb _,hlo,hrB,by dsimp only;rw[hlt2];omega,Hq1.out⟩
   generalize w6.setCell ⟨br,2,none⟩ (.slice (some ⟨gl,0,none⟩) (ls.length-1) lc2)=w7 at *;clear S1 a6 f6 Rl Fl gs hI2 hlt2;have hA:=(hE).A;have hC:=(hE).C;dsimp only at hA hC
   go_wp2_with (first
    |(refine A0_ rfl _ rfl _ rfl hA ?_)
    |(refine A3_ rfl _ _ rfl _ rfl rfl rfl rfl _ rfl hC ?_;intro wz Cz Gz))
   (try simp only[pt_])
   have hF:=(hE).fin Gz;obtain⟨td,hbd⟩:=Cz.blk;have L2:=run_loadVar_row (P:=Tryz.prog) wz rb td 26 _ _ _ hbd Tryz.underlying26 rfl (by kernel_rfl);refine bodyPost_ret (v:=repV win tot (.slice (some ⟨gl,0,none⟩) (ls.length-1) lc2) ov trk rest (.slice ja rj.length jc)) (by simp[results,Tryz.results10,asAddr,L2]) rfl ?_;rw[←Hr0.out] at hF;exact hF
  ·have hi1:¬((0:Int)<(ls.length:Int)):=by omega
   clear hil
   go_upto_region 23 with fail
   have hE:=S0.e (r:=r0) hq2 Hq1.out;clear S0 a5 f5;have hA:=(hE).A;have hC:=(hE).C;dsimp only at hA hC
   go_wp2_with (first
    |(refine A0_ rfl _ rfl _ rfl hA ?_)
    |(refine A3_ rfl _ _ rfl _ rfl rfl rfl rfl _ rfl hC ?_;intro wz Cz Gz))
   (try simp only[pt_])
   have hF:=(hE).fin Gz;obtain⟨td,hbd⟩:=Cz.blk;have L2:=run_loadVar_row (P:=Tryz.prog) wz rb td 26 _ _ _ hbd Tryz.underlying26 rfl (by kernel_rfl);refine bodyPost_ret (v:=repV win tot (.slice la2 ls.length lc2) over trk rest (.slice ja rj.length jc)) (by simp[results,Tryz.results10,asAddr,L2]) rfl ?_;rw[←Hr0.out] at hF;exact hF
 ·by_cases hil:i<ls.length
  ·obtain⟨gl,cap',hv',hgB,hgl,hcap,hcx,hfz⟩:=S0.ol.at_ Av_ hil
   cases hv';have fz:=hfz (i*3+0)
   (try rw[Nat.add_zero] at fz)
   have c0:=hcx 0 _ rfl;have c1:=hcx 1 _ rfl;have c2:=hcx 2 _ rfl;rw[Nat.add_zero] at c0;clear hcx hfz
   have hi1 :(i:Int)<(ls.length:Int):=by omega
   have Hil:=hh_ hil
   go_upto_region 23 with fail
   have S1:=S0.line rfl Hil.out (show 0<3 by omega) (.string ⟨#[120]⟩) (⟨⟨#[120]⟩,ls[i].lo,ls[i].hi⟩) rfl ⟨(HW0.lines _ (mg_ Hil.out)).lo,(HW0.lines _ (mg_ Hil.out)).hi,(by show(1:Nat)≤_;omega)⟩
   (try rw[Nat.add_zero] at S1)
   have hE:=S1.e (r:=r0) (by simp only[List.length_set];exact hq2) Hq1.out;clear S1;generalize w5.setCell ⟨gl,i*3,none⟩ (.string ⟨#[120]⟩)=w6 at *;clear S0 a5 f5 fz c0 c1 c2;have hA:=(hE).A;have hC:=(hE).C;dsimp only at hA hC
   go_wp2_with (first
    |(refine A0_ rfl _ rfl _ rfl hA ?_)
    |(refine A3_ rfl _ _ rfl _ rfl rfl rfl rfl _ rfl hC ?_;intro wz Cz Gz))
   (try simp only[pt_])
   have hF:=(hE).fin Gz;obtain⟨td,hbd⟩:=Cz.blk;have L2:=run_loadVar_row (P:=Tryz.prog) wz rb td 26 _ _ _ hbd Tryz.underlying26 rfl (by kernel_rfl);refine bodyPost_ret (v:=repV win tot (.slice (some ⟨gl,0,none⟩) ls.length lc2) over trk rest (.slice ja rj.length jc)) (by simp[results,Tryz.results10,asAddr,L2]) rfl ?_;rw[←Hr0.out] at hF;exact hF
  ·have hi1:¬((i:Int)<(ls.length:Int)):=by omega
   clear hil
   go_upto_region 23 with fail
   have hE:=S0.e (r:=r0) hq2 Hq1.out;clear S0 a5 f5;have hA:=(hE).A;have hC:=(hE).C;dsimp only at hA hC
   go_wp2_with (first
    |(refine A0_ rfl _ rfl _ rfl hA ?_)
    |(refine A3_ rfl _ _ rfl _ rfl rfl rfl rfl _ rfl hC ?_;intro wz Cz Gz))
   (try simp only[pt_])
   have hF:=(hE).fin Gz;obtain⟨td,hbd⟩:=Cz.blk;have L2:=run_loadVar_row (P:=Tryz.prog) wz rb td 26 _ _ _ hbd Tryz.underlying26 rfl (by kernel_rfl);refine bodyPost_ret (v:=repV win tot (.slice la2 ls.length lc2) over trk rest (.slice ja rj.length jc)) (by simp[results,Tryz.results10,asAddr,L2]) rfl ?_;rw[←Hr0.out] at hF;exact hF
 ·obtain⟨q3,hq3⟩:∃q,IntKind.i64.wrap m3=q:=⟨_,rfl⟩
  go_upto_region 23 with fail
  have S1:=S0.set ⟨wrap64 (win+q3),tot,.slice la2 ls.length lc2,over,trk,rest,.slice ja rj.length jc,ls,rj⟩ 0 (.int .i64 (wrap64 (win+q3))) rfl S0.ol S0.oj S0.jl S0.jc ⟨O1_ _,HW0.tot,HW0.over,HW0.trk,HW0.rest,HW0.lines,HW0.rej⟩;have hE:=S1.e (r:=r0) hq2 Hq1.out;generalize w5.setCell ⟨br,0,none⟩ (.int .i64 (wrap64 (win+q3)))=w6 at *;clear S0 S1 a5 f5;have hA:=(hE).A;have hC:=(hE).C;dsimp only at hA hC
  go_wp2_with (first
   |(refine A0_ rfl _ rfl _ rfl hA ?_)
   |(refine A3_ rfl _ _ rfl _ rfl rfl rfl rfl _ rfl hC ?_;intro wz Cz Gz))
  (try simp only[pt_])
  have hF:=(hE).fin Gz;obtain⟨td,hbd⟩:=Cz.blk;have L2:=run_loadVar_row (P:=Tryz.prog) wz rb td 26 _ _ _ hbd Tryz.underlying26 rfl (by kernel_rfl);refine bodyPost_ret (v:=repV (wrap64 (win+q3)) tot (.slice la2 ls.length lc2) over trk rest (.slice ja rj.length jc)) (by simp[results,Tryz.results10,asAddr,L2]) rfl ?_;rw[←Hr0.out] at hF;exact hF
end
section
open Go.RowKit Go.Sort
def kA:ByteArray:=⟨#[1,97,0]⟩
def kB:ByteArray:=⟨#[1,98,0]⟩
def tA:TagR:=⟨⟨#[97]⟩,⟨#[]⟩⟩
def tB:TagR:=⟨⟨#[98]⟩,⟨#[]⟩⟩
theorem U8_:keyE [tA]=0:=by decide
theorem Y0_:keyE [tB]=0:=by decide
theorem en_:keyY [tA]=kA:=by unfold keyY;rw[if_pos U8_];rfl
theorem ez_:keyY [tB]=kB:=by unfold keyY;rw[if_pos Y0_];rfl
theorem bj_:splitE kA=0:=by
 refine(Kz_ (L:=[tA]) (by decide) ?_ U8_ en_).1
 show splitP [1,97,0]=_
 rw[Iw_ (t:=tA) (s:=[]) (by simp) rfl,Iq_];rfl
def awk34C:Cfg:=⟨10,0,1,0,0,0,1,4,0,0,0,0,1,0,.slice none 0 0,.slice none 0 0,0⟩
def B0_ (vl vr:Value):Rep:=⟨0,7,vl,2,2,2,vr,[⟨kA,5,5⟩],[0,0,0,0,0,0,0]⟩
theorem Us_ (vl vr:Value):repErr (B0_ vl vr)=0:=by rfl
theorem Ri_ (vl vr:Value):audBad awk34C (B0_ vl vr)=false:=by rfl
theorem Hs_ (vl vr:Value):auditE awk34C (B0_ vl vr)=0:=by
 unfold auditE;rw[Us_,if_neg (by simp),Ri_,if_neg (by simp),if_neg]
 show ¬([⟨kA,5,5⟩]:List Ln).any (lineBad 1)=true
 simp[lineBad,bj_]
def itA:ItR:=⟨kA,3,5⟩
def itB:ItR:=⟨kB,4,2⟩
def itC:ItR:=⟨kA,5,1⟩
theorem Vt_:cntL awk34C 0 [itA,itB]=[([1,97,0],5),([1,98,0],2)]:=by rfl
theorem Yp_:cntL awk34C 0 [itA,itB,itC]=[([1,97,0],6),([1,98,0],2)]:=by rfl
theorem Yz_ {c:Cfg} {r:Rep} {l:List ItR} {L:List KW} (hL:cntL c r.win l=L) (h:auditE c r=0):agE c r l=if (agT L).2=false∨(agT L).1≠r.tot then 13
 else if r.lines.any (lineOff L)=true then 13
 else if (delAll L (keysN r.lines)).any (fun p=>decide (r.rest<p.2))=true then 13 else 0:=by
 subst hL;unfold agE;rw[if_neg (by omega)]
theorem Sd_ (vl vr:Value):agE awk34C (B0_ vl vr) [itA,itB]=0:=by
 rw[Yz_ (r:=B0_ vl vr) Vt_ (Hs_ vl vr)]
 rfl
theorem Tb_ (vl vr:Value):agE awk34C (B0_ vl vr) [itA,itB,itC]=13:=by
 rw[Yz_ (r:=B0_ vl vr) Yp_ (Hs_ vl vr)]
 rfl
theorem M6_ (vl vr:Value):RepW (B0_ vl vr):=by
 refine⟨by unfold I64 B0_;simp,by unfold W64 B0_;simp,by unfold W64 B0_;simp,by unfold I64 B0_;simp,by unfold W64 B0_;simp,fun x hx=>?_,fun n hn=>?_⟩
 ·simp only[B0_,List.mem_singleton] at hx
  subst hx;exact⟨by unfold W64;simp,by unfold W64;simp,by show(3:Nat)≤_;omega⟩
 ·simp only[B0_,List.mem_cons,List.not_mem_nil,or_false,or_self] at hn
  subst hn;unfold W64;simp
theorem Rp_:∀x∈[itA,itB,itC],ItW x:=by
 intro x hx;simp only[List.mem_cons,List.not_mem_nil,or_false] at hx
 rcases hx with rfl|rfl|rfl
 ·exact⟨by show(-9223372036854775808:Int)≤3∧(3:Int)≤_;omega,by show W64 5;unfold W64;omega,by show(3:Nat)≤_;omega⟩
 ·exact⟨by show(-9223372036854775808:Int)≤4∧(4:Int)≤_;omega,by show W64 2;unfold W64;omega,by show(3:Nat)≤_;omega⟩
 ·exact⟨by show(-9223372036854775808:Int)≤5∧(5:Int)≤_;omega,by show W64 1;unfold W64;omega,by show(3:Nat)≤_;omega⟩
theorem Ze_ {t:TagR} (h:t.name.size=1∧t.value.size=0):TagW t:=⟨by omega,by omega⟩
end
section
open Go.RowKit Go.Sort
theorem Blk.many {α:Type} {f:α→List Value} {size:Nat} {w:World} {g:Nat} {cs:Array Value} (h:Blk w g cs) (hf:∀x,(f x).length=size) (l:List α) (hcs:cs.toList=cellsOf f l) (hl:l.length≤9223372036854775807):RdL f size w (.slice (some ⟨g,0,none⟩) l.length l.length) l:=by
 refine⟨Au_ f size hf l,hl,.inr ⟨g,0,l.length,rfl,h.lt,fun j u hu=>?_⟩⟩;rw[Nat.zero_add,h.cell j];rw[←hcs] at hu
 simpa using hu
end
section
open Go.RowKit Go.Sort
attribute [local go_sem ↓] Ag_
attribute [local go_sem] Ah_
theorem Fn_ {ops:Array Oper} {rest:List Oper} {o:Oper} {a:Act} {w:World} {Q:Exit→Act→World→Prop} (hw:Region.wanted o (yielded ops a.tmps)=true) (x:Operand) (ho:o.op=.load 26 x)
  (b:Nat) (hx:a.eval x=.pointer (some ⟨b,0,none⟩)) {win tot over trk rst:Int} {vl vr:Value} (hb:Blk w b (repA win tot vl over trk rst vr)) (h:wpList Tryz.prog ops Q rest (a.put o.dst (repV win tot vl over trk rst vr)) w):wpList Tryz.prog ops Q (o::rest) a w:=by
 obtain⟨t,hbl⟩:=hb.blk
 exact BigFrame.wpList_want hw fun K hK=>wp_load_row _ x ho b hx t _ _ _ hbl Tryz.underlying26 rfl Gb_ (hK _ _ h)
section
variable {α:Type} {f:α→List Value} {st e:TypeId} {z:Value} {size bytes:Nat} {w:World} {g n:Nat} {l l2:List α} {A:Option Addr} {m c:Nat}
variable {o:Oper} {a:Act} {ops:Array Oper} {rest:List Oper} {Q:Exit→Act→World→Prop}
theorem Mf_ (E:Elt st e z size bytes) (hr0:RdL f size w (.slice (some ⟨g,0,none⟩) n n) l) (hn:n=l.length) (hr:RdL f size w (.slice A m c) l2) (hm:m=l2.length) (h0:0<l.length) (h02:0<l2.length) (hb :(l.length+l2.length)*bytes≤140737488355328) (h63:l.length+l2.length≤9223372036854775807)
  (hw:Region.wanted o (yielded ops a.tmps)=true) (s x:Operand) (ho:o.op=.call { callee:=.builtin .append,args:=#[s,x],argTypes:=#[st,st] }) (hs:a.eval s=.slice (some ⟨g,0,none⟩) n n) (hx:a.eval x=.slice A m c)
  (h:∀v' w',Own f size e w.heap.size w' v' (l++l2)→w.grownBy w' none→wpList Tryz.prog ops Q rest (a.put o.dst v') w'):wpList Tryz.prog ops Q (o::rest) a w:=by
 subst hm hn;obtain⟨i,hi,hz0,hz1,hz2⟩:=info_parts E.info
 rcases hr0.2.2 with⟨h3,_⟩ |⟨g1,off1,cap1,hv1,_,hc1⟩
 ·omega
 rcases hr.2.2 with⟨h3,_⟩ |⟨g2,off2,cap2,hv2,_,hc2⟩
 ·omega
 cases hv1;cases hv2
 have hadd:∀b off j,(⟨b,off,none⟩:Addr).add j =⟨b,off+j,none⟩:=fun b off j=>by unfold Addr.add;split <;> simp_all
 obtain⟨v',w',hrun,h2,h3⟩:=run_append_arg_grows (P:=Tryz.prog) w st o.type e i z size bytes E.ht hi hz0 hz1 hz2 E.cells E.pos ⟨g,0,none⟩ l.length l.length (cellsOf f l) hr0.1 (fun j u hu=>by rw[hadd];exact hc1 j u hu) ⟨g2,off2,none⟩ l2.length c (cellsOf f l2) hr.1 (fun j u hu=>by rw[hadd];exact hc2 j u hu) (by omega) (by unfold maxLen;exact h63) hb
 refine BigFrame.wpList_want hw fun K hK=>?_
 unfold Oper.wp execOp;simp only[ho,resolve,invoke,builtin,Sem.run_bind,Sem.run_pure,Result.andThen_ok,List.map_toArray,List.map_cons,List.map_nil,hs,hx,hrun];exact hK _ _ (h v' w' (by unfold Own;rw[Ap_,List.length_append];exact h2) h3)
end
theorem T1_ (w:World):Calls Tryz.prog 6 #[] w (B4_ true w):=by
 have hmk:∀w,(Instr.makeSlice 24 (.int .i64 7) (.int .i64 7)).run Tryz.prog w=.ok (.slice (some ⟨w.heap.size,0,none⟩) 7 7) (w.alloc (.cells #[.int .u64 0,.int .u64 0,.int .u64 0,.int .u64 0,.int .u64 0,.int .u64 0,.int .u64 0] 22)):=fun _=>by kernel_rfl
 have K1:=hh_ (Jn_ _ [tA] _ ((Blk.new w #[.string ⟨#[97]⟩,.string ⟨#[]⟩] 53).one At_ tA rfl) (fun t ht=>by rw[ms_ ht];exact Ze_ ⟨rfl,rfl⟩));unfold KeyP at K1;rw[en_,U8_] at K1
 go_enter Tryz.func6,Tryz.ntmps6
 go_upto_region 2 with(go_at_call 16;refine K1.out.mono ?_;rintro e w2 ⟨rfl,g2⟩)
 have G2:=Aa_ (ga_ w (.cells #[.string ⟨#[97]⟩,.string ⟨#[]⟩] 53) none) g2;have K2:=hh_ (Jn_ _ [tB] _ ((Blk.new w2 #[.string ⟨#[98]⟩,.string ⟨#[]⟩] 53).one At_ tB rfl) (fun t ht=>by rw[ms_ ht];exact Ze_ ⟨rfl,rfl⟩));unfold KeyP at K2;rw[ez_,Y0_] at K2;clear K1 g2
 go_upto_region 3 with(go_at_call 16;refine K2.out.mono ?_;rintro e w3 ⟨rfl,g3⟩)
 have G3:=Aa_ (Ad_ G2 (.cells #[.string ⟨#[98]⟩,.string ⟨#[]⟩] 53)) g3;clear K2 g3 G2
 go_upto_region 4 with(first |(refine Cw_ rfl rfl ?_;intro w4 B4 G4 z4) |(refine Ct_ rfl _ _ rfl _ rfl awk34C rfl rfl rfl Cfg.zero (by assumption) ?_;intro w5 B5 G5))
 have G6:=Aa_ G3 (Af_ G4 G5 (Nat.le_refl _));generalize w3.heap.size=cb at *;clear B4 G4 G5 G3;have A1:=(Blk.new w5 #[.string kA,.int .u64 5,.int .u64 5] 46).same (ga_ _ (.cells #[.int .u64 0,.int .u64 0,.int .u64 0,.int .u64 0,.int .u64 0,.int .u64 0,.int .u64 0] 22) none);have A2:=Blk.new' (w5.alloc (.cells #[.string kA,.int .u64 5,.int .u64 5] 46)) #[.int .u64 0,.int .u64 0,.int .u64 0,.int .u64 0,.int .u64 0,.int .u64 0,.int .u64 0] 22 (g:=w5.heap.size+1) (by simp);have R1:=A1.one Av_ ⟨kA,5,5⟩ rfl;have R2:=A2.many (f:=wordF) (size:=1) (fun _=>rfl) [0,0,0,0,0,0,0] rfl (by simp);have hR:RepRd ((w5.alloc (.cells #[.string kA,.int .u64 5,.int .u64 5] 46)).alloc (.cells #[.int .u64 0,.int .u64 0,.int .u64 0,.int .u64 0,.int .u64 0,.int .u64 0,.int .u64 0] 22)) (B0_ (.slice (some ⟨w5.heap.size,0,none⟩) 1 1) (.slice (some ⟨w5.heap.size+1,0,none⟩) 7 7)):=⟨R1,R2,fun a n c e=>by cases e;omega,fun a n c e=>by cases e;omega⟩;have B6:=(B5.same (ga_ _ (.cells #[.string kA,.int .u64 5,.int .u64 5] 46) none)).same (ga_ _ (.cells #[.int .u64 0,.int .u64 0,.int .u64 0,.int .u64 0,.int .u64 0,.int .u64 0,.int .u64 0] 22) none);have G7:=Ad_ (Ad_ G6 (.cells #[.string kA,.int .u64 5,.int .u64 5] 46)) (.cells #[.int .u64 0,.int .u64 0,.int .u64 0,.int .u64 0,.int .u64 0,.int .u64 0,.int .u64 0] 22);have HR:=hh_ hR;have HB:=hh_ B6;have HG:=hh_ G7;clear A1 A2 R1 R2 hR B5 B6 G6 G7
 go_upto_region 5 with(first
  |(refine Hu_ rfl rfl ?_;intro w7 A7 g7 z7)
  |(refine A3_ rfl _ _ rfl _ rfl (win:=0) (tot:=7) (over:=2) (trk:=2) (rst:=2) (vl:=.slice (some ⟨w5.heap.size,0,none⟩) 1 1) (vr:=.slice (some ⟨w5.heap.size+1,0,none⟩) 7 7) rfl rfl rfl rep0 rfl A7 ?_;intro w8 A8 g8))
 have g9:=Af_ g7 g8 (Nat.le_refl _);have R8:=HR.out.same g9;have B8:=HB.out.same g9;have G8:=Aa_ HG.out g9;generalize ((w5.alloc (.cells #[.string kA,.int .u64 5,.int .u64 5] 46)).alloc (.cells #[.int .u64 0,.int .u64 0,.int .u64 0,.int .u64 0,.int .u64 0,.int .u64 0,.int .u64 0] 22)).heap.size=rb at *;clear HR HB HG g7 g8 g9 A7
 go_upto_region 6 with fail
 have I9:=(Blk.new w8 #[.string kA,.int .i64 3,.int .u64 5,.string kB,.int .i64 4,.int .u64 2] 41).many Hq_ [itA,itB] rfl (by decide);have g9:=ga_ w8 (.cells #[.string kA,.int .i64 3,.int .u64 5,.string kB,.int .i64 4,.int .u64 2] 41) none;have A9:=A8.same g9;have R9:=R8.same g9;have B9:=B8.same g9;have G9:=Aa_ G8 g9;generalize w8.alloc (.cells #[.string kA,.int .i64 3,.int .u64 5,.string kB,.int .i64 4,.int .u64 2] 41)=w9 at *;generalize w8.heap.size=ib at *;clear A8 R8 B8 G8 g9
 have HC:=hh_ fun y (h:w9.grownBy y none)=>Ou_ awk34C _ y (R9.same h) (M6_ _ _)
 have HG1:=hh_ fun y (h:w9.grownBy y none)=>Gh_ awk34C _ _ _ y (R9.same h) (M6_ _ _) (RdL.same I9 h) (fun x hx=>Rp_ x (by simp only[List.mem_cons,List.not_mem_nil,or_false] at hx ⊢;rcases hx with h|h <;> simp[h])) (by decide)
 have HG2:=hh_ fun v y (h:w9.grownBy y none) hv=>Gh_ awk34C _ v [itA,itB,itC] y (R9.same h) (M6_ _ _) hv Rp_ (by decide)
 simp only[Hs_,Sd_,Tb_] at HC HG1 HG2;dsimp only[B0_] at HC HG1 HG2;have HI:=hh_ I9;have HA:=hh_ A9;have G10:=hh_ G9;have K6:World.grownBy w9 w9.drew none:=gw_;have B6:=B9.same K6;clear R9 I9 A9 G9 B9
 (refine rn_ 23 (fun k _ w v w'=>match k with | 2=>v=.int .i64 0∧World.grownBy w w' none | 8=>v=.int .i64 0∧World.grownBy w w' none | 19=>v=.int .i64 13∧World.grownBy w w' none | _=>False) ?_;simp only[ts_])
 generalize w9.drew=w10 at *
 (refine Rg.tree_op rfl rfl ?_;intro y0 my0 dy0)
 clear dy0;have BX:=B6.same my0
 go_wp2_with (refine Al_ rfl _ rfl _ rfl awk34C (by assumption) ?_)
 refine⟨Ab_ _ _,?_⟩;clear BX
 (refine Rg.tree_op rfl rfl ?_;intro y1 my1 dy1)
 clear dy1;have AX:=HA.out.same (Aa_ K6 my1)
 go_wp2_with (refine A0_ rfl _ rfl _ rfl AX ?_)
 refine⟨Ab_ _ _,?_⟩;clear AX
 ((refine Rg.tree_call rfl rfl rfl ?_;intro y2 my2 dy2;refine⟨?_,?_⟩;· (unfold Rg.callSpec;go_simp;(refine(HC.out y2 (Aa_ K6 my2)).mono ?_;rintro e w' ⟨rfl,g⟩;exact⟨_,rfl,rfl,g⟩)));clear dy2;rintro v y ⟨rfl,g⟩;refine⟨g,?_⟩;clear g;simp only[pt_])
 (refine tq_ 2 ?_;simp only[ts_,Nat.reduceAdd];(repeat(go_big_quiet_step (fail)));refine wpQuiet_nil ?_)
 (refine Rg.tree_op rfl rfl ?_;intro y5 my5 dy5)
 clear dy5;have BX:=B6.same my5
 go_wp2_with (refine Bc_ rfl _ rfl _ rfl awk34C (by assumption) ?_)
 refine⟨Ab_ _ _,?_⟩;clear BX
 (refine Rg.tree_op rfl rfl ?_;intro y6 my6 dy6)
 clear dy6;have AX:=HA.out.same (Aa_ K6 my6)
 go_wp2_with (refine Fn_ (by rfl) _ rfl _ rfl AX ?_)
 refine⟨Ab_ _ _,?_⟩;clear AX
 (refine tq_ 1 ?_;simp only[ts_,Nat.reduceAdd];(repeat(go_big_quiet_step (fail)));refine wpQuiet_nil ?_)
 ((refine Rg.tree_callG rfl rfl rfl ?_;intro y8 my8 dy8;refine⟨?_,?_⟩;· (unfold Rg.callSpec;go_simp;(refine(HG1.out y8 (Aa_ K6 my8)).mono ?_;rintro e w' ⟨rfl,g⟩;exact⟨_,rfl,rfl,g⟩)));clear dy8;rintro v y ⟨rfl,g⟩;refine⟨g,?_⟩;clear g;simp only[pt_])
 (refine tq_ 3 ?_;simp only[ts_,Nat.reduceAdd];(repeat(go_big_quiet_step (fail)));refine wpQuiet_nil ?_)
 (refine Rg.tree_op rfl rfl ?_;intro y12 my12 dy12)
 clear dy12;have BX:=B6.same my12
 go_wp2_with (refine Bc_ rfl _ rfl _ rfl awk34C (by assumption) ?_)
 refine⟨Ab_ _ _,?_⟩;clear BX
 (refine Rg.tree_op rfl rfl ?_;intro y13 my13 dy13)
 clear dy13;have AX:=HA.out.same (Aa_ K6 my13)
 go_wp2_with (refine Fn_ (by rfl) _ rfl _ rfl AX ?_)
 refine⟨Ab_ _ _,?_⟩;clear AX
 (refine tq_ 3 ?_;simp only[ts_,Nat.reduceAdd];(repeat(go_big_quiet_step (fail)));refine wpQuiet_nil ?_)
 (refine Rg.tree_op rfl rfl ?_;intro y17 my17 dy17)
 clear dy17
 go_wp2_with fail
 refine⟨ga_ _ _ _,?_⟩;have N17:=Blk.new y17 #[.string kA,.int .i64 5,.int .u64 1] 41;generalize y17.alloc (.cells #[.string kA,.int .i64 5,.int .u64 1] 41)=e17 at *;generalize y17.heap.size=g17 at *
 (refine Rg.tree_op rfl rfl ?_;intro y18 my18 dy18)
 have R18:=(N17.same (dy18.out 17 (by omega) (by kernel_rfl))).one Hq_ itC rfl;have I18:=RdL.same HI.out (Aa_ K6 my18);clear dy18 N17
 go_wp2_with (at_builtin;refine Mf_ Zk_ I18 rfl R18 rfl (by decide) (by decide) (by decide) (by decide) (by rfl) _ _ (by rfl) (by rfl) (by rfl) ?_;intro v18 e18 o18 g18;have Hg18:=hh_ g18;clear g18)
 refine⟨Hg18.out,?_⟩;obtain⟨a18,c18,rfl⟩:=o18.shape;clear I18 R18 Hg18
 (refine Rg.tree_callG rfl rfl rfl ?_;intro y19 my19 dy19;refine⟨?_,?_⟩;· (unfold Rg.callSpec;go_simp;(refine(HG2.out _ y19 (Aa_ K6 my19) (show RdL itF 3 y19 _ [itA,itB,itC] from RdL.same o18.rd (dy19.out 18 (by omega) (by kernel_rfl)))).mono ?_;rintro e w' ⟨rfl,g⟩;exact⟨_,rfl,rfl,g⟩)))
 clear dy19;rintro v y ⟨rfl,g⟩;refine⟨g,?_⟩;clear g;simp only[pt_]
 (refine tq_ 3 ?_;simp only[ts_,Nat.reduceAdd];(repeat(go_big_quiet_step (fail)));refine wpQuiet_nil ?_)
 (refine Rg.tree_nil ?_;intro z mz dz cz)
 clear dz cz
 go_wp2_with fail
 go_ret
 exact Ba_ rfl (Aa_ G10.out (Aa_ K6 mz))
end
section
open Go.RowKit
theorem Hy_ {P:Program} (w:World) (g off:Nat) (ty:TypeId) (cs:Array Value) (d:TypeDesc) (hc:∀j v,cs[j]?=some v→w.cell? ⟨g,off+j,none⟩=some v)
  (hu:P.underlying ty=some d) (hd :(match d with | .struct _ | .array _ _=>true | _=>false)=true) (hi :(P.info? ty).map (·.size)=some cs.size) :
  (loadVar ty ⟨g,off,none⟩).run P w=.ok (.agg cs) w:=by
 have hl :(loadCells ⟨g,off,none⟩ cs.toList.length).run P w=.ok cs.toList.toArray w:=
  run_loadCells_list (P:=P) w ⟨g,off,none⟩ cs.toList (fun j v hv=>by
   have hadd :(⟨g,off,none⟩:Addr).add j =⟨g,off+j,none⟩:=by unfold Addr.add;split <;> simp_all
   rw[hadd]
   exact hc j v (by simpa using hv))
 cases hq:P.info? ty with
 | none=>simp[hq] at hi
 | some i=>
  have hs:i.size=cs.size:=by simpa [hq] using hi
  have hagg :(isAgg ty).run P w=.ok true w:=by
   unfold isAgg;rw[Sem.run_bind,run_underlying hu w];cases d <;> simp_all
  simp only[Array.length_toList,Array.toArray_toList] at hl
  simp[loadVar,Sem.run_bind,hagg,sizeOf,typeInfo,hq,hs,hl]
theorem Ng_ {ops:Array Oper} {rest:List Oper} {o:Oper} {a:Act} {w:World} {Q:Exit→Act→World→Prop} (hgd:o.guard=none) (x:Operand) (ho:o.op=.load 26 x)
  (b off:Nat) (hx:a.eval x=.pointer (some ⟨b,off,none⟩)) {r:Rep} (hc:∀j v,(repF r)[j]?=some v→w.cell? ⟨b,off+j,none⟩=some v) (h:wpList Tryz.prog ops Q rest (a.put o.dst (repV r.win r.tot r.vl r.over r.trk r.rest r.vr)) w):wpList Tryz.prog ops Q (o::rest) a w:=
 wpList_plain hgd fun _ hK=>by
  unfold Oper.wp execOp;simp only[ho,hx,Instr.loadAt,Instr.sureAddr,Sem.run_bind,Sem.run_pure,Result.andThen_ok,Hy_ w b off _ (repA r.win r.tot r.vl r.over r.trk r.rest r.vr) _ (fun j v hv=>hc j v (by simpa [repF,repA] using hv)) Tryz.underlying26 rfl Gb_];exact hK _ _ h
end
section
open Go.RowKit Go.Sort
attribute [local go_sem ↓] Ag_
attribute [local go_sem] Ah_
structure ex_ (c:Cfg) (rs:List Rep):Prop where
 w:∀r∈rs,RepW r∧r.lines.length≤64
theorem e8_ {c:Cfg} {t:List Int} {rs:List Rep} (hn:CfgNums c) (h:Fq_ c t rs):ex_ c rs:=⟨fun r hr=>by
 obtain⟨K,win,h1,_,_,h2⟩:=h r hr
 exact cm_ hn h2 (h1.len hn.shards.1)⟩
theorem e0_ {c:Cfg} {y:Rep} {l:List ItR} (h:agE c y l=0) (hr:0≤y.rest):repErr y=0∧(∀x∈y.lines,x.lo≤ctAt (cntL c y.win l) x.key.data.toList∧ctAt (cntL c y.win l) x.key.data.toList≤x.hi)∧∀k:ByteArray,listedB y.lines k=false→ctAt (cntL c y.win l) k.data.toList≤y.rest:=by
 unfold agE at h
 by_cases h0:auditE c y≠0
 ·rw[if_pos h0] at h;exact absurd h h0
 rw[if_neg h0] at h
 by_cases h1 :(agT (cntL c y.win l)).2=false∨(agT (cntL c y.win l)).1≠y.tot
 ·rw[if_pos h1] at h;cases h
 rw[if_neg h1] at h
 by_cases h2:y.lines.any (lineOff (cntL c y.win l))=true
 ·rw[if_pos h2] at h;cases h
 rw[if_neg h2] at h
 by_cases h3 :(delAll (cntL c y.win l) (keysN y.lines)).any (fun p=>decide (y.rest<p.2))=true
 ·rw[if_pos h3] at h;cases h
 rw[Bool.not_eq_true,List.any_eq_false] at h2 h3;refine⟨?_,fun x hx=>?_,fun k hk=>?_⟩
 ·have h4:auditE c y=0:=Decidable.byContradiction h0
  unfold auditE at h4
  by_cases h5:repErr y≠0
  ·rw[if_pos h5] at h4;exact h4
  ·exact Decidable.byContradiction h5
 ·have:=h2 x hx
  unfold lineOff at this;simp only[Bool.not_eq_true',Bool.not_eq_false,Bool.and_eq_true,decide_eq_true_eq,Bool.not_not] at this
  simpa using this
 ·have hn:k.data.toList∉keysN y.lines:=fun hm=>by rw[Me_.2 hm] at hk;cases hk
  cases hh:ctHas (cntL c y.win l) k.data.toList with
  | false=>rw[J1_ hh];exact hr
  | true=>
   have:=h3 _ (Ia_.2 ⟨J9_ hh,hn⟩)
   simpa using this
theorem W2_ (dv ov:Value) (xs ys:List Int) (n m:Nat) (at_ nn:Int) (key:ByteArray) (w:World) (hd:Rd w 1 dv n (xs.map (fun x=>Value.int .i64 x))) (ho:Rd w 1 ov m (ys.map (fun x=>Value.int .i64 x))) (hkey:key.size≤9223372036854775807) :
  Calls Tryz.prog 5 #[dv,ov,.int .i64 at_,.int .u64 nn,.string key] w (B4_ true w):=by
 have CR:=hh_ (Q6_ dv ov xs ys n m w hd ho);obtain⟨da,dc,rfl⟩:=hd.shape;obtain⟨oa,oc,rfl⟩:=ho.shape;clear hd ho
 go_enter Tryz.func5,Tryz.ntmps5
 go_upto_region 3 with(first
  |(go_at_call 7;refine CR.out.mono ?_;rintro e w1 ⟨c,lc,t,K,vl,vi,rs,rfl,N1,Z1,M1,F1,L1,hrl,R1,RK,CK,I1,O1,G1,T1⟩;have oc1:=M1.one1;have oc2:=M1.one2;obtain⟨la,lcp,rfl⟩:=L1.own.shape;obtain⟨ia,ic,rfl⟩:=I1.shape)
  |(refine Cw_ rfl rfl ?_;intro w3 B3 G3 z3)
  |(refine Ct_ rfl _ _ rfl _ rfl c rfl oc1 oc2 Cfg.zero B3 ?_;intro w5 B5 G5))
 have KW:=Af_ G3 G5 (Nat.le_refl _);have hl5:=(L1.same repK KW).rdAll;have HL:=hh_ hl5.1;have HR:=hh_ hl5.2;have HI:=hh_ (I1.same KW).rd;have HIw:=hh_ CK.its;have HIl:=hh_ (show K.items.length≤1000000000 by have:=CK.items;omega);have HW:=hh_ (e8_ N1 R1).w;have HB:=hh_ B5;have HG:=hh_ (Aa_ G1 KW)
 have hrl2:rs.length≤9223372036854775807:=by omega
 generalize K.items=items at *;generalize w1.heap.size=cb at *;clear N1 Z1 M1 F1 L1 R1 RK CK I1 O1 T1 G1 G3 G5 B3 B5 z3 hl5 KW CR oc1 oc2
 go_loopw [33] (fun s33 wk=>∃k:Nat,k≤rs.length∧s33=.int .i64 k∧w5.grownBy wk none) (fun s33 _=>rs.length-(RowKit.intOf s33).toNat)
 case atStart=>exact⟨0,Nat.zero_le _,rfl,Ab_ _ _⟩
 case round=>
  obtain⟨k,hk,rfl,hg⟩:=hrel
  by_cases hkl:k<rs.length
  ·obtain⟨gx,ox,cx,hv,hgx,hcx⟩:=(HL.out.same hg).at_ Gw_ hkl
   cases hv
   have hklt :(k:Int)<(rs.length:Int):=by omega
   have hrr:=(HR.out _ (mg_ hkl)).same hg;obtain⟨hrw,hr64⟩:=HW.out _ (mg_ hkl);have Hcx:=hh_ hcx;clear hcx;generalize rs[k]=r at *;obtain⟨win,tot,vl,over,trk,rest,vr,ls,rj⟩:=r;obtain⟨ra,rc,e1⟩:=hrr.lines.shape;obtain⟨ja,jc,e2⟩:=hrr.rej.shape;dsimp only at *;subst e1 e2;have Hrr:=hh_ hrr;have Hrw:=hh_ hrw;clear hrr hrw
   go_upto_region 5 with(first
    |(refine Ng_ rfl _ rfl _ _ rfl Hcx.out ?_)
    |(refine Hu_ rfl rfl ?_;intro w6 A6 G6 z6)
    |(refine A3_ rfl _ _ rfl _ rfl rfl rfl rfl _ rfl A6 ?_;intro w7 A7 G7))
   simp only[pt_];have K7:=Af_ G6 G7 (Nat.le_refl _);have HSp:=hh_ (Ta_ ⟨win,tot,.slice ra ls.length rc,over,trk,rest,.slice ja rj.length jc,ls,rj⟩ at_ nn w7 (Hrr.out.same K7) Hrw.out (by show ls.length≤_;omega));clear A6 G6 z6 G7 Hcx
   go_upto_region 6 with(first
    |(refine A0_ rfl _ rfl _ rfl A7 ?_)
    |(go_at_call 10;refine HSp.out.mono ?_;rintro e w8 ⟨y,rfl,yr,yw,y1,y2,g8⟩;obtain⟨yw0,yt,yv,yo,yk,ys,yu,yl,yq⟩:=y;obtain⟨ya,yc,e1⟩:=yr.lines.shape;obtain⟨yb,yd,e2⟩:=yr.rej.shape;dsimp only at e1 e2;subst e1 e2;dsimp only)
    |(refine Hu_ rfl rfl ?_;intro w9 A9 G9 z9)
    |(refine A3_ rfl _ _ rfl _ rfl rfl rfl rfl _ rfl A9 ?_;intro wa Aa Ga))
   simp only[pt_];have Ka:=Af_ G9 Ga (Nat.le_refl _);have HK:=hh_ (Aa_ hg (Aa_ K7 (Aa_ g8 Ka)));have Hyr:=hh_ (yr.same Ka);have Hyw:=hh_ yw;have HAa:=hh_ Aa;have HBa:=hh_ (HB.out.same HK.out);have hyl:yl.length≤64:=lt_ y1 hr64;have CG:=hh_ (Gh_ c ⟨yw0,yt,.slice ya yl.length yc,yo,yk,ys,.slice yb yq.length yd,yl,yq⟩ _ items wa Hyr.out Hyw.out (HI.out.same HK.out) HIw.out HIl.out)
   have CC:=hh_ fun w' (g:wa.grownBy w' none)=>N4_ c yw0 _ items w' (RdL.same HI.out (Aa_ HK.out g)) HIw.out HIl.out
   have HT:=hh_ fun h=>e0_ (c:=c) (y:=⟨yw0,yt,.slice ya yl.length yc,yo,yk,ys,.slice yb yq.length yd,yl,yq⟩) (l:=items) h yw.rest.1
   have CE:=hh_ fun w' (h:World.grownBy wa w' none)=>Mn_ ⟨yw0,yt,.slice ya yl.length yc,yo,yk,ys,.slice yb yq.length yd,yl,yq⟩ w' (Hyr.out.same h) Hyw.out
   have HLw:=hh_ (F9_ c yw0 items);clear yr yw y1 y2 g8 A9 G9 z9 Ga Ka A7 K7 hg HSp Hrr Hrw Aa;generalize w8.heap.size=yb0 at *;dsimp only at CG HT;generalize agE c ⟨yw0,yt,.slice ya yl.length yc,yo,yk,ys,.slice yb yq.length yd,yl,yq⟩ items=AE at *
   by_cases hE:AE=0
   case neg=>
    have e1 :(AE != 0)=true:=by simpa using hE
    have e2 :(AE==0)=false:=by simpa using hE
    clear hE HT
    go_wp2_with (first
     |(refine Al_ rfl _ rfl _ rfl c (by assumption) ?_)
     |(refine Al_ rfl _ rfl _ rfl c HBa.out ?_)
     |(refine A0_ rfl _ rfl _ rfl HAa.out ?_)
     |(go_at_call 11;refine CG.out.mono ?_;rintro e wb ⟨rfl,gb⟩))
    exact⟨⟨k+1,by omega,by go_num,Aa_ HK.out gb⟩,by simp[RowKit.intOf];omega⟩
   case pos=>
    obtain⟨t1,t2,t3⟩:=HT.out hE;have HT2:=hh_ t2;have HT3:=hh_ t3;rw[t1] at CE;subst hE;clear HT t1 t2 t3;generalize cntL c yw0 items=L at *
    go_upto_region 7 with(first
     |(refine Al_ rfl _ rfl _ rfl c HBa.out ?_)
     |(refine A0_ rfl _ rfl _ rfl HAa.out ?_)
     |(go_at_call 11;refine CG.out.mono ?_;rintro e wb ⟨rfl,gb⟩))
    have HAb:=hh_ (HAa.out.same gb);have HBb:=hh_ (HBa.out.same gb);have ab:=HAb.out.cell;have CC2:=hh_ (CC.out wb gb)
    go_upto_region 8 with(first
     |(refine Al_ rfl _ rfl _ rfl c HBb.out ?_)
     |(go_at_call 13;refine CC2.out.mono ?_;rintro e wc ⟨vc,rfl,oc',gc⟩;obtain⟨sa,sc,rfl⟩:=oc'.shape))
    have hkl1:L.length≤1000000000:=lt_ HLw.out HIl.out;have RC:=oc'.rd;have hml :(L.map kwLn).length=L.length:=List.length_map _;rw[hml] at RC;have HRC:=hh_ RC;have Hml:=hh_ hml
    have hb1 :(L.map kwLn).length*32≤140737488355328:=by omega
    have hb2 :(L.map kwLn).length≤9223372036854775807:=by omega
    have hb3 :((L.map kwLn).length+1)*32≤140737488355328:=by omega
    have hb4 :(L.map kwLn).length+1≤9223372036854775807:=by omega
    have G0:=ga_ wc (.cells #[] 46) none;have N0:=Aw_ (B:=wc.heap.size) (w:=wc) lnF 3 (e:=46) (Nat.le_refl _);have R0:=RC.same G0;have Z0:=G0.size;clear ab CC CC2 CG hml
    go_upto_region 9 with(first
     |(at_builtin;refine A2_ Fl_ Fj_ N0 R0 Hml.out.symm hb1 hb2 Z0 (by rfl) _ _ (by rfl) (by rfl) (by rfl) ?_;intro vd wd od gd ld)
     |(at_builtin;refine A5_ Fl_ Fj_ Av_ od ⟨key,0,0⟩ hb3 hb4 (lt_ Z0 gd.size) rfl (by rfl) _ _ (by rfl) (by rfl) (by rfl) ?_;intro ve we oe ge le;generalize L.map kwLn++[(⟨key,0,0⟩:Ln)]=M at oe;obtain⟨ea,ec,rfl⟩:=oe.shape))
    have Kce:=Ao_ (Aa_ G0 gd) od (Nat.le_refl _) ge;have Kbe:=Aa_ gc Kce;have HRE:=hh_ (HRC.out.same Kce);have HME:=hh_ oe.rd;have HAe:=hh_ (HAb.out.same Kbe);have HBe:=hh_ (HBb.out.same Kbe);have HKe:=hh_ (Aa_ HK.out (Aa_ gb Kbe));have Hyre:=hh_ (Hyr.out.same (Aa_ gb Kbe))
    have CE2:=hh_ fun w' (h:we.grownBy w' none)=>CE.out w' (Aa_ (Aa_ gb Kbe) h)
    have hMl:=oe.rd.2.1;clear Kce Kbe oc' oe G0 N0 R0 Z0 od gd ld ge le RC HRC HAb HBb HAa HBa gb gc CE hb1 hb2 hb3 hb4 Hyr HK
    go_loopw [59] (fun s59 wk=>∃i:Nat,i≤M.length∧s59=.int .i64 i∧we.grownBy wk none) (fun s59 _=>M.length-(RowKit.intOf s59).toNat)
    case atStart=>exact⟨0,Nat.zero_le _,rfl,Ab_ _ _⟩
    case round=>
     obtain⟨i,hi,rfl,hg⟩:=hrel
     by_cases hil:i<M.length
     ·obtain⟨gz,oz,cz,hvz,hgz,hcz⟩:=(RdL.same HME.out hg).at_ Av_ hil
      cases hvz;have c0:=hcz 0 _ rfl;have c1:=hcz 1 _ rfl;have c2:=hcz 2 _ rfl;rw[Nat.add_zero] at c0
      have hilt :(i:Int)<(M.length:Int):=by omega
      clear hcz;generalize M[i]=z at *
      have CO:=hh_ fun w' (g:wr.grownBy w' none)=>er_ (.slice sa L.length sc) L z.key w' (HRE.out.same (Aa_ hg g))
      have HF3:=hh_ (HT3.out z.key);have HF2:=hh_ (show ∀y∈yl,y.key=z.key→y.lo≤ctAt L z.key.data.toList∧ctAt L z.key.data.toList≤y.hi from fun y hy e=>by rw[←e];exact HT2.out y hy);generalize ctAt L z.key.data.toList=F at *
      go_upto_region 11 with fail
      have HA8:=hh_ (Blk.new wr #[.string z.key,.int .u64 z.lo,.int .u64 z.hi] 46);have a8:=HA8.out.cell;have HG8:=hh_ (ga_ wr (.cells #[.string z.key,.int .u64 z.lo,.int .u64 z.hi] 46) none);generalize wr.alloc (.cells #[.string z.key,.int .u64 z.lo,.int .u64 z.hi] 46)=w8 at *;generalize wr.heap.size=gk at *;clear c0 c1 c2
      go_upto_region 12 with(go_at_call 14;refine(CO.out w8 HG8.out).mono ?_;rintro e w9 ⟨rfl,g9⟩)
      have HA9:=hh_ (HA8.out.same g9);have HG9:=hh_ (Aa_ hg (Aa_ HG8.out g9));have HAA:=hh_ (HAe.out.same HG9.out);have aa:=HAA.out.cell;clear a8 CO hg g9 HG8 HA8
      go_upto_region 13 with fail
      go_loopw [21,70] (fun s21 s70 wk=>∃j:Nat,j≤yl.length∧s70=.int .i64 j∧s21=.bool (listedB (yl.take j) z.key)∧w9.grownBy wk none) (fun _ s70 _=>yl.length-(RowKit.intOf s70).toNat)
      case atStart=>exact⟨0,Nat.zero_le _,rfl,rfl,Ab_ _ _⟩
      case round=>
       clear aa;obtain⟨j,hj,rfl,rfl,hg7⟩:=hrel;have HGE:=hh_ (Aa_ HG9.out hg7)
       by_cases hjl:j<yl.length
       ·obtain⟨gy,oy,cy,hvy,hgy,hcy⟩:=(RdL.same Hyre.out.lines HGE.out).at_ Av_ hjl
        cases hvy;have y0:=hcy 0 _ rfl;have y1:=hcy 1 _ rfl;have y2:=hcy 2 _ rfl;rw[Nat.add_zero] at y0
        have hjlt :(j:Int)<(yl.length:Int):=by omega
        have hsn:=Lf_ hjl z.key;have hse:=Ra_ yl[j].key z.key;have HFj:=hh_ (HF2.out _ (mg_ hjl));have HSN:=hh_ hsn;clear hcy hsn;generalize yl[j]=y at *;have G8:=Ad_ hg7 (.cells #[.string y.key,.int .u64 y.lo,.int .u64 y.hi] 46);have A8:=(Blk.new wr #[.string y.key,.int .u64 y.lo,.int .u64 y.hi] 46).cell;have A9:=((HA9.out.same hg7).same (ga_ wr (.cells #[.string y.key,.int .u64 y.lo,.int .u64 y.hi] 46) none)).cell;clear hg7
        by_cases hke:y.key=z.key
        ·obtain⟨b1,b2⟩:=HFj.out hke
         rw[decide_eq_true hke] at hse;have HS2:=hh_ (show listedB (yl.take (j+1)) z.key=true by rw[HSN.out,decide_eq_true hke,Bool.or_true]);clear hke HFj HSN
         go_wp2_with fail
         exact⟨⟨j+1,by omega,by go_num,by rw[HS2.out],G8⟩,by simp[RowKit.intOf];omega⟩
        ·rw[decide_eq_false hke] at hse
         have HS2:=hh_ (show listedB (yl.take (j+1)) z.key=listedB (yl.take j) z.key by rw[HSN.out,decide_eq_false hke,Bool.or_false]);clear hke HFj HSN;generalize listedB (yl.take j) z.key=lb at *
         go_wp2_with fail
         exact⟨⟨j+1,by omega,by go_num,by rw[HS2.out],G8⟩,by simp[RowKit.intOf];omega⟩
       ·have hje:yl.take j=yl:=tk_ (by omega)
        rw[hje];have a7:=(HAA.out.same hg7).cell;have a9:=(HA9.out.same hg7).cell;clear hje;generalize listedB yl z.key=lb at *;cases lb
        ·have hF:=HF3.out rfl
         go_wp2_with fail
         exact⟨⟨i+1,by omega,by go_num,HGE.out⟩,by simp[RowKit.intOf];omega⟩
        ·go_wp2_with fail
         exact⟨⟨i+1,by omega,by go_num,HGE.out⟩,by simp[RowKit.intOf];omega⟩
     ·have HB7:=HAe.out.same hg
      have HK7:=hh_ (Aa_ HKe.out hg);have C7:=hh_ (CE2.out wr hg)
      go_wp2_with (first
       |(refine A0_ rfl _ rfl _ rfl HB7 ?_)
       |(go_at_call 15;refine C7.out.mono ?_;rintro e wf ⟨rfl,gf⟩))
      exact⟨⟨k+1,by omega,by go_num,Aa_ HK7.out gf⟩,by simp[RowKit.intOf];omega⟩
  ·have hg2:=Aa_ HG.out hg
   go_wp2_with (go_at_call 6;refine(T1_ _).mono ?_;rintro e w6 ⟨rfl,G6⟩)
   go_ret
   exact Ba_ rfl (Aa_ hg2 G6)
end
section
open Go.RowKit
theorem own:ownKnob Tryz.prog.godebug=none:=by kernel_rfl
theorem U3_:laidOutB Tryz.prog=true:=by kernel_rfl
def IsRow (k:IntKind) (w:World) (a:Option Addr) (len cap:Nat) (zs:List Int):Prop:=
 (a=none∧len=0∧cap=0∧zs=[]) ∨
 ∃x,a=some x∧len≤cap∧cap≤maxLen∧zs.length=cap∧(∀i,i<zs.length→w.cell? (x.add i)=some (.int k (zs.getD i 0)))∧∀n∈zs,(Lit.int k n).wf=true
theorem IsRow.rd {k:IntKind} {w:World} {a:Option Addr} {len cap:Nat} {zs:List Int} (h:IsRow k w a len cap zs):Rd w 1 (.slice a len cap) len ((zs.take len).map (fun x=>Value.int k x)):=by
 rcases h with⟨rfl,rfl,rfl,rfl⟩ |⟨x,rfl,h1,h2,h3,h4,h5⟩
 ·exact⟨by simp,by omega,.inl ⟨rfl,_,_,rfl⟩⟩
 ·have hm:len≤9223372036854775807:=by unfold maxLen at h2;omega
  rcases Nat.eq_zero_or_pos len with rfl|h0
  ·exact⟨by simp,by omega,.inl ⟨rfl,_,_,rfl⟩⟩
  ·obtain⟨b,off,spot⟩:=x
   have hc:=h4 0 (by omega)
   cases spot with
   | some s=>
    exfalso
    unfold Addr.add at hc
    simp[World.cell?] at hc
    split at hc <;> simp_all
   | none=>
    refine⟨by simp;omega,hm,.inr ⟨b,off,cap,rfl,block_lt_of_cell hc,fun j u hu=>?_⟩⟩
    have hj:j<len:=by
     have:=(gs_ hu).1
     simp at this;omega
    have:=h4 j (by omega)
    have ha :(⟨b,off,none⟩:Addr).add j =⟨b,off+j,none⟩:=by unfold Addr.add;split <;> simp_all
    rw[ha] at this;rw[this,←hu]
    simp[hj,gq_ (show j<zs.length by omega)]
end
end Go.Proofs.YtckmgjmeanloaaaGreat
