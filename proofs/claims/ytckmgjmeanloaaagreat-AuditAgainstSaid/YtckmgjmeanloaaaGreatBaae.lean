/- Several texts in one file: contracts of functions of the given program, and plain laws, for the proof of a statement. -/
import Derived.Test.YtckmgjmeanloaaaGreatBaad
set_option maxHeartbeats 8000000
set_option maxRecDepth 100000
namespace Go.Proofs.YtckmgjmeanloaaaGreat
open Go.Proofs.Tryz
section
open Go.RowKit Go.Maps
abbrev KW:=Ap_×Int
def ctAt:List KW→Ap_→Int
 | [],_=>0
 | p::L,w=>if p.1=w then p.2 else ctAt L w
def ctHas:List KW→Ap_→Bool
 | [],_=>false
 | p::L,w=>decide (p.1=w)||ctHas L w
def ctK:List KW→Ap_→Nat
 | [],_=>0
 | p::L,w=>if p.1<w then ctK L w+1 else 0
def ctPut:List KW→Ap_→Int→List KW
 | [],w,n=>[(w,satA 0 n)]
 | p::L,w,n=>if p.1<w then p::ctPut L w n else if p.1=w then (w,satA p.2 n)::L else (w,satA 0 n)::p::L
def AscB (L:List KW):Prop:=L.Pairwise (fun p q=>p.1<q.1)
theorem b_ne {a b:Ap_} (h:a<b):a≠b:=fun e=>Cj_ a (by rw[e] at h ⊢;exact h)
theorem b_gt {a b:Ap_} (h:¬a<b) (hne:a≠b):b<a:=b_lt (b_le.2 h) fun e=>hne e.symm
theorem F9_ {w:Ap_}:∀{L:List KW},(∀q∈L,w<q.1)→ctHas L w=false
 | [],_=>rfl
 | p::L,h=>by
  have:=b_ne (h p (by simp))
  simp only[ctHas,F9_ fun q hq=>h q (List.mem_cons_of_mem p hq),Bool.or_false,decide_eq_false_iff_not]
  exact fun e=>this e.symm
theorem M3_ {w:Ap_}:∀{L:List KW},ctHas L w=false→ctAt L w=0
 | [],_=>rfl
 | p::L,h=>by
  simp only[ctHas,Bool.or_eq_false_iff,decide_eq_false_iff_not] at h;simp only[ctAt];rw[if_neg h.1];exact M3_ h.2
theorem Eu_ {w:Ap_}:∀{L:List KW},ctHas L w=true↔w∈L.map (·.1)
 | []=>by simp[ctHas]
 | p::L=>by simp only[ctHas,Bool.or_eq_true,decide_eq_true_eq,Eu_ (L:=L),List.map_cons,List.mem_cons];constructor <;> (rintro(h|h) <;> simp_all)
theorem ck_ {w:Ap_} {L:List KW} (h:∀q∈L,w<q.1):ctAt L w=0:=M3_ (F9_ h)
theorem C1_ {p:KW} {L:List KW} (h:AscB (p::L)) :(∀q∈L,p.1<q.1)∧AscB L:=List.pairwise_cons.1 h
theorem T6_ {p:KW} {L:List KW} {w:Ap_} (h1:∀q∈L,p.1<q.1) (hp:w<p.1):∀q∈p::L,w<q.1:=fun q hq=>by
 rcases List.mem_cons.1 hq with rfl|hq
 ·exact hp
 ·exact Dh_ hp (h1 q hq)
theorem Or_ {w v:Ap_} {n:Int}:∀{L:List KW},AscB L→ctAt (ctPut L w n) v=if v=w then satA (ctAt L w) n else ctAt L v
 | [],_=>by
  simp only[ctPut,ctAt]
  by_cases h:v=w
  ·rw[if_pos h,if_pos h.symm]
  ·rw[if_neg h,if_neg fun e=>h e.symm]
 | p::L,hA=>by
  obtain⟨h1,h2⟩:=C1_ hA;simp only[ctPut]
  by_cases a:p.1<w
  ·rw[if_pos a]
   simp only[ctAt];rw[Or_ h2]
   by_cases b:v=w
   ·rw[if_pos b,if_pos b,if_neg (fun e=>b_ne a (e.trans b)),if_neg (b_ne a)]
   ·rw[if_neg b,if_neg b]
  ·rw[if_neg a]
   by_cases c:p.1=w
   ·rw[if_pos c]
    simp only[ctAt]
    by_cases b:v=w
    ·rw[if_pos b,if_pos b.symm,if_pos c]
    ·rw[if_neg b,if_neg fun e=>b e.symm,if_neg fun e=>b (e.symm.trans c)]
   ·rw[if_neg c]
    have hz:ctAt (p::L) w=0:=ck_ (T6_ h1 (b_gt a c))
    by_cases b:v=w
    ·rw[if_pos b,hz];simp only[ctAt];rw[if_pos b.symm]
    ·rw[if_neg b]
     show(if w=v then satA 0 n else ctAt (p::L) v)=_
     rw[if_neg fun e=>b e.symm]
theorem Mi_ {w v:Ap_} {n:Int}:∀{L:List KW},ctHas (ctPut L w n) v =(decide (v=w)||ctHas L v)
 | []=>by
  have :(w=v) =(v=w):=propext ⟨Eq.symm,Eq.symm⟩;simp only[ctPut,ctHas,this]
 | p::L=>by
  have e :(w=v) =(v=w):=propext ⟨Eq.symm,Eq.symm⟩;simp only[ctPut]
  by_cases a:p.1<w
  ·rw[if_pos a];simp only[ctHas,Mi_ (L:=L)]
   cases decide (p.1=v) <;> cases decide (v=w) <;> rfl
  ·rw[if_neg a]
   by_cases c:p.1=w
   ·rw[if_pos c];simp only[ctHas,e,c]
    cases decide (v=w) <;> rfl
   ·rw[if_neg c];simp only[ctHas,e]
theorem mem_ctPut {w:Ap_} {n:Int} {q:KW}:∀{L:List KW},q∈ctPut L w n→q.1=w∨q∈L
 | [],h=>by simp[ctPut] at h;exact .inl (by rw[h])
 | p::L,h=>by
  simp only[ctPut] at h
  by_cases a:p.1<w
  ·rw[if_pos a] at h
   rcases List.mem_cons.1 h with rfl|h
   ·exact .inr (by simp)
   ·exact(mem_ctPut h).imp id fun h=>List.mem_cons_of_mem p h
  ·rw[if_neg a] at h
   by_cases c:p.1=w
   ·rw[if_pos c] at h
    rcases List.mem_cons.1 h with rfl|h
    ·exact .inl rfl
    ·exact .inr (List.mem_cons_of_mem p h)
   ·rw[if_neg c] at h
    rcases List.mem_cons.1 h with rfl|h
    ·exact .inl rfl
    ·exact .inr h
theorem Pf_ {w:Ap_} {n:Int}:∀{L:List KW},AscB L→AscB (ctPut L w n)
 | [],_=>by simp[ctPut,AscB]
 | p::L,hA=>by
  obtain⟨h1,h2⟩:=C1_ hA;simp only[ctPut]
  by_cases a:p.1<w
  ·rw[if_pos a]
   refine List.pairwise_cons.2 ⟨fun q hq=>?_,Pf_ h2⟩
   rcases mem_ctPut hq with h|h
   ·rw[h];exact a
   ·exact h1 q h
  ·rw[if_neg a]
   by_cases c:p.1=w
   ·rw[if_pos c]
    exact List.pairwise_cons.2 ⟨fun q hq=>by rw[←c];exact h1 q hq,h2⟩
   ·rw[if_neg c]
    exact List.pairwise_cons.2 ⟨T6_ h1 (b_gt a c),hA⟩
theorem Me_ {w:Ap_} {n:Int}:∀{L:List KW},(ctPut L w n).length≤L.length+1
 | []=>by simp[ctPut]
 | p::L=>by
  have:=Me_ (w:=w) (n:=n) (L:=L)
  simp only[ctPut]
  split
  ·simp;omega
  ·split <;> simp
theorem O5_ {w:Ap_}:∀{L:List KW},ctK L w≤L.length
 | []=>le_ _
 | p::L=>by
  simp only[ctK];split
  ·have:=O5_ (w:=w) (L:=L);simp;exact this
  ·simp
theorem ar_ {w:Ap_}:∀{L:List KW} {j:Nat} {p:KW},j<ctK L w→L[j]?=some p→p.1<w
 | [],j,p,h,_=>by simp[ctK] at h
 | q::L,0,p,h,hp=>by
  simp at hp;subst hp
  simp only[ctK] at h;split at h
  ·assumption
  ·omega
 | q::L,j+1,p,h,hp=>by
  simp only[ctK] at h;split at h
  ·exact ar_ (L:=L) (j:=j) (by omega) (by simpa using hp)
  ·omega
theorem Gh_ {w:Ap_}:∀{L:List KW},AscB L→(ctHas L w=true↔L[ctK L w]?=some (w,ctAt L w))
 | [],_=>by simp[ctHas]
 | p::L,hA=>by
  obtain⟨h1,h2⟩:=C1_ hA;simp only[ctHas,ctK,ctAt]
  by_cases a:p.1<w
  ·rw[if_pos a,if_neg (b_ne a)]
   simp only[List.getElem?_cons_succ,←Gh_ h2,Bool.or_eq_true,decide_eq_true_eq]
   constructor
   ·rintro(h|h)
    ·exact absurd h (b_ne a)
    ·exact h
   ·exact .inr
  ·rw[if_neg a]
   by_cases c:p.1=w
   ·rw[if_pos c]
    simp only[c,decide_true,Bool.true_or,List.getElem?_cons_zero,true_iff,Option.some.injEq];rw[←c]
   ·rw[if_neg c]
    rw[show decide (p.1=w)=false from df_ c,F9_ fun q hq=>Dh_ (b_gt a c) (h1 q hq)];simp only[Bool.or_self,Bool.false_eq_true,List.getElem?_cons_zero,Option.some.injEq,false_iff];intro e;exact c (by rw[e])
theorem Yh_ {w:Ap_} {L:List KW} (hA:AscB L) {p:KW} (hp:L[ctK L w]?=some p) (hne:p.1≠w):ctHas L w=false:=by
 cases h:ctHas L w with
 | false=>rfl
 | true=>
  rw[(Gh_ hA).1 h] at hp;cases hp;exact absurd rfl hne
theorem V4_ {w:Ap_} {L:List KW} (hA:AscB L) (hk:ctK L w=L.length):ctHas L w=false:=by
 cases h:ctHas L w with
 | false=>rfl
 | true=>
  have:=(Gh_ hA).1 h
  rw[hk] at this;simp at this
theorem Un_ {w:Ap_} {L:List KW} {k:Nat} {p:KW} (h:L[k]?=some p) (e:p.1=w):ctHas L w=true:=by
 rw[Eu_];exact List.mem_map.2 ⟨p,mo_ h,e⟩
theorem Pm_ {w:Ap_} {n:Int}:∀{L:List KW},AscB L→ctHas L w=false→ctPut L w n=L.take (ctK L w)++[(w,satA 0 n)]++L.drop (ctK L w)
 | [],_,_=>rfl
 | p::L,hA,h=>by
  obtain⟨h1,h2⟩:=C1_ hA;simp only[ctHas,Bool.or_eq_false_iff,decide_eq_false_iff_not] at h;simp only[ctPut,ctK]
  by_cases a:p.1<w
  ·rw[if_pos a,if_pos a,Pm_ h2 h.2];rfl
  ·rw[if_neg a,if_neg a,if_neg h.1];rfl
theorem Mf_ {w:Ap_} {n:Int}:∀{L:List KW},AscB L→ctHas L w=true→ctPut L w n=L.set (ctK L w) (w,satA (ctAt L w) n)
 | [],_,h=>by simp[ctHas] at h
 | p::L,hA,h=>by
  obtain⟨h1,h2⟩:=C1_ hA;simp only[ctPut,ctK,ctAt]
  by_cases a:p.1<w
  ·simp only[ctHas,show decide (p.1=w)=false from df_ (b_ne a),Bool.false_or] at h
   rw[if_pos a,if_pos a,if_neg (b_ne a),Mf_ h2 h];rfl
  ·rw[if_neg a,if_neg a]
   by_cases c:p.1=w
   ·rw[if_pos c,if_pos c];rfl
   ·exfalso
    rw[F9_ (T6_ h1 (b_gt a c))] at h;cases h
structure CntD {H:Type} (D:DataW H) (L:List KW):Prop where
 has:∀k:Ap_,Maps.has D (.string k)=ctHas L k
 at_:∀k:Ap_,D.atKey (.string k) (.lit (.int .u64 0))=.lit (.int .u64 (ctAt L k))
section
variable {H:Type} {D:DataW H} {L:List KW}
theorem CntD.nil:CntD (.map []:DataW H) []:=⟨fun _=>rfl,fun _=>rfl⟩
theorem Fr_ {k v:Ap_} (h:k≠v) :(Lit.string k)≠.string v:=fun e=>by cases e;exact h rfl
theorem CntD.put (h:CntD D L) (hA:AscB L) (hD:IsMap D) {w:Ap_} {n:Int} (hk:WideAt.IsKeyLit (.string w)):CntD (D.put (.string w) (.lit (.int .u64 (satA (ctAt L w) n)))) (ctPut L w n):=by
 constructor
 ·intro k
  rw[Mi_]
  by_cases e:k=w
  ·subst e;rw[has_put_same hD hk];simp
  ·rw[has_put_other (Fr_ e),h.has];simp[e]
 ·intro k
  rw[Or_ hA]
  by_cases e:k=w
  ·subst e;rw[atKey_put_same hD hk,if_pos rfl]
  ·rw[atKey_put_other (Fr_ e),h.at_,if_neg e]
theorem Qx_ {L:List KW} (h:AscB L) :(L.map (·.1)).Nodup:=by
 unfold List.Nodup;rw[List.pairwise_map]
 exact h.imp fun h=>b_ne h
theorem N3_ {L:List KW} (h:AscB L) :(L.map (·.1)).Pairwise (fun x y:Ap_=>decide (x≤y)=true):=by
 rw[List.pairwise_map]
 exact h.imp fun h=>by simp[b8_ h]
end
end
section
open Go.RowKit Go.Sort
theorem X0_ {α:Type} {f:α→List Value} {s:Nat} {e:TypeId} {B:Nat} {w:World} (hf:∀x,(f x).length=s) {cs:Array Value} {y:α} (hcs:cs.toList=f y) (hB:B≤w.heap.size):Own f s e B (w.alloc (.cells cs e)) (.slice (some ⟨w.heap.size,0,none⟩) 1 1) [y]:=by
 have hl:cs.size=s:=by rw[←hf y,←hcs];exact Array.length_toList.symm
 refine⟨by simp[cellsOf,hf],.inr ⟨w.heap.size,1,cs,rfl,hB,heap_alloc_new w _,by simp,by unfold maxLen;omega,by simp[hl],?_⟩⟩;simp only[cellsOf,List.flatMap_cons,List.flatMap_nil,List.append_nil,ls_,Nat.one_mul];rw[←hcs,tk_ (by rw[Array.length_toList,hl];exact le_ _)]
section
variable {α:Type} {f:α→List Value} {st e:TypeId} {z:Value} {size bytes:Nat} {w:World} {B:Nat} {v:Value} {l:List α}
variable {o:Oper} {a:Act} {ops:Array Oper} {rest:List Oper} {Q:Exit→Act→World→Prop}
theorem X8_ (E:Elt st e z size bytes) (h1:OneF f) (hf:∀x,(f x).length=size) (hown:Own f size e B w v l) (y:α) (hb :(l.length+1)*bytes≤140737488355328) (h63:l.length+1≤9223372036854775807) (hbase:B≤w.heap.size) {te:TypeId} {cs:Array Value} (hcs:cs.toList=f y) {g:Nat} (hg:w.heap.size=g)
  (hgd:o.guard=none) (s x:Operand) (ho:o.op=.call { callee:=.builtin .append,args:=#[s,x],argTypes:=#[st,st] }) (hs:a.eval s=v) (hx:a.eval x=.slice (some ⟨g,0,none⟩) 1 1)
  (h:∀v' w',Own f size e B w' v' (l++[y])→w.grownBy w' v.ownBlock→Lies v v' w.heap.size→wpList Tryz.prog ops Q rest (a.put o.dst v') w'):wpList Tryz.prog ops Q (o::rest) a (w.alloc (.cells cs te)):=by
 subst hg;exact A6_ E h1 hf hown y hb h63 hbase hcs hgd s x ho hs hx h
end
def bs_ (B b:Nat) (w:World) (e:Ending) (w':World):Prop:=∃r,e=.returned (.int .u64 r)∧W64 r∧Deck B w' b∧w.grownBy w' (some b)
theorem S4_ {B b:Nat} {w w':World} {r:Int} (h:W64 r) (hd:Deck B w' b) (hg:w.grownBy w' (some b)):bs_ B b w (.returned (.int .u64 r)) w':=⟨r,rfl,h,hd,hg⟩
theorem ce_ {B:Nat} (b:Nat) (w:World) (hd:Deck B w b):Calls Tryz.prog 149 #[.pointer (some ⟨b,0,none⟩)] w (bs_ B b w):=by
 go_enter func149,ntmps149
 go_wp2_with fail
 refine(A3_ b _ w hd (by omega) (by omega)).mono ?_;rintro e w1 ⟨r1,rfl,ha1,hb1,hd1,hg1⟩;have hw:IntKind.u64.wrap (1+r1)=1+r1:=IntWalk.u64_in _ (by omega)
 go_wp2_with fail
 go_ret
 exact S4_ ⟨by omega,by omega⟩ hd1 hg1
theorem Tm_ (x:Int):W64 (IntKind.u64.wrap x):=by
 have:=IntKind.wrap_u64 x
 unfold W64;rw[this];omega
theorem Se_ {B:Nat} (b:Nat) (w:World) (hd:Deck B w b):Calls Tryz.prog 150 #[.pointer (some ⟨b,0,none⟩)] w (bs_ B b w):=by
 go_enter func150,ntmps150
 go_wp2_with fail
 refine(A3_ b _ w hd (by omega) (by omega)).mono ?_;rintro e w1 ⟨r1,rfl,ha1,hb1,hd1,hg1⟩
 have HN:=hh_ fun m h0 h1=>A3_ b m w1 hd1 h0 h1
 by_cases h0:r1=0
 ·subst h0
  go_wp2_with fail
  refine(HN.out _ (by omega) (by omega)).mono ?_;rintro e w2 ⟨r2,rfl,ha2,hb2,hd2,hg2⟩;have hw:IntKind.u64.wrap (1+r2)=1+r2:=IntWalk.u64_in _ (by omega)
  go_wp2_with fail
  go_ret
  exact S4_ ⟨by omega,by omega⟩ hd2 (Aa_ hg1 hg2)
 by_cases h1:r1=1
 ·subst h1
  go_wp2_with fail
  refine(HN.out _ (by omega) (by omega)).mono ?_;rintro e w2 ⟨r2,rfl,ha2,hb2,hd2,hg2⟩;have hw:IntKind.u64.wrap r2=r2:=IntWalk.u64_in _ (by omega);have hw2:IntKind.u64.wrap (9223372036854775808-r2)=9223372036854775808-r2:=IntWalk.u64_in _ (by omega)
  go_wp2_with fail
  go_ret
  exact S4_ ⟨by omega,by omega⟩ hd2 (Aa_ hg1 hg2)
 have f0 :((r1:Int)==0)=false:=by simpa using h0
 have f1 :((r1:Int)==1)=false:=by simpa using h1
 by_cases h2:r1=2
 ·subst h2
  clear h0 h1 f0 f1
  go_wp2_with fail
  refine(HN.out _ (by omega) (by omega)).mono ?_;rintro e w2 ⟨r2,rfl,ha2,hb2,hd2,hg2⟩;have hw:IntKind.u64.wrap (1+r2)=1+r2:=IntWalk.u64_in _ (by omega)
  have HN2:=hh_ fun m h0 h1=>A3_ b m w2 hd2 h0 h1
  go_wp2_with fail
  refine(HN2.out _ (by omega) (by omega)).mono ?_;rintro e w3 ⟨r3,rfl,ha3,hb3,hd3,hg3⟩;have hw3:IntKind.u64.wrap r3=r3:=IntWalk.u64_in _ (by omega)
  go_wp2_with fail
  go_ret
  exact S4_ (Tm_ _) hd3 (Aa_ hg1 (Aa_ hg2 hg3))
 have f2 :((r1:Int)==2)=false:=by simpa using h2
 clear h0 h1 h2
 go_wp2_with fail
 refine(HN.out _ (by omega) (by omega)).mono ?_;rintro e w2 ⟨r2,rfl,ha2,hb2,hd2,hg2⟩;have hw:IntKind.u64.wrap (1+r2)=1+r2:=IntWalk.u64_in _ (by omega)
 go_wp2_with fail
 go_ret
 exact S4_ ⟨by omega,by omega⟩ hd2 (Aa_ hg1 hg2)
structure TagsM (L:List TagR):Prop where
 few:1≤L.length∧L.length≤2
 ok:∀t∈L,tagE t=0
 size:∀t∈L,t.name.size≤6∧t.value.size≤10
 dif:Dif L
theorem nm_k (b:UInt8):tagE ⟨⟨#[107]⟩,⟨#[b]⟩⟩=0:=by
 simp[tagE,nmB,letB,ByteArray.size]
theorem f9_:tagE ⟨⟨#[97,46,98]⟩,⟨#[]⟩⟩=0:=by
 simp[tagE,nmB,letB,ByteArray.size]
def hostN (b:UInt8):ByteArray:=⟨#[104,111,115,116,45]⟩++⟨#[b]⟩
theorem D7_ (b:UInt8) :(hostN b).data.toList=[104,111,115,116,45,b]:=by
 unfold hostN;rw[Z5_];rfl
theorem bh_ {b:UInt8} (h:48≤b.toNat∧b.toNat≤50) (v:ByteArray) (hv:v.size=10):tagE ⟨hostN b,v⟩=0:=by
 have hs :(hostN b).size=6:=by
  have :(hostN b).data.toList.length=6:=by rw[D7_];rfl
  exact this
 unfold tagE
 have hl:letB b=true:=by simp[letB];omega
 rw[if_neg (by unfold nmB;rw[D7_];simp[hl];simp[letB]),if_neg (by simp only[hs];omega),if_neg (by simp only[hs,hv];omega)]
theorem er_ (b:UInt8):TagsM [⟨⟨#[107]⟩,⟨#[b]⟩⟩]:=⟨by simp,by intro t ht;rw[ms_ ht];exact nm_k b,by intro t ht;rw[ms_ ht];simp[ByteArray.size],by simp[Dif]⟩
theorem d5_ (b:UInt8):TagsM ([⟨⟨#[107]⟩,⟨#[b]⟩⟩]++[⟨⟨#[97,46,98]⟩,⟨#[]⟩⟩]):=
 ⟨by simp,by intro t ht;simp at ht;rcases ht with rfl|rfl;exact nm_k b;exact f9_,by intro t ht;simp at ht;rcases ht with rfl|rfl <;> simp[ByteArray.size],by simp[Dif,nmB]⟩
theorem fl_ (b c:UInt8) (h:48≤c.toNat∧c.toNat≤50):TagsM ([⟨⟨#[107]⟩,⟨#[b]⟩⟩]++[⟨hostN c,⟨#[48,49,50,51,52,53,54,55,56,57]⟩⟩]):=by
 have hs :(hostN c).size=6:=by
  have :(hostN c).data.toList.length=6:=by rw[D7_];rfl
  exact this
 refine⟨by simp,?_,?_,?_⟩
 ·intro t ht;simp at ht;rcases ht with rfl|rfl
  ·exact nm_k b
  ·exact bh_ h _ rfl
 ·intro t ht;simp at ht;rcases ht with rfl|rfl
  ·simp[ByteArray.size]
  ·exact⟨by show(hostN c).size≤6;omega,by show(10:Nat)≤10;omega⟩
 ·simp[Dif,nmB,D7_]
def TagsD (B b:Nat) (w:World) (e:Ending) (w':World):Prop:=∃v L,e=.returned v∧Own tagF 2 53 w.heap.size w' v L∧TagsM L∧Deck B w' b∧w.grownBy w' (some b)
theorem Td_ {B:Nat} (b:Nat) (w:World) (hd:Deck B w b) (hB:B≤w.heap.size):Calls Tryz.prog 78 #[.pointer (some ⟨b,0,none⟩)] w (TagsD B b w):=by
 have hbB:=hd.below
 go_enter func78,ntmps78
 go_upto_region 2 with(go_at_call 37;refine(A3_ b _ w hd (by omega) (by omega)).mono ?_;rintro e w1 ⟨r1,rfl,ha1,hb1,hd1,hg1⟩)
 obtain⟨k,rfl⟩:=Int.eq_ofNat_of_zero_le ha1;obtain⟨b1,hb1e⟩:∃b1:UInt8,UInt8.ofNat (97+k)=b1:=⟨_,rfl⟩
 have hw1:IntKind.u8.wrap (97+(k:Int)) =(b1.toNat:Int):=by
  have:=I0_ (n:=97+k)
  rw[hb1e] at this;rw[←this];congr 1
 have hc1:=fun w' g h=>P4_ w' g b1 h
 clear hb1e
 go_upto_region 3 with fail
 have hz1:w.heap.size≤(w1.alloc (.cells #[.int .u8 b1.toNat] 5)).heap.size:=by have:=hg1.size;simp;omega
 have O2:=X0_ (f:=tagF) (s:=2) (e:=53) (w:=w1.alloc (.cells #[.int .u8 b1.toNat] 5)) Av_ (cs:=#[.string ⟨#[107]⟩,.string ⟨#[b1]⟩]) (y:=⟨⟨#[107]⟩,⟨#[b1]⟩⟩) rfl hz1;have G2:w1.grownBy ((w1.alloc (.cells #[.int .u8 b1.toNat] 5)).alloc (.cells #[.string ⟨#[107]⟩,.string ⟨#[b1]⟩] 53)) none:=Ad_ (ga_ _ _ _) _
 have hsz :(w1.alloc (.cells #[.int .u8 b1.toNat] 5)).heap.size=w1.heap.size+1:=by simp
 have hgB:B≤(w1.alloc (.cells #[.int .u8 b1.toNat] 5)).heap.size:=by omega
 rw[hsz] at O2 hgB;clear hz1 hsz;generalize (w1.alloc (.cells #[.int .u8 b1.toNat] 5)).alloc (.cells #[.string ⟨#[107]⟩,.string ⟨#[b1]⟩] 53)=w2 at *;generalize w1.heap.size+1=g2 at *;have D2:=hd1.kept G2 (by simp);have K2:=hh_ (Aa_ hg1 (Ak_ G2 (some b)));have HO2:=hh_ O2;clear hc1 hw1 O2 G2 hd1 hg1
 go_upto_region 4 with(go_at_call 37;refine(A3_ b _ w2 D2 (by omega) (by omega)).mono ?_;rintro e w3 ⟨r2,rfl,ha2,hb2,hd3,hg3⟩)
 have K3:=hh_ (Aa_ K2.out hg3);have HO3:=hh_ (HO2.out.kept hg3 (fun k hk e=>by cases e;have:=(HO2.out.lt _ hk).1;omega));have hz3:=K3.out.size
 have hbs :(([⟨⟨#[107]⟩,⟨#[b1]⟩⟩]:List TagR).length+1)*32≤140737488355328:=by simp
 have hbt :([⟨⟨#[107]⟩,⟨#[b1]⟩⟩]:List TagR).length+1≤9223372036854775807:=by simp
 have fin:∀v' w' L,Own tagF 2 53 w.heap.size w' v' L→TagsM L→∀x,World.grownBy w3 x (some b)→Deck B x b→(x.grownBy w' (Value.ownBlock (.slice (some ⟨g2,0,none⟩) 1 1)))→TagsD B b w (.returned v') w':=by
  intro v' w' L ho hm x hx hdx hg
  refine⟨v',L,rfl,ho,hm,hdx.kept hg (by
   intro k e
   have:g2=k:=by simpa [Value.ownBlock] using e
   omega),?_⟩
  have h1:=Aa_ K3.out hx;exact Af_ h1 hg (HO2.out.lt g2 rfl).1
 have Hfin:=hh_ fin;clear HO2 K2 D2 fin
 by_cases h0:r2=0
 ·subst h0
  go_wp2_with (at_builtin;refine A6_ B5_ Cr_ Av_ HO3.out ⟨⟨#[97,46,98]⟩,⟨#[]⟩⟩ hbs hbt hz3 (by rfl) rfl _ _ (by rfl) (by rfl) (by rfl) ?_;intro v5 w5 o5 g5 l5)
  go_ret
  exact Hfin.out _ _ _ o5 (d5_ b1) _ (Ab_ _ _) hd3 g5
 by_cases h1:r2=1
 ·subst h1
  clear h0
  have HN:=hh_ fun m h0 h1=>A3_ b m w3 hd3 h0 h1
  go_wp2_with fail
  refine(HN.out _ (by omega) (by omega)).mono ?_;rintro e w4 ⟨r3,rfl,ha3,hb3,hd4,hg4⟩;obtain⟨q,rfl⟩:=Int.eq_ofNat_of_zero_le ha3;obtain⟨c1,hc1e⟩:∃c1:UInt8,UInt8.ofNat (48+q)=c1:=⟨_,rfl⟩
  have hcr:48≤c1.toNat∧c1.toNat≤50:=by rw[←hc1e,UInt8.toNat_ofNat'];omega
  have hw1:IntKind.u8.wrap (48+(q:Int)) =(c1.toNat:Int):=by
   have:=I0_ (n:=48+q)
   rw[hc1e] at this;rw[←this];congr 1
  have hc1:=fun w' g h=>P4_ w' g c1 h
  have HM:=hh_ (fl_ b1 c1 hcr);clear hc1e hcr
  have HO4:=hh_ (HO3.out.kept hg4 (by
   intro k hk e;cases e
   have:g2=b:=by simpa [Value.ownBlock] using hk
   omega))
  have hz4:=lt_ hz3 hg4.size;have O4:=HO4.out.same (ga_ w4 (.cells #[.int .u8 c1.toNat] 5) none)
  have hz5:w.heap.size≤(w4.alloc (.cells #[.int .u8 c1.toNat] 5)).heap.size:=by simp;omega
  have G4:=Aa_ hg4 (ga_ w4 (.cells #[.int .u8 c1.toNat] 5) (some b));have D4:=hd4.kept (ga_ w4 (.cells #[.int .u8 c1.toNat] 5) none) (by simp);have Hcs:=hh_ (show(#[Value.string (⟨#[104,111,115,116,45]⟩++⟨#[c1]⟩),Value.string ⟨#[48,49,50,51,52,53,54,55,56,57]⟩]:Array Value).toList=tagF ⟨hostN c1,⟨#[48,49,50,51,52,53,54,55,56,57]⟩⟩ from rfl)
  have hg6 :(w4.alloc (.cells #[.int .u8 c1.toNat] 5)).heap.size=w4.heap.size+1:=by simp
  have Hg6:=hh_ hg6;clear hg6
  go_wp2_with (at_builtin;refine X8_ B5_ Cr_ Av_ O4 ⟨hostN c1,⟨#[48,49,50,51,52,53,54,55,56,57]⟩⟩ hbs hbt hz5 Hcs.out Hg6.out rfl _ _ (by rfl) (by rfl) (by rfl) ?_;intro v5 w5 o5 g5 l5)
  go_ret
  exact Hfin.out _ _ _ o5 HM.out _ G4 D4 g5
 have f0 :((r2:Int)==0)=false:=by simpa using h0
 have f1 :((r2:Int)==1)=false:=by simpa using h1
 clear h0 h1
 go_wp2_with fail
 go_ret
 exact⟨_,_,rfl,HO3.out,er_ b1,hd3,K3.out⟩
end
section
open Go.RowKit Go.Sort
theorem Cx_ (v:Value) (l:List UInt8) (n:Nat) (w:World) (h:RdL byF 1 w v l) (hn:n<18446744073709551616) (hl:l.length≤1000000000000):Calls Tryz.prog 113 #[v,.int .u64 n] w (RetOwn byF 1 5 (l++vb n) w):=by
 obtain⟨a,c,rfl⟩:=h.shape;have H:=hh_ h
 have hn64 :(n:Int)≤18446744073709551615:=by omega
 have hb1:l.length*1≤140737488355328:=by omega
 have hb2:l.length≤9223372036854775807:=by omega
 have hten:=C4_ hn;clear h hn
 go_enter func113,ntmps113
 go_upto_region 1 with fail
 have N:=Aw_ (e:=5) byF 1 (le_ w.heap.size);have R:=H.out.same (ga_ w (.cells #[] 5) none)
 go_wp2_with (at_builtin;refine A2_ Dj_ Dy_ N R rfl hb1 hb2 (by simp) (by rfl) _ _ (by rfl) (by rfl) (by rfl) ?_;intro v4 w4 o4 g4 l4)
 have G4:w.grownBy w4 none:=Aa_ (ga_ w _ none) g4;clear N R g4 l4
 go_loopw [1,5] (fun s1 s5 wk=>∃(m:Nat) (L:List UInt8),s1=.int .u64 m∧(m:Int)≤18446744073709551615∧Own byF 1 5 w.heap.size wk s5 L∧L++vb m=l++vb n∧w.grownBy wk none) (fun s1 _ _=>(RowKit.intOf s1).toNat)
 case atStart=>exact⟨n,l,rfl,hn64,o4,rfl,G4⟩
 case round=>
  obtain⟨m,L,rfl,hm,hO,hLv,hg⟩:=hrel
  have hLl:L.length≤l.length+10:=by
   have h1:=congrArg List.length hLv;rw[la_,la_] at h1
   omega
  have HL:=hh_ hLv
  have hb3 :(L.length+1)*1≤140737488355328:=by omega
  have hb4:L.length+1≤9223372036854775807:=by omega
  have hsz:=hg.size;clear hLv
  by_cases hbig:m<128
  ·have Hv:=hh_ (E4_ hbig)
   have hm1 :(m:Int)<128:=by omega
   have hw:IntKind.u8.wrap (m:Int) =((UInt8.ofNat m).toNat:Int):=by rw[Nb_,d6_ (by omega)];omega
   have Hcs:=hh_ (show(#[Value.int .u8 ((UInt8.ofNat m).toNat:Int)]:Array Value).toList=byF (UInt8.ofNat m) from rfl)
   go_wp2_with (at_builtin;refine A6_ Dj_ Dy_ Bl_ hO (UInt8.ofNat m) hb3 hb4 hsz Hcs.out rfl (.tmp 20) (.tmp 23) rfl rfl rfl ?_;intro v5 w5 o5 g5 l5)
   go_ret
   exact⟨_,rfl,by rw[←HL.out,Hv.out];exact o5,Ao_ hg hO (le_ _) g5⟩
  ·have Hv:=hh_ (ay_ hbig)
   have hm1 :(128:Int)≤(m:Int):=by omega
   have hm2:¬((m:Int)<128):=by omega
   obtain⟨b0,hb0⟩:∃b0,UInt8.ofNat (m%128+128)=b0:=⟨_,rfl⟩
   have hw2 :(b0.toNat:Int) =(m:Int)%128+128:=by rw[←hb0,d6_ (by omega)];omega
   have Hcs:=hh_ (show(#[Value.int .u8 ((m:Int)%128+128)]:Array Value).toList=byF b0 by rw[←hw2];rfl);rw[hb0] at Hv;clear hb0 hw2
   go_wp2_with (at_builtin;refine A6_ Dj_ Dy_ Bl_ hO b0 hb3 hb4 hsz Hcs.out rfl (.tmp 11) (.tmp 16) rfl rfl rfl ?_;intro v5 w5 o5 g5 l5)
   exact⟨⟨m/128,L++[b0],rfl,by omega,o5,by rw[List.append_assoc,List.singleton_append,←Hv.out,HL.out],Ao_ hg hO (le_ _) g5⟩,by simp[RowKit.intOf];omega⟩
structure EvR where
 (vt:Value) (time weight:Int) (tags:List TagR)
def evF (x:EvR):List Value:=[x.vt,.int .i64 x.time,.int .u64 x.weight]
theorem Uy_ (x:EvR) :(evF x).length=3:=rfl
structure EvOk (x:EvR):Prop where
 time:0≤x.time∧x.time≤1099511627776
 weight:W64 x.weight
 few:x.tags.length≤3
 size:∀t∈x.tags,t.name.size≤70∧t.value.size≤70
def tgB (t:TagR):List UInt8:=vb t.name.size++nmB t++vb t.value.size++vlB t
def tgsB (l:List TagR):List UInt8:=l.flatMap tgB
theorem Sv_ (l:List TagR) (t:TagR):tgsB (l++[t])=tgsB l++tgB t:=by simp[tgsB]
def evB (x:EvR):List UInt8:=vb x.time.toNat++vb x.weight.toNat++vb x.tags.length++tgsB x.tags
def evsB (l:List EvR):List UInt8:=l.flatMap evB
theorem Rz_ (l:List EvR) (x:EvR):evsB (l++[x])=evsB l++evB x:=by simp[evsB]
def bodyB (l:List EvR):List UInt8:=vb l.length++evsB l
def frB (l:List EvR):List UInt8:=vb (bodyB l).length++bodyB l
theorem cb_ {t:TagR} (h:t.name.size≤70∧t.value.size≤70) :(tgB t).length≤142:=by
 have e1 :(vb t.name.size).length=1:=by rw[E4_ (by omega)];rfl
 have e2 :(vb t.value.size).length=1:=by rw[E4_ (by omega)];rfl
 unfold tgB;simp only[la_,O1_,fr_];omega
theorem P0_ {l:List TagR} (h:∀t∈l,t.name.size≤70∧t.value.size≤70) :(tgsB l).length≤142*l.length:=by
 induction l with
 | nil=>simp[tgsB]
 | cons a l ih=>
  have h1:=ih fun o ho=>h o (List.mem_cons_of_mem _ ho)
  have h2:=cb_ (h a (by simp));simp only[tgsB,List.flatMap_cons,la_,lc_] at *
  omega
theorem S3_ {x:EvR} (h:EvOk x) :(evB x).length≤456:=by
 have h1:=h.time;have h2:=h.weight;have h3:=h.few;have h4:=P0_ h.size;unfold W64 at h2;have e1:=C4_ (show x.time.toNat<18446744073709551616 by omega);have e2:=C4_ (show x.weight.toNat<18446744073709551616 by omega);have e3:=C4_ (show x.tags.length<18446744073709551616 by omega);unfold evB;simp only[la_];omega
theorem Pa_ {l:List EvR} (h:∀x∈l,EvOk x) :(evsB l).length≤456*l.length:=by
 induction l with
 | nil=>simp[evsB]
 | cons a l ih=>
  have h1:=ih fun o ho=>h o (List.mem_cons_of_mem _ ho)
  have h2:=S3_ (h a (by simp));simp only[evsB,List.flatMap_cons,la_,lc_] at *
  omega
theorem Hm_ {l:List EvR} (h:∀x∈l,EvOk x) (hl:l.length≤4) :(bodyB l).length≤1834:=by
 have h1:=Pa_ h;have e3:=C4_ (show l.length<18446744073709551616 by omega);unfold bodyB;rw[la_];omega
theorem bn_ {l:List EvR} (h:∀x∈l,EvOk x) (hl:l.length≤4) :(frB l).length≤1844:=by
 have h1:=Hm_ h hl;have e3:=C4_ (show(bodyB l).length<18446744073709551616 by omega);unfold frB;rw[la_];omega
def Sd_ (l:List UInt8) (w:World) (e:Ending) (w':World):Prop:=∃v,e=.returned (.tuple #[v,.int .i64 0])∧Own byF 1 5 w.heap.size w' v l∧w.grownBy w' none
theorem au_ (v:Value) (l:List UInt8) (n:Int) (w:World) (h:RdL byF 1 w v l) (h0:0≤n) (hn:n<18446744073709551616) (hl:l.length≤1000000000000):Calls Tryz.prog 113 #[v,.int .u64 n] w (RetOwn byF 1 5 (l++vb n.toNat) w):=by
 obtain⟨m,rfl⟩:=Int.eq_ofNat_of_zero_le h0;exact Cx_ v l m w h (by omega) hl
theorem X6_ (x:EvR) (w:World) (hR:RdL tagF 2 w x.vt x.tags) (hE:EvOk x):Calls Tryz.prog 148 #[.agg #[x.vt,.int .i64 x.time,.int .u64 x.weight]] w (Sd_ (evB x) w):=by
 obtain⟨va,vc,e1⟩:=hR.shape;obtain⟨vt,t,wt,tg⟩:=x;dsimp only at *;subst e1;obtain⟨⟨t0,t1⟩,hw,hfew,hsz⟩:=hE;dsimp only at *;unfold W64 at hw;obtain⟨w0,w1'⟩:=hw;have HSZ:=hh_ hsz;have HR:=hh_ hR;have HB:=hh_ (show evB ⟨.slice va tg.length vc,t,wt,tg⟩=vb t.toNat++vb wt.toNat++vb tg.length++tgsB tg from rfl);have B1:=Blk.new w #[.slice va tg.length vc,.int .i64 t,.int .u64 wt] 164;have G1:=Ad_ (Ab_ w none) (.cells #[.slice va tg.length vc,.int .i64 t,.int .u64 wt] 164)
 have hfew2 :(tg.length:Int)≤3:=by omega
 have hwt:IntKind.u64.wrap t=t:=IntWalk.u64_in _ (by omega);have hwl:IntKind.u64.wrap (tg.length:Int) =(tg.length:Int):=IntWalk.u64_in _ (by omega);clear hR hsz
 go_enter func148,ntmps148
 go_upto_region 1 with fail
 generalize w.alloc _=w1 at *;generalize w.heap.size=b at *;have HB1:=hh_ B1;have HG1:=hh_ G1;have HR1:=hh_ (HR.out.same G1);have b1:=B1.cell;have e1:=C4_ (show t.toNat<18446744073709551616 by omega);have e2:=C4_ (show wt.toNat<18446744073709551616 by omega);have e3:=C4_ (show tg.length<18446744073709551616 by omega);have C1:=hh_ (au_ (.slice none 0 0) [] t w1 (Own.nil byF 1 5 0 w1).rd t0 (by omega) (by simp));clear B1 G1 HR
 go_upto_region 6 with(go_at_call 113;refine C1.out.mono ?_;rintro e w2 ⟨v2,rfl,o2,g2⟩)
 rw[List.nil_append] at o2;have b2:=(HB1.out.same g2).cell;have C2:=hh_ (au_ _ (vb t.toNat) wt w2 o2.rd w0 (by omega) (by omega));have HG2:=hh_ (Aa_ HG1.out g2);have HB2':=hh_ (HB1.out.same g2);have HR2:=hh_ (HR1.out.same g2);clear b1 C1 o2 g2 HB1 HR1
 go_upto_region 7 with(go_at_call 113;refine C2.out.mono ?_;rintro e w3 ⟨v3,rfl,o3,g3⟩)
 have b3:=(HB2'.out.same g3).cell;have C3:=hh_ (Cx_ _ (vb t.toNat++vb wt.toNat) tg.length w3 o3.rd (by omega) (by rw[la_];omega));have HG3:=hh_ (Aa_ HG2.out g3);have HB3':=hh_ (HB2'.out.same g3);have HR3:=hh_ (HR2.out.same g3);clear b2 C2 o3 g3 HB2' HR2
 go_upto_region 8 with(go_at_call 113;refine C3.out.mono ?_;rintro e w4 ⟨v4,rfl,o4,g4⟩)
 have b4:=(HB3'.out.same g4).cell;have HG4:=hh_ (Aa_ HG3.out g4);have HR4:=hh_ (HR3.out.same g4);obtain⟨M,hM⟩:∃M,vb t.toNat++vb wt.toNat++vb tg.length=M:=⟨_,rfl⟩
 have hMl:M.length≤30:=by rw[←hM];simp only[la_];omega
 rw[hM] at HB o4;have HO4:=hh_ (o4.base (B':=w.heap.size) fun q hq=>lt_ HG3.out.size (o4.lt q hq).1);clear b3 C3 o4 g4 HB3' HR3 hM e1 e2 e3
 go_wp2_with fail
 clear b4
 go_loopw [36,4] (fun s36 s4 wk=>∃i:Nat,i≤tg.length∧s36=.int .i64 i∧Own byF 1 5 w.heap.size wk s4 (M++tgsB (tg.take i))∧w4.grownBy wk none) (fun s36 _ _=>tg.length-(RowKit.intOf s36).toNat)
 case atStart=>exact⟨0,zl_ _,rfl,by simpa [tgsB] using HO4.out,Ab_ _ _⟩
 case round=>
  clear HO4;obtain⟨i,hi,rfl,hO,hg⟩:=hrel
  by_cases hlt:i<tg.length
  ·obtain⟨gx,ox,cx,hv,hgx,hcx⟩:=(RdL.same HR4.out hg).at_ Av_ hlt
   cases hv;have c0:=hcx 0 _ rfl;have c1:=hcx 1 _ rfl;rw[Nat.add_zero] at c0;obtain⟨hn70,hv70⟩:=HSZ.out _ (mg_ hlt);have HS:=hh_ (show M++tgsB (tg.take (i+1))=M++tgsB (tg.take i)++tgB tg[i] by rw[tg_ hlt,Sv_,List.append_assoc])
   have hll :(M++tgsB (tg.take i)).length≤1000:=by
    have:=P0_ (l:=tg.take i) fun t ht=>HSZ.out t (List.mem_of_mem_take ht)
    rw[lk_] at this;rw[la_];omega
   have HTG:=hh_ (show tgB tg[i]=vb tg[i].name.size++nmB tg[i]++vb tg[i].value.size++vlB tg[i] from rfl);clear hcx;generalize M++tgsB (tg.take i)=L at *;generalize tg[i]=x at *;obtain⟨oa,oc,rfl⟩:=hO.shape
   have j1 :(x.name.size:Int)≤70:=by omega
   have j2 :(x.value.size:Int)≤70:=by omega
   go_upto_region 13 with fail
   have A10:=Blk.new wr #[.string x.name,.string x.value] 53;have G10:=ga_ wr (.cells #[.string x.name,.string x.value] 53) none;have O10:=hh_ (hO.same G10);have K10:=hh_ (Aa_ (Aa_ HG4.out hg) G10);have Kw4:=hh_ (Aa_ hg G10);generalize wr.alloc _=w10 at *;generalize wr.heap.size=gl at *;have HB2:=hh_ A10;have hgl10:=A10.lt;clear A10 G10 hO hg c0 c1;have hwk:IntKind.u64.wrap (x.name.size:Int) =(x.name.size:Int):=IntWalk.u64_in _ (by omega);have hwv:IntKind.u64.wrap (x.value.size:Int) =(x.value.size:Int):=IntWalk.u64_in _ (by omega);have f1:=C4_ (show x.name.size<18446744073709551616 by omega);have f2:=C4_ (show x.value.size<18446744073709551616 by omega);have f3:=O1_ x;obtain⟨L1,hL1⟩:∃L1,L++vb x.name.size=L1:=⟨_,rfl⟩
   have hL1l:L1.length≤1010:=by rw[←hL1,la_];omega
   have Ca:=hh_ fun w' (h:World.grownBy w10 w' none)=>hL1▸Cx_ _ L x.name.size w' (O10.out.same h).rd (by omega) (by omega)
   obtain⟨L2,hL2⟩:∃L2,L1++nmB x=L2:=⟨_,rfl⟩
   have hL2l:L2.length≤1080:=by rw[←hL2,la_];omega
   have HL2:=hh_ (show L1++x.name.data.toList=L2 from hL2);obtain⟨L3,hL3⟩:∃L3,L2++vb x.value.size=L3:=⟨_,rfl⟩
   have hL3l:L3.length≤1090:=by rw[←hL3,la_];omega
   have HL4:=hh_ (show L3++x.value.data.toList=L++tgB x by rw[HTG.out,←hL3,←hL2,←hL1];simp only[List.append_assoc];rfl)
   have hb9:L1.length+x.name.size≤140737488355328:=by omega
   have K6:World.grownBy w10 (World.drew w10) none:=gw_;have hsz10 :(w10).heap.size≤(w10).heap.size:=le_ _
   (refine rn_ 8 (fun k _ w0 v w'=>match k with | 5=>Own byF 1 5 (w10).heap.size w' v L1∧World.grownBy w0 w' none | _=>False) ?_;simp only[ts_])
   generalize World.drew w10=wd at *
   (refine tq_ 2 ?_;(repeat(go_big_quiet_step (fail)));refine wn_ ?_)
   (refine to_ ?_;intro x2 mx2 dx2)
   clear dx2;have ax:=(HB2.out.same (Aa_ K6 mx2)).cell
   go_wp2_with fail
   refine⟨Ab_ _ _,?_⟩;clear ax
   (refine tq_ 2 ?_;(repeat(go_big_quiet_step (fail)));refine wn_ ?_)
   (refine tc_ ?_;intro x5 mx5 dx5;refine⟨?_,?_⟩;· (unfold Rg.callSpec;go_simp;(refine(Ca.out x5 (Aa_ K6 mx5)).mono ?_;rintro e w' ⟨v2,rfl,o2,g2⟩;exact⟨v2,rfl,o2.base (fun q hq=>lt_ (lt_ hsz10 (Aa_ K6 mx5).size) (o2.lt q hq).1),g2⟩)))
   clear dx5;rintro v5 y5 ⟨o5,g5⟩;refine⟨g5,?_⟩;obtain⟨a5,c5,rfl⟩:=o5.shape;have Ho5:=hh_ o5;clear g5 o5;simp only[pt_]
   (refine tq_ 1 ?_;(repeat(go_big_quiet_step (fail)));refine wn_ ?_)
   (refine to_ ?_;intro x7 mx7 dx7)
   clear dx7;have ax:=(HB2.out.same (Aa_ K6 mx7)).cell
   go_wp2_with fail
   refine⟨Ab_ _ _,?_⟩;clear ax
   (refine Rg.tree_nil ?_;intro z1 mz1 dz1 cz1)
   have O5':=Ho5.out.same (dz1.out 5 (by omega));have Kz:=hh_ (Aa_ K6 mz1);have hAl:=hh_ (fun q hq=>(O5'.lt q hq).1:∀q,(Value.slice a5 (L1).length c5).ownBlock=some q→(w10).heap.size≤q);clear dz1 cz1 mz1 mx2 mx5 mx7 K6 Ho5 hsz10 Ca;have hszz:=Kz.out.size
   go_upto_region 14 with(at_builtin;refine J4_ O5' x.name hb9 hszz (by rfl) _ _ (by rfl) (by rfl) (by rfl) ?_;intro v8 w8 o8 g8;rw[HL2.out] at o8;obtain⟨a8,c8,rfl⟩:=o8.shape)
   have K8:=hh_ (Ao_ Kz.out O5' (le_ _) g8);have HB3:=hh_ ((HB2.out.same Kz.out).kept g8 (fun e=>by have:=hAl.out _ e;omega));have O8:=hh_ o8
   have Cb:=hh_ fun w' (h:World.grownBy w8 w' none)=>hL3▸Cx_ _ L2 x.value.size w' (O8.out.same h).rd (by omega) (by omega)
   have hgl8:=HB3.out.lt;clear o8 g8 O5' hAl Kz hszz HB2 hL3;have HB2:=HB3
   have hb9:L3.length+x.value.size≤140737488355328:=by omega
   have K6:World.grownBy w8 (World.drew w8) none:=gw_;have hsz10 :(w8).heap.size≤(w8).heap.size:=le_ _
   (refine rn_ 8 (fun k _ w0 v w'=>match k with | 5=>Own byF 1 5 (w8).heap.size w' v L3∧World.grownBy w0 w' none | _=>False) ?_;simp only[ts_])
   generalize World.drew w8=wd at *
   (refine tq_ 2 ?_;(repeat(go_big_quiet_step (fail)));refine wn_ ?_)
   (refine to_ ?_;intro x2 mx2 dx2)
   clear dx2;have ax:=(HB2.out.same (Aa_ K6 mx2)).cell
   go_wp2_with fail
   refine⟨Ab_ _ _,?_⟩;clear ax
   (refine tq_ 2 ?_;(repeat(go_big_quiet_step (fail)));refine wn_ ?_)
   (refine tc_ ?_;intro x5 mx5 dx5;refine⟨?_,?_⟩;· (unfold Rg.callSpec;go_simp;(refine(Cb.out x5 (Aa_ K6 mx5)).mono ?_;rintro e w' ⟨v2,rfl,o2,g2⟩;exact⟨v2,rfl,o2.base (fun q hq=>lt_ (lt_ hsz10 (Aa_ K6 mx5).size) (o2.lt q hq).1),g2⟩)))
   clear dx5;rintro v5 y5 ⟨o5,g5⟩;refine⟨g5,?_⟩;obtain⟨a5,c5,rfl⟩:=o5.shape;have Ho5:=hh_ o5;clear g5 o5;simp only[pt_]
   (refine tq_ 1 ?_;(repeat(go_big_quiet_step (fail)));refine wn_ ?_)
   (refine to_ ?_;intro x7 mx7 dx7)
   clear dx7;have ax:=(HB2.out.same (Aa_ K6 mx7)).cell
   go_wp2_with fail
   refine⟨Ab_ _ _,?_⟩;clear ax
   (refine Rg.tree_nil ?_;intro z1 mz1 dz1 cz1)
   have O5':=Ho5.out.same (dz1.out 5 (by omega));have Kz:=hh_ (Aa_ K6 mz1);have hAl:=hh_ (fun q hq=>(O5'.lt q hq).1:∀q,(Value.slice a5 (L3).length c5).ownBlock=some q→(w8).heap.size≤q);clear dz1 cz1 mz1 mx2 mx5 mx7 K6 Ho5 hsz10 Cb;have hszz:=Kz.out.size
   go_wp2_with (at_builtin;refine J4_ O5' x.value hb9 hszz (by rfl) _ _ (by rfl) (by rfl) (by rfl) ?_;intro v9 w9 o9 g9;rw[HL4.out] at o9;obtain⟨a9,c9,rfl⟩:=o9.shape)
   have K9:=Ao_ Kz.out O5' (le_ _) g9;have hz8:=K8.out.size;have hz10:=K10.out.size;exact⟨⟨i+1,by omega,by go_num,by rw[HS.out];have h9:=o9.base (B':=w.heap.size) (fun q hq=>lt_ (lt_ hz10 hz8) (o9.lt q hq).1);rw[la_] at h9;exact h9,Aa_ Kw4.out (Aa_ K8.out K9)⟩,by simp[RowKit.intOf];omega⟩
  ·have e:tg.take i=tg:=tk_ (by omega)
   rw[e,←HB.out] at hO;clear e;obtain⟨oa,oc,rfl⟩:=hO.shape;have HO:=hh_ hO;clear hO
   go_wp2_with fail
   go_ret2
   exact⟨_,rfl,HO.out,Aa_ HG4.out hg⟩
def Qr_ (w:World) (v:Value) (l:List EvR):Prop:=RdL evF 3 w v l∧∀x∈l,RdL tagF 2 w x.vt x.tags
theorem Qr_.same {w w':World} {v:Value} {l:List EvR} (h:Qr_ w v l) (hg:w.grownBy w' none):Qr_ w' v l:=⟨h.1.same hg,fun x hx=>(h.2 x hx).same hg⟩
theorem bg_ (v:Value) (l:List EvR) (w:World) (h:Qr_ w v l) (hE:∀x∈l,EvOk x) (h0:0<l.length) (h4:l.length≤4):Calls Tryz.prog 112 #[v] w (Sd_ (bodyB l) w):=by
 obtain⟨a,c,rfl⟩:=h.1.shape;have H:=hh_ h;have HE:=hh_ hE;have i0 :((l.length:Int)==0)=false:=bf_ (by omega)
 have i4 :(l.length:Int)≤4:=by omega
 have hwl:IntKind.u64.wrap (l.length:Int) =(l.length:Int):=IntWalk.u64_in _ (by omega);have hbl:=hh_ (Hm_ hE h4);have Hc:=hh_ (Cx_ (.slice none 0 0) [] l.length w (Own.nil byF 1 5 0 w).rd (by omega) (by simp));have e1:=C4_ (show l.length<18446744073709551616 by omega);clear h hE
 go_enter func112,ntmps112
 go_upto_region 4 with(go_at_call 113;refine Hc.out.mono ?_;rintro e w2 ⟨v2,rfl,o2,g2⟩)
 rw[List.nil_append] at o2;have HO2:=hh_ o2;have HG2:=hh_ g2;clear Hc o2 g2 hwl
 go_wp2_with fail
 go_loopw [23,4] (fun s23 s4 wk=>∃i:Nat,i≤l.length∧s23=.int .i64 i∧Own byF 1 5 w.heap.size wk s4 (vb l.length++evsB (l.take i))∧w.grownBy wk none) (fun s23 _ _=>l.length-(RowKit.intOf s23).toNat)
 case atStart=>exact⟨0,zl_ _,rfl,by simpa [evsB] using HO2.out,HG2.out⟩
 case round=>
  clear HO2;obtain⟨i,hi,rfl,hO,hg⟩:=hrel
  by_cases hlt:i<l.length
  ·have hRr:=H.out.same hg
   obtain⟨gx,ox,cx,hv,hgx,hcx⟩:=hRr.1.at_ Uy_ hlt;cases hv;have c0:=hcx 0 _ rfl;have c1:=hcx 1 _ rfl;have c2:=hcx 2 _ rfl;rw[Nat.add_zero] at c0;have hx:=hRr.2 _ (mg_ hlt);have hx2:=HE.out _ (mg_ hlt);have HS:=hh_ (show vb l.length++evsB (l.take (i+1))=vb l.length++evsB (l.take i)++evB l[i] by rw[tg_ hlt,Rz_,List.append_assoc])
   have hll :(vb l.length++evsB (l.take i)).length≤2050:=by
    have:=Pa_ (l:=l.take i) fun t ht=>HE.out t (List.mem_of_mem_take ht)
    rw[lk_] at this;rw[la_];omega
   have hel:=S3_ hx2;have Hx:=hh_ hx;have Hx2:=hh_ hx2;obtain⟨ta,tc,ht⟩:=hx.shape;clear hcx hx hx2 hRr;generalize vb l.length++evsB (l.take i)=L at *;generalize l[i]=x at *;rw[ht] at c0
   have C:=hh_ fun w' (h:World.grownBy wr w' none)=>ht▸X6_ x w' (Hx.out.same h) Hx2.out
   obtain⟨oa,oc,rfl⟩:=hO.shape;have HO:=hh_ hO
   have hb1 :(L.length+(evB x).length)*1≤140737488355328:=by omega
   have hb2:L.length+(evB x).length≤9223372036854775807:=by omega
   have hzw:=hg.size;clear hO ht hel;generalize evB x=X at *
   go_wp2_with (first
    |(go_at_call 148;refine(C.out _ gw_).mono ?_;rintro e w3 ⟨v3,rfl,o3,g3⟩;obtain⟨a3,c3,rfl⟩:=o3.shape;have K3:wr.grownBy w3 none:=Aa_ gw_ g3;have O4:=HO.out.same K3;have hz3:w.heap.size≤w3.heap.size:=lt_ hzw K3.size;have R3:=o3.rd)
    |(at_builtin;refine app Dj_ Dy_ O4 R3 rfl hb1 hb2 hz3 (by rfl) _ _ (by rfl) (by rfl) (by rfl) ?_;intro v8 w8 o8 g8 l8))
   have K8:=Ao_ (Aa_ hg K3) O4 (le_ _) g8;exact⟨⟨i+1,by omega,by go_num,by rw[HS.out];exact o8,K8⟩,by simp[RowKit.intOf];omega⟩
  ·have e:l.take i=l:=tk_ (by omega)
   rw[e,show vb l.length++evsB l=bodyB l from rfl] at hO;clear e;obtain⟨oa,oc,rfl⟩:=hO.shape;have HO:=hh_ hO
   have j1 :((bodyB l).length:Int)≤4096:=by have:=hbl.out;omega
   clear hO
   go_wp2_with fail
   go_ret2
   exact⟨_,rfl,HO.out,hg⟩
theorem Wl_ (v:Value) (l:List EvR) (w:World) (h:Qr_ w v l) (hE:∀x∈l,EvOk x) (h0:0<l.length) (h4:l.length≤4):Calls Tryz.prog 79 #[v] w (Sd_ (frB l) w):=by
 have hbl:=Hm_ hE h4;have Hc:=hh_ (bg_ v l w h hE h0 h4);obtain⟨a,c,rfl⟩:=h.1.shape;have HF:=hh_ (show frB l=[]++vb (bodyB l).length++bodyB l from rfl);have e1:=C4_ (show(bodyB l).length<18446744073709551616 by omega);have hwl:IntKind.u64.wrap ((bodyB l).length:Int) =((bodyB l).length:Int):=IntWalk.u64_in _ (by omega);clear h hE;generalize bodyB l=B at *
 have Ca:=hh_ fun w'=>Cx_ (.slice none 0 0) [] B.length w' (Own.nil byF 1 5 0 w').rd (by omega) (by simp)
 have hb1 :((([]:List UInt8)++vb B.length).length+B.length)*1≤140737488355328:=by simp only[List.nil_append];omega
 have hb2 :(([]:List UInt8)++vb B.length).length+B.length≤9223372036854775807:=by simp only[List.nil_append];omega
 rw[List.nil_append] at HF hb1 hb2
 go_enter func79,ntmps79
 go_wp2_with (first
  |(go_at_call 112;refine Hc.out.mono ?_;rintro e w2 ⟨v2,rfl,o2,g2⟩;obtain⟨a2,c2,rfl⟩:=o2.shape)
  |(go_at_call 113;refine(Ca.out _).mono ?_;rintro e w3 ⟨v3,rfl,o3,g3⟩;rw[List.nil_append] at o3;obtain⟨a3,c3,rfl⟩:=o3.shape;have R3:=(o2.same g3).rd;have hz3:w.heap.size≤w3.heap.size:=lt_ g2.size g3.size;have o4:=o3.base (B':=w.heap.size) (fun q hq=>lt_ g2.size (o3.lt q hq).1))
  |(at_builtin;refine app Dj_ Dy_ o4 R3 rfl hb1 hb2 hz3 (by rfl) _ _ (by rfl) (by rfl) (by rfl) ?_;intro v8 w8 o8 g8 l8;rw[←HF.out] at o8))
 go_ret2
 exact⟨_,rfl,o8,Ao_ (Aa_ g2 g3) o4 (le_ _) g8⟩
end
section
open Go.RowKit
def InB (lo hi:Nat) (v:Value):Prop:=∀a n c,v=.slice (some a) n c→lo≤a.block∧a.block<hi
theorem InB.notIn {lo hi b:Nat} {v:Value} (h:InB lo hi v) (hb:b<lo∨hi≤b):NotIn v b:=fun a n c e=>by have:=h a n c e;omega
theorem InB.wide {lo hi lo' hi':Nat} {v:Value} (h:InB lo hi v) (h1:lo'≤lo) (h2:hi≤hi'):InB lo' hi' v:=fun a n c e=>by have:=h a n c e;omega
theorem Own.inB {α:Type} {f:α→List Value} {s:Nat} {e:TypeId} {B:Nat} {w:World} {v:Value} {l:List α} (h:Own f s e B w v l):InB B w.heap.size v:=by
 intro a n c hv
 rcases h.2 with⟨rfl,_⟩ |⟨g,cap,cur,rfl,_⟩
 ·cases hv
 ·cases hv;exact h.lt g rfl
theorem Bx_ {α:Type} {f:α→List Value} {st e:TypeId} {z:Value} {size bytes:Nat} {w:World} {B:Nat} {v:Value} {l:List α} {o:Oper} {a:Act} {ops:Array Oper} {rest:List Oper} {Q:Exit→Act→World→Prop}
  (E:Elt st e z size bytes) (hf:∀x,(f x).length=size) (hown:Own f size e B w v l) (y:α) (h1:∀u∈f y,u.oneCell'=true) (hb :(l.length+1)*bytes≤140737488355328) (h63:l.length+1≤9223372036854775807) (hbase:B≤w.heap.size) {te:TypeId} {cs:Array Value} (hcs:cs.toList=f y)
  (hgd:o.guard=none) (s x:Operand) (ho:o.op=.call { callee:=.builtin .append,args:=#[s,x],argTypes:=#[st,st] }) (hs:a.eval s=v) (hx:a.eval x=.slice (some ⟨w.heap.size,0,none⟩) 1 1)
  (h:∀v' w',Own f size e B w' v' (l++[y])→w.grownBy w' v.ownBlock→Lies v v' w.heap.size→wpList Tryz.prog ops Q rest (a.put o.dst v') w'):wpList Tryz.prog ops Q (o::rest) a (w.alloc (.cells cs te)):=by
 refine wpList_plain hgd fun _ hK=>?_
 have hr:=Hn_ hf w y cs te hcs;obtain⟨v',w',hrun,h2,h3,h4⟩:=Fm_ (ty:=o.type) E (hown.same (ga_ w (.cells cs te) none)) hr (by simpa [cellsOf] using h1) (by unfold maxLen;exact h63) (by simpa using hb) (by simp;omega);unfold Oper.wp execOp;simp only[ho,resolve,invoke,builtin,Sem.run_bind,Sem.run_pure,Result.andThen_ok,List.map_toArray,List.map_cons,List.map_nil,hs,hx,hrun];refine hK _ _ (h v' w' ?_ (Aa_ (ga_ w _ _) h3) (h4.imp id fun⟨g,e1,e2⟩=>⟨g,e1,by simp at e2;omega⟩));unfold Own;rw[Aq_,la_];exact h2
end
section
open Go.RowKit Go.Sort
theorem cr_ {t:TagR} (h:t.name.size≤70∧t.value.size≤70):TagW t:=⟨by omega,by omega⟩
theorem TagsM.w {L:List TagR} (h:TagsM L):∀t∈L,TagW t:=fun t ht=>cr_ (by have:=h.size t ht;omega)
def KeyD (B b:Nat) (w:World) (e:Ending) (w':World):Prop:=∃L,e=.returned (.string (keyY L))∧TagsM L∧Deck B w' b∧w.grownBy w' (some b)
theorem ds_ {B b:Nat} {w w':World} {L:List TagR} (h:TagsM L) (hd:Deck B w' b) (hg:w.grownBy w' (some b)):KeyD B b w (.returned (.string (keyY L))) w':=⟨L,rfl,h,hd,hg⟩
theorem e4_ {B:Nat} (b:Nat) (w:World) (hd:Deck B w b) (hB:B≤w.heap.size):Calls Tryz.prog 44 #[.pointer (some ⟨b,0,none⟩)] w (KeyD B b w):=by
 have Ct:=hh_ (Td_ b w hd hB)
 go_enter func44,ntmps44
 go_wp2_with (first
  |(go_at_call 78;refine Ct.out.mono ?_;rintro e w2 ⟨v2,L,rfl,o2,m2,d2,g2⟩;obtain⟨a2,c2,rfl⟩:=o2.shape;have Ck:=hh_ (Hg_ _ L w2 o2.rd m2.w))
  |(go_at_call 16;refine Ck.out.mono ?_;rintro e w3 ⟨rfl,g3⟩))
 go_ret
 exact ds_ m2 (d2.kept g3 (by simp)) (Aa_ g2 (Ak_ g3 _))
structure EvS (B b b4 b5:Nat) (w0:World) (x:EvR) (w:World):Prop where
 deck:Deck B w b
 res:Blk w b4 #[.slice none 0 0,.int .i64 0,.int .u64 0]
 box:Blk w b5 #[x.vt,.int .i64 x.time,.int .u64 x.weight]
 own:Own tagF 2 53 (b4+1) w x.vt x.tags
 ne:∀k,x.vt.ownBlock=some k→k≠b5
 G:w0.grownBy w (some b)
 lt:b<B∧B≤b4∧b4<b5∧w0.heap.size≤b4
section
variable {B b b4 b5:Nat} {w0 w w':World} {x:EvR}
theorem EvS.next (h:EvS B b b4 b5 w0 x w) (hd:Deck B w' b) (hg:w.grownBy w' (some b)):EvS B b b4 b5 w0 x w':=by
 obtain⟨h1,h2,h3,h4⟩:=h.lt;exact⟨hd,h.res.kept hg (by simp;omega),h.box.kept hg (by simp;omega),h.own.kept hg (fun k hk e=>by cases e;have:=(h.own.lt _ hk).1;omega),h.ne,Aa_ h.G hg,h.lt⟩
theorem EvS.same (h:EvS B b b4 b5 w0 x w) (hg:w.grownBy w' none):EvS B b b4 b5 w0 x w':=
 ⟨h.deck.kept hg (by simp),h.res.same hg,h.box.same hg,h.own.same hg,h.ne,Aa_ h.G (Ak_ hg _),h.lt⟩
theorem EvS.set (h:EvS B b b4 b5 w0 x w) (y:EvR) (i:Nat) (v:Value) (he :(#[x.vt,.int .i64 x.time,.int .u64 x.weight]:Array Value).setIfInBounds i v=#[y.vt,.int .i64 y.time,.int .u64 y.weight])
  (ho:Own tagF 2 53 (b4+1) w y.vt y.tags) (hn:∀k,y.vt.ownBlock=some k→k≠b5):EvS B b b4 b5 w0 y (w.setCell ⟨b5,i,none⟩ v):=by
 obtain⟨h1,h2,h3,h4⟩:=h.lt;have hg:w.grownBy (w.setCell ⟨b5,i,none⟩ v) (some b5):=Ac_ (Ab_ w (some b5)) i v;exact⟨h.deck.kept hg (fun k e=>by cases e;omega),h.res.kept hg (by simp;omega),h.box.set_ i v he,ho.kept hg (fun k hk e=>by cases e;exact hn _ hk rfl),hn,Af_ h.G hg (by omega),h.lt⟩
theorem EvS.tag (h:EvS B b b4 b5 w0 x w) {g n c:Nat} (hv:x.vt=.slice (some ⟨g,0,none⟩) n c) (h0:0<x.tags.length) {j:Nat} (hj:j<2) (u:Value) (y:TagR) (hy:tagF y =(tagF x.tags[0]).set j u) :
  EvS B b b4 b5 w0 { x with tags:=x.tags.set 0 y } (w.setCell ⟨g,j,none⟩ u):=by
 obtain⟨h1,h2,h3,h4⟩:=h.lt;have ho:=h.own;rw[hv] at ho;have hs:=ho.stored Av_ h0 hj u y hy;rw[Nat.zero_mul,Nat.zero_add] at hs;have hlt:=ho.lt g rfl;have hne:=h.ne g (by rw[hv];rfl);refine⟨h.deck.kept hs.2 (fun k e=>by cases e;omega),h.res.kept hs.2 (by simp;omega),h.box.kept hs.2 (by simpa using hne),?_,h.ne,Af_ h.G hs.2 (by omega),h.lt⟩;rw[←hv] at hs;exact hs.1
theorem EvS.app (h:EvS B b b4 b5 w0 x w) {v':Value} {l':List TagR} (o':Own tagF 2 53 (b4+1) w' v' l') (hg:w.grownBy w' x.vt.ownBlock) (hl:Lies x.vt v' w.heap.size) :
  Blk w' b5 #[x.vt,.int .i64 x.time,.int .u64 x.weight]∧EvS B b b4 b5 w0 { x with vt:=v',tags:=l' } (w'.setCell ⟨b5,0,none⟩ v'):=by
 obtain⟨h1,h2,h3,h4⟩:=h.lt
 have hlo:∀k,x.vt.ownBlock=some k→b4+1≤k:=fun k hk=>(h.own.lt k hk).1
 have hb:=h.box.kept hg (fun e=>h.ne _ e rfl);refine⟨hb,?_⟩;have hs:w'.grownBy (w'.setCell ⟨b5,0,none⟩ v') (some b5):=Ac_ (Ab_ w' (some b5)) 0 v'
 have hn:∀k,v'.ownBlock=some k→k≠b5:=fun k hk=>by
  rcases hl with e |⟨m,e1,e2⟩
  ·exact h.ne k (e▸hk)
  ·rw[e1] at hk;cases hk;have:=h.box.lt;omega
 have hG:w0.grownBy w' (some b):=by
  cases hq:x.vt.ownBlock with
  | none=>rw[hq] at hg;exact Aa_ h.G (Ak_ hg _)
  | some k=>rw[hq] at hg;exact Af_ h.G hg (by have:=hlo k hq;omega)
 exact⟨(h.deck.kept hg (fun k e=>by have:=hlo _ e;omega)).kept hs (fun k e=>by cases e;omega),(h.res.kept hg (fun e=>by have:=hlo _ e;omega)).kept hs (by simp;omega),hb.set_ 0 v' rfl,
  o'.kept hs (fun k hk e=>by cases e;exact hn _ hk rfl),hn,Af_ hG hs (by omega),h.lt⟩
def EvD (B b:Nat) (w:World) (e:Ending) (w':World):Prop:=∃x:EvR,e=.returned (.agg #[x.vt,.int .i64 x.time,.int .u64 x.weight])∧EvOk x∧RdL tagF 2 w' x.vt x.tags∧InB w.heap.size w'.heap.size x.vt∧Deck B w' b∧w.grownBy w' (some b)
theorem EvS.fin (h:EvS B b b4 b5 w0 x w) (hE:EvOk x) (hg:w.grownBy w' (some b4)):EvD B b w0 (.returned (.agg #[x.vt,.int .i64 x.time,.int .u64 x.weight])) w':=by
 obtain⟨h1,h2,h3,h4⟩:=h.lt;have ho:=h.own.kept hg (fun k hk e=>by cases e;have:=(h.own.lt _ hk).1;omega);exact⟨x,rfl,hE,ho.rd,(h.own.inB.wide (by omega) hg.size),h.deck.kept hg (fun k e=>by cases e;omega),Af_ h.G hg h4⟩
end
theorem c6_ {B:Nat} (b:Nat) (t:Int) (w:World) (hd:Deck B w b) (hB:B≤w.heap.size) (ht:0≤t∧t≤1099511627776):Calls Tryz.prog 114 #[.pointer (some ⟨b,0,none⟩),.int .i64 t] w (EvD B b w):=by
 have hbB:=hd.below
 go_enter func114,ntmps114
 go_upto_region 1 with fail
 have B4:=Blk.new w #[.slice none 0 0,.int .i64 0,.int .u64 0] 164;have G4:=ga_ w (.cells #[.slice none 0 0,.int .i64 0,.int .u64 0] 164) none
 have z4 :(w.alloc (.cells #[.slice none 0 0,.int .i64 0,.int .u64 0] 164)).heap.size=w.heap.size+1:=by simp
 generalize w.alloc _=w4 at *;have D4:=hd.kept G4 (by simp);have Ct:=hh_ (Td_ b w4 D4 (by omega))
 go_upto_region 2 with(first
  |(go_at_call 78;refine Ct.out.mono ?_;rintro e w5 ⟨v5,L,rfl,o5,m5,d5,g5⟩;obtain⟨a5,c5,rfl⟩:=o5.shape;have Cs:=hh_ (ce_ b w5 d5))
  |(go_at_call 149;refine Cs.out.mono ?_;rintro e w6 ⟨r6,rfl,hr6,d6,g6⟩))
 have B7:=Blk.new w6 #[.slice a5 L.length c5,.int .i64 t,.int .u64 r6] 164;have G7:=ga_ w6 (.cells #[.slice a5 L.length c5,.int .i64 t,.int .u64 r6] 164) none;have z5:=g5.size;have z6:=g6.size
 have E0:=hh_ (show EvS B b w.heap.size w6.heap.size w ⟨.slice a5 L.length c5,t,r6,L⟩ (w6.alloc (.cells #[.slice a5 L.length c5,.int .i64 t,.int .u64 r6] 164)) from
  ⟨(d6.kept G7 (by simp)),((B4.kept g5 (by simp;omega)).kept g6 (by simp;omega)).same G7,B7,((o5.kept g6 (fun k hk e=>by cases e;have:=(o5.lt _ hk).1;omega)).same G7).base (fun k hk=>by have:=(o5.lt k hk).1;omega),
   fun k hk=>by have:=(o5.lt k hk).2;omega,Aa_ (Aa_ (Aa_ (Ak_ G4 _) g5) g6) (Ak_ G7 _),hbB,hB,by omega,by omega⟩)
 generalize w6.alloc _=w7 at *;clear B4 G4 z4 D4 Ct Cs o5 d5 g5 d6 g6 B7 G7 z5 z6;obtain⟨b4,hb4⟩:∃b4,w.heap.size=b4:=⟨_,rfl⟩;rw[hb4] at E0;rw[hb4];clear hb4;generalize w6.heap.size=b5 at *;have hmf:=m5.few;have hms:=m5.size;have HOk:=hh_ (show EvOk ⟨.slice a5 L.length c5,t,r6,L⟩ from⟨ht,hr6,by show L.length≤3;omega,fun u hu=>by have:=hms u hu;omega⟩);have Cn:=hh_ (A3_ b 24 w7 E0.out.deck (by omega) (by omega))
 go_upto_region 3 with(go_at_call 37;refine Cn.out.mono ?_;rintro e w8 ⟨r,rfl,hr0,hr1,hd8,hg8⟩)
 have E1:=hh_ (E0.out.next hd8 hg8);clear E0 Cn hd8 hg8 m5;have HMs:=hh_ hms;clear hms
 by_cases h0:r=0
 ·subst h0
  have Cw:=hh_ (Se_ b w8 E1.out.deck);have bx:=E1.out.box.cell
  go_upto_region 17 with(go_at_call 150;refine Cw.out.mono ?_;rintro e w9 ⟨r9,rfl,hr9,d9,g9⟩;have D9:=E1.out.next d9 g9;have by_:=D9.box.cell;have bf_:=D9.box.free)
  have E2:=hh_ (D9.set ⟨.slice a5 L.length c5,t,r9,L⟩ 2 (.int .u64 r9) rfl D9.own D9.ne);have HOk2:=hh_ (show EvOk ⟨.slice a5 L.length c5,t,r9,L⟩ from⟨HOk.out.time,hr9,HOk.out.few,HOk.out.size⟩);clear bx by_ bf_ D9 d9 g9 Cw E1;generalize w9.setCell ⟨b5,2,none⟩ (.int .u64 r9)=wz at *;have HBx:=(E2).out.box.cell;have HRs:=(E2).out.res.cell;have HRf:=(E2).out.res.free
  go_wp2_with fail
  have hgw:World.grownBy wz (((wz.setCell ⟨b4,0,none⟩ (.slice a5 L.length c5)).setCell ⟨b4,1,none⟩ (.int .i64 t)).setCell ⟨b4,2,none⟩ (.int .u64 r9)) (some b4):=Ac_ (Ac_ (Ac_ (Ab_ _ _) _ _) _ _) _ _;have rc:=((((E2).out.res.set_ 0 (.slice a5 L.length c5) rfl).set_ 1 (.int .i64 t) rfl).set_ 2 (.int .u64 r9) rfl).cell;refine bodyPost_ret (v:=.agg #[(.slice a5 L.length c5),(.int .i64 t),(.int .u64 r9)]) (by simp[results,results114,go_sem,rc]) rfl ?_;exact(E2).out.fin HOk2.out hgw
 by_cases h1:r=1
 ·subst h1
  clear h0
  have hL0:0<L.length:=by omega
  have Dd:=E1.out.same (w':=w8.drew) gw_;obtain⟨gv,cv,hv,-,hgv,-,hcx,-⟩:=Dd.own.at_ Av_ (i:=0) hL0
  obtain⟨rfl,-,rfl⟩:a5=some ⟨gv,0,none⟩∧L.length=L.length∧c5=cv:=by simpa only[Value.slice.injEq] using hv
  have c0:=hcx 0 _ rfl;have c1:=hcx 1 _ rfl;rw[Nat.zero_mul,Nat.zero_add] at c0 c1
  have hp :(0:Int)<(L.length:Int):=by omega
  have hbx:=E1.out.box.cell;have ac:=Dd.box.cell;have hy:=HMs.out _ (mg_ hL0);dsimp only at c0 c1;generalize L[0]=y at *;have axd:=(Dd.same (ga_ w8.drew (.cells #[.string y.name,.string y.value] 53) none)).box.cell;have axd2:=(E1.out.same (ga_ w8 (.cells #[.string y.name,.string y.value] 53) none)).box.cell
  have hbase:b4+1≤w8.drew.heap.size:=by have h1:=Dd.box.lt;have h2:=Dd.lt;omega
  have hb3 :(L.length+1)*32≤140737488355328:=by omega
  have hb4:L.length+1≤9223372036854775807:=by omega
  have Hcs:=hh_ (show(#[Value.string y.name,Value.string y.value]:Array Value).toList=tagF y from rfl);have HDd:=hh_ Dd;have Hy:=hh_ hy;clear hv hcx Dd hy;dsimp only at ac axd axd2 hbx
  go_wp2_with fail
  go_region_law (first
   |(refine Lt_ B5_ Cr_ Av_ HDd.out.own y hb3 hb4 hbase Hcs.out (by rfl) _ _ (by rfl) (by rfl) (by rfl) ?_;intro v3 w3 o3 g3 l3;obtain⟨a3,c3,rfl⟩:=o3.shape;obtain⟨b3,D3⟩:=HDd.out.app o3 g3 l3;have ac3:=b3.cell;have af3:=b3.free))
  all_goals
   have HD3:=hh_ D3;clear D3 ac3 af3 b3 l3 o3 g3 axd axd2 ac hbx HDd c0 c1 E1
   have HOk2:=hh_ (show EvOk ⟨.slice a3 (L++[y]).length c3,t,r6,L++[y]⟩ from⟨HOk.out.time,HOk.out.weight,by show(L++[y]).length≤3;simp;omega,fun u hu=>by
    rcases ma_ hu with h|h
    ·exact HOk.out.size u h
    ·obtain rfl:=ms_ h;have:=Hy.out;omega⟩)
   dsimp only at HD3
   have hll :(L++[y]).length=L.length+1:=by simp
   rw[hll] at HD3 HOk2;clear hll
   (try rw[la_,ls_])
   go_upto_region 17 with fail
   generalize w3.setCell ⟨b5,0,none⟩ (.slice a3 (L.length+1) c3)=wz at *;have HBx:=(HD3).out.box.cell;have HRs:=(HD3).out.res.cell;have HRf:=(HD3).out.res.free
   go_wp2_with fail
   have hgw:World.grownBy wz (((wz.setCell ⟨b4,0,none⟩ (.slice a3 (L.length+1) c3)).setCell ⟨b4,1,none⟩ (.int .i64 t)).setCell ⟨b4,2,none⟩ (.int .u64 r6)) (some b4):=Ac_ (Ac_ (Ac_ (Ab_ _ _) _ _) _ _) _ _;have rc:=((((HD3).out.res.set_ 0 (.slice a3 (L.length+1) c3) rfl).set_ 1 (.int .i64 t) rfl).set_ 2 (.int .u64 r6) rfl).cell;refine bodyPost_ret (v:=.agg #[(.slice a3 (L.length+1) c3),(.int .i64 t),(.int .u64 r6)]) (by simp[results,results114,go_sem,rc]) rfl ?_;exact(HD3).out.fin HOk2.out hgw
 by_cases h2:r=2
 ·subst h2
  clear h0 h1
  have hL0:0<L.length:=by omega
  obtain⟨gv,cv,hv,-,hgv,-,hcx,hfz⟩:=E1.out.own.at_ Av_ (i:=0) hL0
  obtain⟨rfl,-,rfl⟩:a5=some ⟨gv,0,none⟩∧L.length=L.length∧c5=cv:=by simpa only[Value.slice.injEq] using hv
  have c0:=hcx 0 _ rfl;have c1:=hcx 1 _ rfl;rw[Nat.zero_mul,Nat.zero_add] at c0 c1
  have hp :(0:Int)<(L.length:Int):=by omega
  have hf0:=hfz 0;have hf1:=hfz 1;have bx:=E1.out.box.cell;clear hv hcx
  go_upto_region 17 with fail
  have E2:=hh_ (E1.out.tag rfl hL0 (j:=0) (by omega) (.string ⟨#[75]⟩) ⟨⟨#[75]⟩,L[0].value⟩ rfl)
  have HOk2:=hh_ (show EvOk ⟨.slice (some ⟨gv,0,none⟩) L.length c5,t,r6,L.set 0 ⟨⟨#[75]⟩,L[0].value⟩⟩ from⟨HOk.out.time,HOk.out.weight,by show(L.set 0 _).length≤3;rw[List.length_set];omega,fun u hu=>by
   rcases List.mem_or_eq_of_mem_set hu with h|h
   ·exact HOk.out.size u h
   ·subst h;exact⟨by simp[ByteArray.size],(HOk.out.size _ (mg_ hL0)).2⟩⟩)
  clear bx c0 c1 hf0 hf1 hfz E1;generalize w8.setCell ⟨gv,0,none⟩ (.string ⟨#[75]⟩)=wz at *;have HBx:=(E2).out.box.cell;have HRs:=(E2).out.res.cell;have HRf:=(E2).out.res.free
  go_wp2_with fail
  have hgw:World.grownBy wz (((wz.setCell ⟨b4,0,none⟩ (.slice (some ⟨gv,0,none⟩) L.length c5)).setCell ⟨b4,1,none⟩ (.int .i64 t)).setCell ⟨b4,2,none⟩ (.int .u64 r6)) (some b4):=Ac_ (Ac_ (Ac_ (Ab_ _ _) _ _) _ _) _ _;have rc:=((((E2).out.res.set_ 0 (.slice (some ⟨gv,0,none⟩) L.length c5) rfl).set_ 1 (.int .i64 t) rfl).set_ 2 (.int .u64 r6) rfl).cell;refine bodyPost_ret (v:=.agg #[(.slice (some ⟨gv,0,none⟩) L.length c5),(.int .i64 t),(.int .u64 r6)]) (by simp[results,results114,go_sem,rc]) rfl ?_;exact(E2).out.fin HOk2.out hgw
 by_cases h3:r=3
 ·subst h3
  clear h0 h1 h2;have bx:=E1.out.box.cell;have bf_:=E1.out.box.free
  go_upto_region 17 with fail
  have E2:=hh_ (E1.out.set ⟨.slice a5 L.length c5,t,0,L⟩ 2 (.int .u64 0) rfl E1.out.own E1.out.ne);have HOk2:=hh_ (show EvOk ⟨.slice a5 L.length c5,t,0,L⟩ from⟨HOk.out.time,(show W64 (0:Int) from a3_ (by omega) (by omega)),HOk.out.few,HOk.out.size⟩);clear bx bf_ E1;generalize w8.setCell ⟨b5,2,none⟩ (.int .u64 0)=wz at *;have HBx:=(E2).out.box.cell;have HRs:=(E2).out.res.cell;have HRf:=(E2).out.res.free
  go_wp2_with fail
  have hgw:World.grownBy wz (((wz.setCell ⟨b4,0,none⟩ (.slice a5 L.length c5)).setCell ⟨b4,1,none⟩ (.int .i64 t)).setCell ⟨b4,2,none⟩ (.int .u64 0)) (some b4):=Ac_ (Ac_ (Ac_ (Ab_ _ _) _ _) _ _) _ _;have rc:=((((E2).out.res.set_ 0 (.slice a5 L.length c5) rfl).set_ 1 (.int .i64 t) rfl).set_ 2 (.int .u64 0) rfl).cell;refine bodyPost_ret (v:=.agg #[(.slice a5 L.length c5),(.int .i64 t),(.int .u64 0)]) (by simp[results,results114,go_sem,rc]) rfl ?_;exact(E2).out.fin HOk2.out hgw
 by_cases h4:r=4
 ·subst h4
  clear h0 h1 h2 h3;have bx:=E1.out.box.cell;have bf_:=E1.out.box.free
  go_upto_region 17 with fail
  have E2:=hh_ (E1.out.set ⟨.slice none 0 0,t,r6,[]⟩ 0 (.slice none 0 0) rfl (Own.nil _ _ _ _ _) (fun k hk=>by simp[Value.ownBlock] at hk));have HOk2:=hh_ (show EvOk ⟨.slice none 0 0,t,r6,[]⟩ from⟨HOk.out.time,HOk.out.weight,by simp,by simp⟩);clear bx bf_ E1;generalize w8.setCell ⟨b5,0,none⟩ (.slice none 0 0)=wz at *;have HBx:=(E2).out.box.cell;have HRs:=(E2).out.res.cell;have HRf:=(E2).out.res.free
  go_wp2_with fail
  have hgw:World.grownBy wz (((wz.setCell ⟨b4,0,none⟩ (.slice none 0 0)).setCell ⟨b4,1,none⟩ (.int .i64 t)).setCell ⟨b4,2,none⟩ (.int .u64 r6)) (some b4):=Ac_ (Ac_ (Ac_ (Ab_ _ _) _ _) _ _) _ _;have rc:=((((E2).out.res.set_ 0 (.slice none 0 0) rfl).set_ 1 (.int .i64 t) rfl).set_ 2 (.int .u64 r6) rfl).cell;refine bodyPost_ret (v:=.agg #[(.slice none 0 0),(.int .i64 t),(.int .u64 r6)]) (by simp[results,results114,go_sem,rc]) rfl ?_;exact(E2).out.fin HOk2.out hgw
 by_cases h5:r=5
 ·subst h5
  clear h0 h1 h2 h3 h4
  have hL0:0<L.length:=by omega
  obtain⟨gv,cv,hv,-,hgv,-,hcx,hfz⟩:=E1.out.own.at_ Av_ (i:=0) hL0
  obtain⟨rfl,-,rfl⟩:a5=some ⟨gv,0,none⟩∧L.length=L.length∧c5=cv:=by simpa only[Value.slice.injEq] using hv
  have c0:=hcx 0 _ rfl;have c1:=hcx 1 _ rfl;rw[Nat.zero_mul,Nat.zero_add] at c0 c1
  have hp :(0:Int)<(L.length:Int):=by omega
  have hf0:=hfz 0;have hf1:=hfz 1;have bx:=E1.out.box.cell;clear hv hcx
  go_upto_region 17 with fail
  have E2:=hh_ (E1.out.tag rfl hL0 (j:=1) (by omega) (.string ⟨#[48,49,50,51,52,53,54,55,56,57,48,49,50,51,52,53,54,55,56,57,48,49,50,51,52,53,54,55,56,57,48,49,50,51,52,53,54,55,56,57,48,49,50,51,52,53,54,55,56,57,48,49,50,51,52,53,54,55,56,57,48,49,50,51,52,53,54,55,56,57]⟩) ⟨L[0].name,⟨#[48,49,50,51,52,53,54,55,56,57,48,49,50,51,52,53,54,55,56,57,48,49,50,51,52,53,54,55,56,57,48,49,50,51,52,53,54,55,56,57,48,49,50,51,52,53,54,55,56,57,48,49,50,51,52,53,54,55,56,57,48,49,50,51,52,53,54,55,56,57]⟩⟩ rfl)
  have HOk2:=hh_ (show EvOk ⟨.slice (some ⟨gv,0,none⟩) L.length c5,t,r6,L.set 0 ⟨L[0].name,⟨#[48,49,50,51,52,53,54,55,56,57,48,49,50,51,52,53,54,55,56,57,48,49,50,51,52,53,54,55,56,57,48,49,50,51,52,53,54,55,56,57,48,49,50,51,52,53,54,55,56,57,48,49,50,51,52,53,54,55,56,57,48,49,50,51,52,53,54,55,56,57]⟩⟩⟩ from⟨HOk.out.time,HOk.out.weight,by show(L.set 0 _).length≤3;rw[List.length_set];omega,fun u hu=>by
   rcases List.mem_or_eq_of_mem_set hu with h|h
   ·exact HOk.out.size u h
   ·subst h;exact⟨(HOk.out.size _ (mg_ hL0)).1,by show(70:Nat)≤70;omega⟩⟩)
  clear bx c0 c1 hf0 hf1 hfz E1;generalize w8.setCell ⟨gv,1,none⟩ (.string ⟨#[48,49,50,51,52,53,54,55,56,57,48,49,50,51,52,53,54,55,56,57,48,49,50,51,52,53,54,55,56,57,48,49,50,51,52,53,54,55,56,57,48,49,50,51,52,53,54,55,56,57,48,49,50,51,52,53,54,55,56,57,48,49,50,51,52,53,54,55,56,57]⟩)=wz at *;have HBx:=(E2).out.box.cell;have HRs:=(E2).out.res.cell;have HRf:=(E2).out.res.free
  go_wp2_with fail
  have hgw:World.grownBy wz (((wz.setCell ⟨b4,0,none⟩ (.slice (some ⟨gv,0,none⟩) L.length c5)).setCell ⟨b4,1,none⟩ (.int .i64 t)).setCell ⟨b4,2,none⟩ (.int .u64 r6)) (some b4):=Ac_ (Ac_ (Ac_ (Ab_ _ _) _ _) _ _) _ _;have rc:=((((E2).out.res.set_ 0 (.slice (some ⟨gv,0,none⟩) L.length c5) rfl).set_ 1 (.int .i64 t) rfl).set_ 2 (.int .u64 r6) rfl).cell;refine bodyPost_ret (v:=.agg #[(.slice (some ⟨gv,0,none⟩) L.length c5),(.int .i64 t),(.int .u64 r6)]) (by simp[results,results114,go_sem,rc]) rfl ?_;exact(E2).out.fin HOk2.out hgw
 by_cases h6:r=6
 ·subst h6
  clear h0 h1 h2 h3 h4 h5
  have HN:=hh_ fun m h0 h1=>A3_ b m w8 E1.out.deck h0 h1
  have bx:=E1.out.box.cell
  go_wp2_with fail
  refine(HN.out _ (by omega) (by omega)).mono ?_;rintro e w9 ⟨q,rfl,hq0,hq1,d9,g9⟩;have D9:=hh_ (E1.out.next d9 g9);have hwq:IntKind.u64.wrap q=q:=IntWalk.u64_in _ (by omega);have hwq2:IntKind.u64.wrap (9223372036854775808+q)=9223372036854775808+q:=IntWalk.u64_in _ (by omega);have by_:=D9.out.box.cell;have bf_:=D9.out.box.free
  go_upto_region 17 with fail
  have E2:=hh_ (D9.out.set ⟨.slice a5 L.length c5,t,9223372036854775808+q,L⟩ 2 (.int .u64 (9223372036854775808+q)) rfl D9.out.own D9.out.ne);have HOk2:=hh_ (show EvOk ⟨.slice a5 L.length c5,t,9223372036854775808+q,L⟩ from⟨HOk.out.time,(show W64 (9223372036854775808+q) from a3_ (by omega) (by omega)),HOk.out.few,HOk.out.size⟩);clear bx by_ bf_ D9 d9 g9 E1 hwq hwq2;generalize w9.setCell ⟨b5,2,none⟩ (.int .u64 (9223372036854775808+q))=wz at *;have HBx:=(E2).out.box.cell;have HRs:=(E2).out.res.cell;have HRf:=(E2).out.res.free
  go_wp2_with fail
  have hgw:World.grownBy wz (((wz.setCell ⟨b4,0,none⟩ (.slice a5 L.length c5)).setCell ⟨b4,1,none⟩ (.int .i64 t)).setCell ⟨b4,2,none⟩ (.int .u64 (9223372036854775808+q))) (some b4):=Ac_ (Ac_ (Ac_ (Ab_ _ _) _ _) _ _) _ _;have rc:=((((E2).out.res.set_ 0 (.slice a5 L.length c5) rfl).set_ 1 (.int .i64 t) rfl).set_ 2 (.int .u64 (9223372036854775808+q)) rfl).cell;refine bodyPost_ret (v:=.agg #[(.slice a5 L.length c5),(.int .i64 t),(.int .u64 (9223372036854775808+q))]) (by simp[results,results114,go_sem,rc]) rfl ?_;exact(E2).out.fin HOk2.out hgw
 have f0 :((r:Int)==0)=false:=by simpa using h0
 have f1 :((r:Int)==1)=false:=by simpa using h1
 have f2 :((r:Int)==2)=false:=by simpa using h2
 have f3 :((r:Int)==3)=false:=by simpa using h3
 have f4 :((r:Int)==4)=false:=by simpa using h4
 have f5 :((r:Int)==5)=false:=by simpa using h5
 have f6 :((r:Int)==6)=false:=by simpa using h6
 clear h0 h1 h2 h3 h4 h5 h6;have HBx:=(E1).out.box.cell;have HRs:=(E1).out.res.cell;have HRf:=(E1).out.res.free
 go_wp2_with fail
 have hgw:World.grownBy w8 (((w8.setCell ⟨b4,0,none⟩ (.slice a5 L.length c5)).setCell ⟨b4,1,none⟩ (.int .i64 t)).setCell ⟨b4,2,none⟩ (.int .u64 r6)) (some b4):=Ac_ (Ac_ (Ac_ (Ab_ _ _) _ _) _ _) _ _;have rc:=((((E1).out.res.set_ 0 (.slice a5 L.length c5) rfl).set_ 1 (.int .i64 t) rfl).set_ 2 (.int .u64 r6) rfl).cell;refine bodyPost_ret (v:=.agg #[(.slice a5 L.length c5),(.int .i64 t),(.int .u64 r6)]) (by simp[results,results114,go_sem,rc]) rfl ?_;exact(E1).out.fin HOk.out hgw
end
section
open Go.RowKit Go.Sort
structure ItR where
 (key:ByteArray) (time weight:Int)
def itF (x:ItR):List Value:=[.string x.key,.int .i64 x.time,.int .u64 x.weight]
theorem Dv_ (x:ItR) :(itF x).length=3:=rfl
theorem Ui_:OneF itF:=by intro x u hu;simp[itF] at hu;rcases hu with rfl|rfl|rfl <;> rfl
theorem Pg_:Elt 33 41 (.agg #[.string ⟨#[]⟩,.int .i64 0,.int .u64 0]) 3 32:=⟨underlying33,by kernel_rfl,rfl,by decide⟩
structure ItW (x:ItR):Prop where
 time:-9223372036854775808≤x.time∧x.time≤9223372036854775807
 weight:W64 x.weight
 key:x.key.size≤9223372036854775807
end
section
open Go.RowKit
def cok (c:Cfg):Bool:=decide (1≤c.Length∧c.Length≤1048576∧0≤c.Lateness∧c.Lateness≤1048576∧1≤c.Windows∧c.Windows≤8)
def tok (n:Int):Bool:=decide (0≤n∧n≤1099511627776)
def Ci_ (c:Cfg):Int:=if cok c then 0 else 11
def winV (c:Cfg) (t:Int):Int:=if cok c&&tok t then t/c.Length else 0
def lowV (c:Cfg) (m:Int):Int:=if cok c&&tok m then max (m-c.Lateness) 0/c.Length else 0
def verV (c:Cfg) (m t:Int):Int:=if cok c&&tok m&&tok t then (if winV c t<lowV c m then 3 else if lowV c m+c.Windows≤winV c t then 4 else 0) else 0
theorem L5_ {c:Cfg} (h :(((((1≤c.Length∧c.Length≤1048576)∧0≤c.Lateness)∧c.Lateness≤1048576)∧1≤c.Windows)∧c.Windows≤8)):Ci_ c=0:=by
 unfold Ci_ cok;rw[if_pos];simp;omega
theorem Mj_ {c:Cfg} (h:¬(((((1≤c.Length∧c.Length≤1048576)∧0≤c.Lateness)∧c.Lateness≤1048576)∧1≤c.Windows)∧c.Windows≤8)):Ci_ c=11:=by
 unfold Ci_ cok;rw[if_neg];simp;omega
theorem Xq_ (c:Cfg) (w:World):Calls Tryz.prog 104 #[c.val] w (RetInt (Ci_ c) w):=by
 go_enter func104,ntmps104
 go_wp2
 all_goals go_ret
 all_goals first |(have hx:=L5_ (c:=c) (by assumption);exact Ai_ hx (ga_ w _ _)) |(have hx:Ci_ c=11:=Mj_ (by omega);exact Ai_ hx (ga_ w _ _))
theorem W1_ (c:Cfg) (w:World):Calls Tryz.prog 109 #[c.val] w (RetInt (Ci_ c) w):=by
 go_enter func109,ntmps109
 go_wp2
 all_goals go_ret
 all_goals first |(have hx:=L5_ (c:=c) (by assumption);exact Ai_ hx (ga_ w _ _)) |(have hx:Ci_ c=11:=Mj_ (by omega);exact Ai_ hx (ga_ w _ _))
theorem Ia_ (c:Cfg) (n:Int) (w:World):Calls Tryz.prog 89 #[c.val,.int .i64 n] w (B6_ (cok c&&tok n) w):=by
 have key:∀r:Bool,(Ci_ c==0)=r→(∃b0 b1,decide (0≤n)=b0∧decide (n≤1099511627776)=b1∧(r&&b0&&b1) =(cok c&&tok n)) →
   Calls Tryz.prog 89 #[c.val,.int .i64 n] w (B6_ (cok c&&tok n) w):=by
  intro r hr ⟨b0,b1,d0,d1,hx⟩;have Hx:=hh_ hx;clear hx;cases r <;> cases b0 <;> cases b1
  all_goals
   go_enter func89,ntmps89
   go_wp2_with (first |(refine Au_ rfl _ rfl c rfl ?_;intro w1 B1 G1 z1) |(refine Al_ rfl _ rfl _ rfl c (by assumption) ?_) |(go_at_call 109;refine(W1_ c _).mono ?_;rintro e w2 ⟨rfl,G2⟩))
   go_ret
   exact A7_ Hx.out.symm (Aa_ (by assumption) (by assumption))
 refine key _ rfl ⟨_,_,rfl,rfl,?_⟩
 have e1 :(Ci_ c==0)=cok c:=by unfold Ci_;cases cok c <;> rfl
 rw[e1,tok,Bool.and_assoc,←Bool.decide_and]
theorem P7_ (c:Cfg) (n:Int) (w:World):Calls Tryz.prog 50 #[c.val,.int .i64 n] w (RetInt (winV c n) w):=by
 cases hc :(cok c&&tok n)
 ·have hx:winV c n=0:=by simp[winV,hc]
  have Hx:=hh_ hx;clear hx
  go_enter func50,ntmps50
  go_wp2_with (first |(refine Au_ rfl _ rfl c rfl ?_;intro w1 B1 G1 z1) |(refine Al_ rfl _ rfl _ rfl c (by assumption) ?_) |(go_at_call 89;refine(Ia_ c n _).mono ?_;rintro e w2 ⟨rfl,G2⟩))
  go_ret
  exact Ai_ Hx.out (Aa_ (by assumption) (by assumption))
 ·have hx:winV c n=n/c.Length:=by simp[winV,hc]
  have Hx:=hh_ hx
  have hl:1≤c.Length∧c.Length≤1048576:=by simp[cok,tok] at hc;omega
  have hn:0≤n∧n≤1099511627776:=by simp[cok,tok] at hc;omega
  clear hx;obtain⟨l0,l1⟩:=hl;obtain⟨n0,n1⟩:=hn
  go_enter func50,ntmps50
  go_wp2_with (first |(refine Au_ rfl _ rfl c rfl ?_;intro w1 B1 G1 z1) |(refine Al_ rfl _ rfl _ rfl c (by assumption) ?_) |(go_at_call 89;refine(Ia_ c n _).mono ?_;rintro e w2 ⟨rfl,G2⟩;have hb2:=(BoxAt.same (by assumption) G2).cell))
  go_ret
  exact Ai_ Hx.out (Aa_ (by assumption) (by assumption))
theorem ax_ (w:World) (t:Int):RdL intF 1 (w.alloc (.cells #[.int .i64 t] 3)) (.slice (some ⟨w.heap.size,0,none⟩) 1 1) [t]:=
 OutAt.rd (w:=w.alloc (.cells (Cd_ [t]) 3)) (out:=[t]) (heap_alloc_new w _) (by simp)
theorem Kt_ {l:List Int} {k:Nat} (p:Int→Bool) (h:k<l.length) :(l.take (k+1)).all p =((l.take k).all p&&p l[k]):=by
 rw[tg_ h,List.all_append,List.all_cons,List.all_nil,Bool.and_true]
theorem S0_ (c:Cfg) (v:Value) (l:List Int) (w:World) (h:RdL intF 1 w v l):Calls Tryz.prog 69 #[c.val,v] w (B6_ (l.all tok&&cok c) w):=by
 obtain⟨a,cap,rfl⟩:=h.shape;have hm:=h.2.1;have H:=hh_ h;clear h
 have e1 :(Ci_ c==0)=cok c:=by unfold Ci_;cases cok c <;> rfl
 have E1:=hh_ e1;clear e1
 go_enter func69,ntmps69
 go_wp2_with (first |(refine Au_ rfl _ rfl c rfl ?_;intro w1 B1 G1 z1))
 go_loopw [9] (fun s9 wr=>∃k:Nat,k≤l.length∧s9=.int .i64 k∧(l.take k).all tok=true∧w.grownBy wr none∧BoxAt wr w.heap.size c) (fun s9 _=>l.length-(RowKit.intOf s9).toNat)
 case atStart=>exact⟨0,zl_ _,rfl,by simp,G1,B1⟩
 case round=>
  obtain⟨k,hk,rfl,hall,G2,B2⟩:=hrel
  by_cases hlt:k<l.length
  ·obtain⟨g,off,cap',hv,hgl,hc⟩:=H.out.cell A8_ (by omega)
   cases hv
   have hcell:wr.cell? ⟨g,off+k,none⟩=some (.int .i64 l[k]):=by
    rw[(An_ G2).1 _ _ hgl (by simp)]
    have:=hc k l[k] (gq_ hlt) 0 _ rfl
    simpa using this
   have hat:=Kt_ tok hlt;obtain⟨x,hx⟩:∃x,x=l[k]:=⟨_,rfl⟩;rw[←hx] at hat hcell;have Hx:=hh_ hx;have Hat:=hh_ hat;have Hall:=hh_ hall;clear hat hc hall hx
   by_cases h0:x<0
   ·have hf :(l.all tok&&cok c)=false:=by
     have ht:tok x=false:=df_ fun h=>by omega
     have:l.all tok=false:=by rw[List.all_eq_false];exact⟨x,by rw[Hx.out];exact mg_ hlt,by simp[ht]⟩
     rw[this];rfl
    have Hf:=hh_ hf;clear hf
    go_wp2_with fail
    go_ret
    exact A7_ Hf.out G2
   ·by_cases h1:1099511627776<x
    ·have hf :(l.all tok&&cok c)=false:=by
      have ht:tok x=false:=df_ fun h=>by omega
      have:l.all tok=false:=by rw[List.all_eq_false];exact⟨x,by rw[Hx.out];exact mg_ hlt,by simp[ht]⟩
      rw[this];rfl
     have Hf:=hh_ hf;have d0:decide (x<0)=false:=df_ h0;clear hf h0
     go_wp2_with fail
     go_ret
     exact A7_ Hf.out G2
    ·have d0:decide (x<0)=false:=df_ h0
     have d1:decide (1099511627776<x)=false:=df_ h1;have ht:tok x=true:=dt_ (by omega);have Ht:=hh_ ht;clear h0 h1 ht
     go_wp2_with fail
     exact⟨⟨k+1,by omega,by go_num,by rw[Hat.out,Hall.out,Ht.out];rfl,G2,B2⟩,by simp[RowKit.intOf];omega⟩
  ·have hl :(l.all tok&&cok c) =(Ci_ c==0):=by
    rw[E1.out]
    have:l.take k=l:=tk_ (by omega)
    rw[this] at hall;rw[hall];rfl
   have Hl:=hh_ hl;clear hl hall
   go_wp2_with (first |(refine Al_ rfl _ rfl _ rfl c (by assumption) ?_) |(go_at_call 104;refine(Xq_ c _).mono ?_;rintro e w3 ⟨rfl,G3⟩))
   go_ret
   exact A7_ Hl.out (Aa_ G2 G3)
theorem S5_ {c:Cfg} (h:cok c=true) :(1≤c.Length∧c.Length≤1048576)∧(0≤c.Lateness∧c.Lateness≤1048576)∧(1≤c.Windows∧c.Windows≤8):=by
 simp only[cok,decide_eq_true_eq] at h;omega
theorem tokV {n:Int} (h:tok n=true):0≤n∧n≤1099511627776:=by
 simpa [tok] using h
theorem ft_ (c:Cfg) (n:Int) (w:World):Calls Tryz.prog 32 #[c.val,.int .i64 n] w (RetInt (winV c n) w):=by
 cases hc :(tok n&&cok c)
 ·have hx:winV c n=0:=by unfold winV;rw[Bool.and_comm,hc];rfl
  have Hx:=hh_ hx
  have hv :(([n]:List Int).all tok&&cok c)=false:=by simpa using hc
  have Hv:=hh_ hv;clear hx hc hv
  go_enter func32,ntmps32
  go_wp2_with (first |(refine Au_ rfl _ rfl c rfl ?_;intro w1 B1 G1 z1) |(refine Al_ rfl _ rfl _ rfl c (by assumption) ?_) |(go_at_call 69;refine(S0_ c _ [n] _ (ax_ _ n)).mono ?_;rw[Hv.out];rintro e w2 ⟨rfl,G2⟩))
  go_ret
  exact Ai_ Hx.out (Aa_ G1 (Aa_ (ga_ _ _ _) G2))
 ·have hx:winV c n=n/c.Length:=by unfold winV;rw[Bool.and_comm,hc];rfl
  have Hx:=hh_ hx
  have hv :(([n]:List Int).all tok&&cok c)=true:=by simpa using hc
  have Hv:=hh_ hv;simp only[Bool.and_eq_true] at hc;obtain⟨⟨l0,l1⟩,_⟩:=S5_ hc.2;obtain⟨n0,n1⟩:=tokV hc.1;clear hx hc hv
  go_enter func32,ntmps32
  go_wp2_with (first |(refine Au_ rfl _ rfl c rfl ?_;intro w1 B1 G1 z1) |(refine Al_ rfl _ rfl _ rfl c (by assumption) ?_) |(go_at_call 69;refine(S0_ c _ [n] _ (ax_ _ n)).mono ?_;rw[Hv.out];rintro e w2 ⟨rfl,G2⟩;have hb2:=((B1.same (ga_ _ _ _)).same G2).cell))
  go_ret
  exact Ai_ Hx.out (Aa_ G1 (Aa_ (ga_ _ _ _) G2))
theorem Z1_ (c:Cfg) (n:Int) (w:World):Calls Tryz.prog 54 #[c.val,.int .i64 n] w (RetInt (lowV c n) w):=by
 cases hc :(cok c&&tok n)
 ·have hx:lowV c n=0:=by unfold lowV;rw[hc];rfl
  have Hx:=hh_ hx;have Hc:=hh_ hc;clear hx hc
  go_enter func54,ntmps54
  go_wp2_with (first |(refine Au_ rfl _ rfl c rfl ?_;intro w1 B1 G1 z1) |(refine Al_ rfl _ rfl _ rfl c (by assumption) ?_) |(go_at_call 89;refine(Ia_ c n _).mono ?_;rw[Hc.out];rintro e w2 ⟨rfl,G2⟩))
  go_ret
  exact Ai_ Hx.out (Aa_ G1 G2)
 ·have hx:lowV c n=max (n-c.Lateness) 0/c.Length:=by unfold lowV;rw[hc];rfl
  have Hc:=hh_ hc;simp only[Bool.and_eq_true] at hc;obtain⟨⟨l0,l1⟩,⟨l2,l3⟩,_⟩:=S5_ hc.1;obtain⟨n0,n1⟩:=tokV hc.2
  by_cases hl:n<c.Lateness
  ·have hx2:lowV c n=0:=by rw[hx,Int.max_eq_right (by omega)];simp
   have Hx:=hh_ hx2;have d1:decide (n<c.Lateness)=true:=dt_ hl;clear hx hx2 hc
   go_enter func54,ntmps54
   go_wp2_with (first |(refine Au_ rfl _ rfl c rfl ?_;intro w1 B1 G1 z1) |(refine Al_ rfl _ rfl _ rfl c (by assumption) ?_) |(go_at_call 89;refine(Ia_ c n _).mono ?_;rw[Hc.out];rintro e w2 ⟨rfl,G2⟩;have hb2:=(B1.same G2).cell))
   go_ret
   exact Ai_ Hx.out (Aa_ G1 G2)
  ·have hx2:lowV c n =(n-c.Lateness)/c.Length:=by rw[hx,Int.max_eq_left (by omega)]
   have Hx:=hh_ hx2;have d1:decide (n<c.Lateness)=false:=df_ hl
   have hl':c.Lateness≤n:=by omega
   clear hx hx2 hc hl
   go_enter func54,ntmps54
   go_wp2_with (first |(refine Au_ rfl _ rfl c rfl ?_;intro w1 B1 G1 z1) |(refine Al_ rfl _ rfl _ rfl c (by assumption) ?_) |(go_at_call 89;refine(Ia_ c n _).mono ?_;rw[Hc.out];rintro e w2 ⟨rfl,G2⟩;have hb2:=(B1.same G2).cell))
   go_ret
   exact Ai_ Hx.out (Aa_ G1 G2)
theorem cy_ (c:Cfg) (n:Int):0≤lowV c n∧lowV c n≤1099511627776:=by
 unfold lowV
 split
 ·rename_i h
  simp only[Bool.and_eq_true] at h;obtain⟨⟨l0,l1⟩,⟨l2,l3⟩,_⟩:=S5_ h.1;obtain⟨n0,n1⟩:=tokV h.2;have h1:max (n-c.Lateness) 0/c.Length≤max (n-c.Lateness) 0:=Int.ediv_le_self _ (by omega);exact⟨Int.ediv_nonneg (by omega) (by omega),by omega⟩
 ·omega
theorem M0_ (c:Cfg) (n:Int):0≤winV c n∧winV c n≤1099511627776:=by
 unfold winV
 split
 ·rename_i h
  simp only[Bool.and_eq_true] at h;obtain⟨⟨l0,l1⟩,_⟩:=S5_ h.1;obtain⟨n0,n1⟩:=tokV h.2;have h1:n/c.Length≤n:=Int.ediv_le_self _ n0;exact⟨Int.ediv_nonneg n0 (by omega),by omega⟩
 ·omega
attribute [local go_sem ↓] Ag_
attribute [local go_sem] Ah_
theorem T7_ {c:Cfg} {m t:Int} (h :(cok c&&tok m&&tok t)=false):verV c m t=0:=by unfold verV;rw[h];rfl
theorem Jt_ {c:Cfg} {m t:Int} (h :(cok c&&tok m&&tok t)=true):verV c m t=if winV c t<lowV c m then 3 else if lowV c m+c.Windows≤winV c t then 4 else 0:=by unfold verV;rw[h];rfl
theorem Tc_ {c:Cfg} {m t:Int} (h :(cok c&&tok m&&tok t)=true) (h1:winV c t<lowV c m):verV c m t=3:=by rw[Jt_ h,if_pos h1]
theorem Q3_ {c:Cfg} {m t:Int} (h :(cok c&&tok m&&tok t)=true) (h1:¬winV c t<lowV c m) (h2:lowV c m+c.Windows≤winV c t):verV c m t=4:=by rw[Jt_ h,if_neg h1,if_pos h2]
theorem a9_ {c:Cfg} {m t:Int} (h :(cok c&&tok m&&tok t)=true) (h1:¬winV c t<lowV c m) (h2:¬lowV c m+c.Windows≤winV c t):verV c m t=0:=by rw[Jt_ h,if_neg h1,if_neg h2]
theorem et_ (c:Cfg) (m n:Int) (w:World):Calls Tryz.prog 85 #[c.val,.int .i64 m,.int .i64 n] w (RetInt (verV c m n) w):=by
 cases hc :(cok c&&tok n)
 ·have hx:verV c m n=0:=T7_ (by cases h1:cok c <;> cases h2:tok n <;> simp_all)
  have Hx:=hh_ hx;have Hc:=hh_ hc;clear hx hc
  go_enter func85,ntmps85
  go_wp2_with (first |(refine Au_ rfl _ rfl c rfl ?_;intro w1 B1 G1 z1) |(refine Al_ rfl _ rfl _ rfl c (by assumption) ?_) |(go_at_call 89;refine(Ia_ c n _).mono ?_;rw[Hc.out];rintro e w2 ⟨rfl,G2⟩))
  go_ret
  exact Ai_ Hx.out (Aa_ G1 G2)
 ·cases hd :(cok c&&tok m)
  ·have hx:verV c m n=0:=T7_ (by rw[hd];rfl)
   have Hx:=hh_ hx;have Hc:=hh_ hc;have Hd:=hh_ hd;clear hx hc hd
   go_enter func85,ntmps85
   go_wp2_with (first |(refine Au_ rfl _ rfl c rfl ?_;intro w1 B1 G1 z1) |(refine Al_ rfl _ rfl _ rfl c (by assumption) ?_) |(refine A0_ rfl _ rfl _ rfl c (by assumption) ?_) |(go_at_call_of 89 (Value.int IntKind.i64 n);refine(Ia_ c n _).mono ?_;rw[Hc.out];rintro e w2 ⟨rfl,G2⟩;have B2:=B1.same G2;clear B1) |(go_at_call_of 89 (Value.int IntKind.i64 m);refine(Ia_ c m _).mono ?_;rw[Hd.out];rintro e w3 ⟨rfl,G3⟩))
   go_ret
   exact Ai_ Hx.out (Aa_ G1 (Aa_ G2 G3))
  ·have hcc:cok c=true:=by simp only[Bool.and_eq_true] at hc;exact hc.1
   have hall :(cok c&&tok m&&tok n)=true:=by
    simp only[Bool.and_eq_true] at hc hd ⊢;exact⟨hd,hc.2⟩
   have Ha:=hh_ hall;have Hc:=hh_ hc;have Hd:=hh_ hd;obtain⟨b1,b2⟩:=cy_ c m;obtain⟨b3,b4⟩:=M0_ c n;obtain⟨_,_,l0,l1⟩:=S5_ hcc;clear hc hd hcc hall
   go_enter func85,ntmps85
   go_upto_region 3 with(first |(refine Au_ rfl _ rfl c rfl ?_;intro w1 B1 G1 z1) |(refine Al_ rfl _ rfl _ rfl c (by assumption) ?_) |(refine A0_ rfl _ rfl _ rfl c (by assumption) ?_) |(go_at_call_of 89 (Value.int IntKind.i64 n);refine(Ia_ c n _).mono ?_;rw[Hc.out];rintro e w2 ⟨rfl,G2⟩;have B2:=B1.same G2;clear B1) |(go_at_call_of 89 (Value.int IntKind.i64 m);refine(Ia_ c m _).mono ?_;rw[Hd.out];rintro e w3 ⟨rfl,G3⟩;have B3:=B2.same G3;clear B2;have G4:=Aa_ G1 (Aa_ G2 G3)))
   obtain⟨r1,r2,r3⟩:=B3.re
   have r4:=Bi_ (w:=w3) fun w' _=>Z1_ c m w'
   have r5:=Bi_ (w:=w3) fun w' _=>P7_ c n w'
   refine Tail.wp_region_tail_grown 8 (by kernel_rfl) (by kernel_rfl) ?_;simp only[List.take,List.drop]
   repeat(go_big_quiet_step (first |(with_reducible exact r4 _ _) |(with_reducible exact r5 _ _)))
   refine wn_ ?_;rintro _ ⟨⟨d5,os5⟩,rfl⟩;have B5:=(B3.same (A1_ w3 d5 os5)).cell;have G5:=Aa_ G4 (A1_ w3 d5 os5);clear r1 r2 r3 r4 r5;generalize Go.Sort.grow (redrawn w3 d5) os5=w5 at *
   by_cases h1:winV c n<lowV c m
   ·have Hy:=hh_ (Tc_ Ha.out h1)
    go_wp2_with fail
    go_ret
    exact Ai_ Hy.out G5
   ·have d1:decide (winV c n<lowV c m)=false:=df_ h1
    by_cases h2:lowV c m+c.Windows≤winV c n
    ·have Hy:=hh_ (Q3_ Ha.out h1 h2)
     clear h1
     go_wp2_with fail
     go_ret
     exact Ai_ Hy.out G5
    ·have Hy:=hh_ (a9_ Ha.out h1 h2)
     have d2:decide (lowV c m+c.Windows≤winV c n)=false:=df_ h2;clear h2 h1
     go_wp2_with fail
     go_ret
     exact Ai_ Hy.out G5
end
section
open Go.RowKit Go.Sort
def inWin (c:Cfg) (win:Int) (x:ItR):Bool:=decide (0≤x.time)&&decide (x.time≤1099511627776)&&decide (winV c x.time=win)
def cntS (c:Cfg) (win:Int) (L:List KW) (x:ItR):List KW:=if inWin c win x=true then ctPut L x.key.data.toList x.weight else L
def cntL (c:Cfg) (win:Int) (l:List ItR):List KW:=l.foldl (cntS c win) []
theorem E6_ (c:Cfg) (win:Int) (l:List ItR) (x:ItR):cntL c win (l++[x])=cntS c win (cntL c win l) x:=by simp[cntL]
theorem Zi_ {c:Cfg} {win:Int} {L:List KW} (h:AscB L) (x:ItR):AscB (cntS c win L x):=by
 unfold cntS;split
 ·exact Pf_ h
 ·exact h
theorem Hj_ (P:List KW→Prop) (c:Cfg) (win:Int) (l:List ItR) (h0:P []) (h:∀L x,x∈l→P L→P (cntS c win L x)):P (cntL c win l):=by
 have key:∀k,k≤l.length→P (cntL c win (l.take k)):=by
  intro k
  induction k with
  | zero=>intro _;simpa [cntL] using h0
  | succ k ih=>
   intro hk;rw[tg_ (by omega),E6_];exact h _ _ (mg_ _) (ih (by omega))
 have:=key l.length (le_ _)
 rwa [tk_ (le_ _)] at this
theorem Kk_ (c:Cfg) (win:Int) (l:List ItR):AscB (cntL c win l):=Hj_ AscB c win l (by simp[AscB]) fun _ x _ h=>Zi_ h x
theorem Ex_ (c:Cfg) (win:Int) (l:List ItR) :(cntL c win l).length≤l.length:=by
 have key:∀k,k≤l.length→(cntL c win (l.take k)).length≤k:=by
  intro k
  induction k with
  | zero=>intro _;simp[cntL]
  | succ k ih=>
   intro hk;rw[tg_ (by omega),E6_];have h1:=ih (by omega);unfold cntS;split
   ·have:=Me_ (w:=(l[k]'(by omega)).key.data.toList) (n:=(l[k]'(by omega)).weight) (L:=cntL c win (l.take k))
    omega
   ·omega
 have:=key l.length (le_ _)
 rwa [tk_ (le_ _)] at this
theorem Ru_ {w:Ap_}:∀{L:List KW},(∀p∈L,W64 p.2)→W64 (ctAt L w)
 | [],_=>by simp[ctAt,W64]
 | p::L,h=>by
  simp only[ctAt];split
  ·exact h p (by simp)
  ·exact Ru_ fun q hq=>h q (List.mem_cons_of_mem p hq)
theorem Tk_ {w:Ap_} {n:Int} (hn:W64 n):∀{L:List KW},(∀p∈L,W64 p.2)→∀p∈ctPut L w n,W64 p.2
 | [],_=>by
  intro p hp;simp only[ctPut,List.mem_singleton] at hp;subst hp;exact B9_ (by simp[W64]) hn
 | q::L,h=>by
  intro p hp;simp only[ctPut] at hp;have hq:=h q (by simp)
  have hL:∀p∈L,W64 p.2:=fun p hp=>h p (List.mem_cons_of_mem q hp)
  split at hp
  ·rcases List.mem_cons.1 hp with rfl|hp
   ·exact hq
   ·exact Tk_ hn hL p hp
  ·split at hp
   ·rcases List.mem_cons.1 hp with rfl|hp
    ·exact B9_ hq hn
    ·exact hL p hp
   ·rcases List.mem_cons.1 hp with rfl|hp
    ·exact B9_ (by simp[W64]) hn
    ·exact h p hp
theorem Pl_ (c:Cfg) (win:Int) (l:List ItR) (h:∀x∈l,ItW x):∀p∈cntL c win l,W64 p.2:=Hj_ (fun L=>∀p∈L,W64 p.2) c win l (by simp) fun L x hx hL=>by
 unfold cntS;split
 ·exact Tk_ (h x hx).weight hL
 ·exact hL
def kwLn (p:KW):Ln:=⟨⟨p.1.toArray⟩,p.2,p.2⟩
theorem Kh_ (k:ByteArray) (n:Int):kwLn (k.data.toList,n) =⟨k,n,n⟩:=by
 unfold kwLn;obtain⟨⟨d⟩⟩:=k;rfl
theorem Gi_ (p:KW) :(kwLn p).key.data.toList=p.1:=by simp[kwLn]
theorem Z8_ {w:Ap_}:∀{L:List KW} {p:KW},L[ctK L w]?=some p→¬p.1<w
 | [],p,h=>by simp at h
 | q::L,p,h=>by
  simp only[ctK] at h
  by_cases a:q.1<w
  ·rw[if_pos a] at h
   exact Z8_ (L:=L) (by simpa using h)
  ·rw[if_neg a] at h
   simp at h
   subst h;exact a
section
variable {L:List KW} {w:Ap_} {n:Int}
theorem gi_ {i:Nat} (h:i<ctK L w) (hi:i<(L.map kwLn).length) :(L.map kwLn)[i].key.data.toList<w:=by
 have h2:i<L.length:=by simpa using hi
 rw[List.getElem_map,Gi_];exact ar_ h (gq_ h2)
theorem f3_ (hi:ctK L w<(L.map kwLn).length):¬(L.map kwLn)[ctK L w].key.data.toList<w:=by
 have h2:ctK L w<L.length:=by simpa using hi
 rw[List.getElem_map,Gi_];exact Z8_ (gq_ h2)
theorem eh_ (hA:AscB L) (hi:ctK L w<(L.map kwLn).length) (he :(L.map kwLn)[ctK L w].key.data.toList=w) :(L.map kwLn)[ctK L w]?=some (kwLn (w,ctAt L w))∧(L.map kwLn).set (ctK L w) (kwLn (w,satA (ctAt L w) n)) =(ctPut L w n).map kwLn:=by
 have h2:ctK L w<L.length:=by simpa using hi
 rw[List.getElem_map,Gi_] at he;have h3:ctHas L w=true:=Un_ (gq_ h2) he;refine⟨?_,?_⟩
 ·rw[List.getElem?_map,(Gh_ hA).1 h3];rfl
 ·rw[Mf_ hA h3,List.map_set]
theorem d7_ (hA:AscB L) (hn:¬∃hi:ctK L w<(L.map kwLn).length,(L.map kwLn)[ctK L w].key.data.toList=w):ctHas L w=false:=by
 have hle:=O5_ (w:=w) (L:=L)
 by_cases h2:ctK L w<L.length
 ·exact Yh_ hA (gq_ h2) fun e=>hn ⟨by simpa using h2,by rw[List.getElem_map,Gi_];exact e⟩
 ·exact V4_ hA (by omega)
theorem eo_ (hA:AscB L) (hn:ctHas L w=false) :((L.map kwLn).take (ctK L w)++[kwLn (w,0)]++(L.map kwLn).drop (ctK L w))[ctK L w]?=some (kwLn (w,0)) ∧
  ((L.map kwLn).take (ctK L w)++[kwLn (w,0)]++(L.map kwLn).drop (ctK L w)).set (ctK L w) (kwLn (w,satA 0 n)) =(ctPut L w n).map kwLn:=by
 have hle:=O5_ (w:=w) (L:=L)
 have e :((L.map kwLn).take (ctK L w)).length=ctK L w:=by simp;omega
 refine⟨?_,?_⟩
 ·rw[List.append_assoc,List.getElem?_append_right (by omega),e];simp
 ·rw[Pm_ hA hn,List.append_assoc,List.set_append_right _ _ (by omega),e,Nat.sub_self]
  simp[List.map_take,List.map_drop]
end
attribute [local go_sem ↓] Ag_
attribute [local go_sem] Ah_
theorem Ws_ (c:Cfg) (win:Int) (v:Value) (l:List ItR) (w:World) (h:RdL itF 3 w v l) (hW:∀x∈l,ItW x) (hl:l.length≤1000000000) :
  Calls Tryz.prog 30 #[c.val,.int .i64 win,v] w (RetOwn lnF 3 46 ((cntL c win l).map kwLn) w):=by
 obtain⟨a,cp,rfl⟩:=h.shape;have hm:=h.2.1;have H:=hh_ h;have HW:=hh_ hW;have HAsc:=hh_ (fun k=>Kk_ c win (l.take k));have HLen:=hh_ (fun k=>Ex_ c win (l.take k));have HCw:=hh_ (fun k=>Pl_ c win (l.take k) fun x hx=>hW x (List.mem_of_mem_take hx));clear h hW
 go_enter func30,ntmps30
 go_upto_region 3 with(refine Au_ rfl _ rfl c rfl ?_;intro w1 B1 G1 z1)
 have H1:=hh_ (H.out.same G1);have z1':=G1.size;have B1':=hh_ B1;have HG1:=hh_ G1;clear G1 H
 go_loopw [13,7] (fun s13 s7 wk=>∃j:Nat,j≤l.length∧s13=.int .i64 j∧Own lnF 3 46 w1.heap.size wk s7 ((cntL c win (l.take j)).map kwLn)∧w1.grownBy wk none) (fun s13 _ _=>l.length-(RowKit.intOf s13).toNat)
 case atStart=>exact⟨0,zl_ _,rfl,Own.nil _ _ _ _ _,Ab_ _ _⟩
 case round=>
  clear B1;obtain⟨j,hj,rfl,hO,hg⟩:=hrel
  by_cases hjl:j<l.length
  ·obtain⟨gx,ox,cx,hv,hgx,hcx⟩:=(RdL.same H1.out hg).at_ Dv_ hjl
   cases hv;have c0:=hcx 0 _ rfl;have c1:=hcx 1 _ rfl;have c2:=hcx 2 _ rfl;rw[Nat.add_zero] at c0;have HT:=hh_ (show cntL c win (l.take (j+1))=cntS c win (cntL c win (l.take j)) l[j] by rw[tg_ hjl,E6_]);have hwx:=HW.out _ (mg_ hjl);have hA:=HAsc.out j;have hle:=HLen.out j;have hCw:=HCw.out j;rw[lk_] at hle
   have hsl :((cntL c win (l.take j)).map kwLn).length≤1000000000:=by rw[List.length_map];omega
   clear hcx;generalize cntL c win (l.take j)=L at *;generalize l[j]=it at *;have HS0:=hh_ (show inWin c win it=false→cntS c win L it=L from fun h=>by unfold cntS;rw[h];rfl);have HS1:=hh_ (show inWin c win it=true→cntS c win L it=ctPut L it.key.data.toList it.weight from fun h=>by unfold cntS;rw[h];rfl);have HIn:=hh_ (show inWin c win it =(decide (0≤it.time)&&decide (it.time≤1099511627776)&&decide (winV c it.time=win)) from rfl);have HN2:=hh_ (p:=∀S,L.map kwLn=S→∀i (_:i<ctK L it.key.data.toList) (hi:i<S.length),S[i].key.data.toList<it.key.data.toList) (fun S e i h hi=>by subst e;exact gi_ h hi);have HN3:=hh_ (p:=∀S,L.map kwLn=S→∀(hi:ctK L it.key.data.toList<S.length),¬S[ctK L it.key.data.toList].key.data.toList<it.key.data.toList) (fun S e hi=>by subst e;exact f3_ hi)
   have hPle:ctK L it.key.data.toList≤(L.map kwLn).length:=by rw[List.length_map];exact O5_
   have HY:=hh_ (p:=∀(hi:ctK L it.key.data.toList<(L.map kwLn).length),(L.map kwLn)[ctK L it.key.data.toList].key.data.toList=it.key.data.toList→∃q,W64 q∧(L.map kwLn)[ctK L it.key.data.toList]?=some ⟨it.key,q,q⟩∧(L.map kwLn).set (ctK L it.key.data.toList) ⟨it.key,satA q it.weight,satA q it.weight⟩ =(ctPut L it.key.data.toList it.weight).map kwLn) (fun hi he=>by
    have:=eh_ (n:=it.weight) hA hi he
    rw[Kh_,Kh_] at this
    exact⟨_,Ru_ hCw,this⟩)
   have HNo:=hh_ (p:=(¬∃hi:ctK L it.key.data.toList<(L.map kwLn).length,(L.map kwLn)[ctK L it.key.data.toList].key.data.toList=it.key.data.toList)→∃q,W64 q∧((L.map kwLn).take (ctK L it.key.data.toList)++[(⟨it.key,0,0⟩:Ln)]++(L.map kwLn).drop (ctK L it.key.data.toList))[ctK L it.key.data.toList]?=some ⟨it.key,q,q⟩∧((L.map kwLn).take (ctK L it.key.data.toList)++[(⟨it.key,0,0⟩:Ln)]++(L.map kwLn).drop (ctK L it.key.data.toList)).set (ctK L it.key.data.toList) ⟨it.key,satA q it.weight,satA q it.weight⟩ =(ctPut L it.key.data.toList it.weight).map kwLn) (fun h=>by
    have:=eo_ (n:=it.weight) hA (d7_ hA h)
    rw[Kh_,Kh_] at this
    exact⟨0,by simp[W64],this⟩)
   generalize inWin c win it=iw at *;generalize ctK L it.key.data.toList=N at *;obtain⟨S,hS⟩:∃S,L.map kwLn=S:=⟨_,rfl⟩;have HSe:=hh_ hS;rw[hS] at hO hsl hPle HY HNo;replace HN2:=hh_ (HN2.out S hS);replace HN3:=hh_ (HN3.out S hS);clear hS;obtain⟨oa,oc,rfl⟩:=hO.shape
   go_upto_region 5 with fail
   have hgw:=hg;have O2:=hO.same (ga_ wr (.cells #[.string it.key,.int .i64 it.time,.int .u64 it.weight] 41) none);have G2:=Ad_ hg (.cells #[.string it.key,.int .i64 it.time,.int .u64 it.weight] 41);have A2:=Blk.new wr #[.string it.key,.int .i64 it.time,.int .u64 it.weight] 41;generalize wr.alloc _=w2 at *;generalize wr.heap.size=gk at *;have B2:=B1'.out.same G2;clear hO hg hgw c0 c1 c2 hgx;have a2:=A2.cell
   have CW:=hh_ fun w'=>P7_ c it.time w'
   by_cases t0:it.time<0
   ·have HF:=hh_ (HT.out.trans (HS0.out (by rw[HIn.out,df_ (show ¬0≤it.time by omega)];rfl)))
    have d0:decide (it.time<0)=true:=dt_ t0
    go_wp2_with fail
    exact⟨⟨j+1,by omega,by go_num,by rw[HF.out,HSe.out];exact O2,G2⟩,by simp[RowKit.intOf];omega⟩
   have e0:decide (0≤it.time)=true:=dt_ (by omega);have d0:decide (it.time<0)=false:=df_ t0
   by_cases t1:1099511627776<it.time
   ·have HF:=hh_ (HT.out.trans (HS0.out (by rw[HIn.out,df_ (show ¬it.time≤1099511627776 by omega)];simp)))
    have d1:decide ((1099511627776:Int)<it.time)=true:=dt_ t1
    go_wp2_with fail
    exact⟨⟨j+1,by omega,by go_num,by rw[HF.out,HSe.out];exact O2,G2⟩,by simp[RowKit.intOf];omega⟩
   have e1:decide (it.time≤1099511627776)=true:=dt_ (by omega);have d1:decide ((1099511627776:Int)<it.time)=false:=df_ t1
   by_cases t2:winV c it.time=win
   case neg=>
    have HF:=hh_ (HT.out.trans (HS0.out (by rw[HIn.out,df_ t2];simp)))
    have d2 :(winV c it.time != win)=true:=by simpa using t2
    have d3 :(winV c it.time==win)=false:=by simpa using t2
    generalize winV c it.time=q at *;clear HIn HS0 HS1
    go_wp2_with (first
     |(refine A0_ rfl _ rfl _ rfl c (by assumption) ?_)
     |(go_at_call 50;refine(CW.out _).mono ?_;rintro e w3 ⟨rfl,g3⟩))
    exact⟨⟨j+1,by omega,by go_num,by rw[HF.out,HSe.out];exact O2.same g3,Aa_ G2 g3⟩,by simp[RowKit.intOf];omega⟩
   case pos=>
    have HF:=hh_ (HT.out.trans (HS1.out (by rw[HIn.out,e0,e1,dt_ t2];rfl)))
    have d2 :(winV c it.time != win)=false:=by simpa using t2
    have d3 :(winV c it.time==win)=true:=by simpa using t2
    generalize winV c it.time=qw at *;have HR:=hh_ (p:=∀R,R =(ctPut L it.key.data.toList it.weight).map kwLn→R =(cntL c win (l.take (j+1))).map kwLn) (fun R hR=>by rw[hR,HF.out]);have Hwx:=hh_ hwx.weight;clear HIn HS0 HS1 hA hCw HSe hwx HF;generalize (ctPut L it.key.data.toList it.weight).map kwLn=RR at *;clear hle
    go_upto_region 6 with(first
     |(refine A0_ rfl _ rfl _ rfl c (by assumption) ?_)
     |(go_at_call 50;refine(CW.out _).mono ?_;rintro e w3 ⟨rfl,g3⟩))
    have O3:=O2.same g3;have A3:=A2.same g3;have G3:=Aa_ G2 g3;clear O2 A2 a2 B2 CW g3 G2 t0 t1 t2 e0 e1 d0 d1 d2 d3
    go_cut [10] (fun s10 wx=>s10=.int .i64 0∧w3=wx)
    case first=>
     go_wp2_with fail
     go_meet
     exact⟨rfl,rfl⟩
    obtain⟨rfl,rfl⟩:=hcut
    rename_i hK
    refine hK _ _ ?_
    apply wp_seq_k
    intro K1 hK1
    go_cut [10,33,34,35,36,37,38,39,40,41,42,43,44,45,46,47,48] (fun s10 _ _ _ _ _ _ _ _ _ _ _ _ _ _ _ _ wx=>s10=.int .i64 N∧w3.grownBy wx none)
    case first=>
     go_wp2_with fail
     go_loopw [10] (fun s10 wk=>∃m:Nat,m≤N∧s10=.int .i64 m∧w3.grownBy wk none) (fun s10 _=>N-(RowKit.intOf s10).toNat)
     case atStart=>exact⟨0,zl_ _,rfl,Ab_ _ _⟩
     case round=>
      obtain⟨m,hm,rfl,hgm⟩:=hrel;have am:=(A3.same hgm).cell
      by_cases hml:m<S.length
      ·obtain⟨go,oo,co,hvo,hgo,cm⟩:=(RdL.same O3.rd hgm).at_ Ar_ hml
       cases hvo;have cm0:=cm 0 _ rfl;rw[Nat.add_zero] at cm0
       have hml2 :(m:Int)<(S.length:Int):=by omega
       have hbl:=af_ S[m].key it.key;clear cm
       by_cases hmN:m<N
       ·have hlt:=HN2.out m hmN hml
        rw[dt_ hlt] at hbl;generalize S[m]=y at *;clear hlt
        go_wp2_with fail
        go_quiet (fail)
        go_wp2_with fail
        exact⟨⟨m+1,by omega,by go_num,Ae_ hgm _⟩,by simp[RowKit.intOf];omega⟩
       ·obtain rfl:m=N:=by omega
        have hlt:=HN3.out hml;rw[df_ hlt] at hbl;generalize S[m]=y at *;clear hlt
        go_wp2_with fail
        go_quiet (fail)
        go_wp2_with fail
        go_meet
        exact⟨rfl,Ae_ hgm _⟩
      ·obtain rfl:m=N:=by omega
       have hml2:decide ((m:Int)<(S.length:Int))=false:=df_ (by omega)
       go_wp2_with fail
       go_quiet (fail)
       go_wp2_with fail
       go_meet
       exact⟨rfl,Ae_ hgm _⟩
    obtain⟨rfl,h3⟩:=hcut;refine hK1 _ _ ?_;replace O3:=O3.same h3;replace A3:=A3.same h3;replace G3:=Aa_ G3 h3;have a3:=A3.cell
    apply wp_seq_k
    intro K3 hK3
    go_cut [7,49,50,51,52,53,54,55,56,57,58,59,60,61,62,63,64,65,66,67,68,69,70,71,72,73,74,75,76] (fun s7 _ _ _ _ _ _ _ _ _ _ _ _ _ _ _ _ _ _ _ _ _ _ _ _ _ _ _ _ wx=>∃S2 q,Own lnF 3 46 w1.heap.size wx s7 S2∧S2.length≤1000000001∧W64 q∧S2[N]?=some ⟨it.key,q,q⟩∧S2.set N ⟨it.key,satA q it.weight,satA q it.weight⟩=RR∧Blk wx gk #[.string it.key,.int .i64 it.time,.int .u64 it.weight]∧w1.grownBy wx none)
    case first=>
     have O3':=hh_ O3;have A3':=hh_ A3
     by_cases hdup:∃(hk:N<S.length),S[N].key.data.toList=it.key.data.toList
     ·obtain⟨hml,he⟩:=hdup
      obtain⟨q,hq,hat,hset⟩:=HY.out hml he;have HF:=hh_ (And.intro hq (And.intro hat hset));obtain⟨go,oo,co,hvo,hgo,cm⟩:=O3.rd.at_ Ar_ hml;cases hvo;have cm0:=cm 0 _ rfl;rw[Nat.add_zero] at cm0;have hml2 :((N:Int)==(S.length:Int))=false:=bf_ (by omega)
      have hml3 :(N:Int)<(S.length:Int):=by omega
      have hbe:=H2_ S[N].key it.key;rw[dt_ he] at hbe;generalize S[N]=y at *;clear he cm HNo HN2 HN3 HY hq hat hset
      go_wp2_with fail
      go_quiet (fail)
      go_wp2_with fail
      go_meet
      exact⟨S,q,O3'.out.same (Ae_ (Ab_ _ _) _),by omega,HF.out.1,HF.out.2.1,HF.out.2.2,A3'.out.drew _,Ae_ G3 _⟩
     ·obtain⟨q,hq,hat,hset⟩:=HNo.out hdup
      have HF:=hh_ (And.intro hq (And.intro hat hset));clear hq hat hset HNo HN2 HN3 HY
      apply wp_seq_k
      intro K4 hK4
      go_cut [49,50,51,52,53,54,55,56,57,58,59,60,61,62] (fun _ _ _ _ _ _ _ _ _ _ _ _ _ s62 wx=>s62=.bool true∧Own lnF 3 46 w1.heap.size wx (.slice oa S.length oc) S∧Blk wx gk #[.string it.key,.int .i64 it.time,.int .u64 it.weight]∧w1.grownBy wx none)
      case first=>
       by_cases hml:N<S.length
       ·obtain⟨go,oo,co,hvo,hgo,cm⟩:=O3.rd.at_ Ar_ hml
        cases hvo;have cm0:=cm 0 _ rfl;rw[Nat.add_zero] at cm0;have hml2 :((N:Int)==(S.length:Int))=false:=bf_ (by omega)
        have hml3 :(N:Int)<(S.length:Int):=by omega
        have hbe:=H2_ S[N].key it.key;rw[df_ (show ¬S[N].key.data.toList=it.key.data.toList from fun e=>hdup ⟨hml,e⟩)] at hbe;generalize S[N]=y at *;clear hdup cm HF
        go_wp2_with fail
        go_quiet (fail)
        go_wp2_with fail
        go_meet
        exact⟨rfl,O3'.out.same (Ae_ (Ab_ _ _) _),A3'.out.drew _,Ae_ G3 _⟩
       ·obtain rfl:N=S.length:=by omega
        clear hdup HF
        have hml2 :((S.length:Int)==(S.length:Int))=true:=by simp
        go_wp2_with fail
        go_quiet (fail)
        go_wp2_with fail
        go_meet
        exact⟨rfl,O3'.out.same (Ae_ (Ab_ _ _) _),A3'.out.drew _,Ae_ G3 _⟩
      obtain⟨rfl,O3,A3,G3⟩:=hcut;clear a3 hdup O3' A3';refine hK4 _ _ ?_;obtain⟨w,hww⟩:∃w',w'=w1:=⟨_,rfl⟩;have Hww:=hh_ hww;rw[←hww] at O3 G3;clear hww;have hKl:=hPle;have HSb:=hh_ hsl;obtain⟨x,hx⟩:∃x:Ln,x =⟨it.key,0,0⟩:=⟨_,rfl⟩;have HX:=hh_ (show(#[Value.string it.key,.int .u64 0,.int .u64 0]:Array Value).toList=lnF x by rw[hx];rfl);rw[←hx] at HF;have HXl:=hh_ (show(S.take N++[x]++S.drop N).length≤1000000001 by simp;omega);clear hx;obtain⟨P,rfl⟩:∃P,P=N:=⟨_,rfl⟩
      go_upto_region 10 with fail
      have hcap:=O3.cap
      have hP0 :(0:Int)≤(P:Int):=by omega
      have hP1 :(P:Int)≤(S.length:Int):=by omega
      have hP2 :(P:Int)≤(oc:Int):=by omega
      have hP3 :(S.length:Int)≤(oc:Int):=by omega
      have hsz:=G3.size;refine wp_region_any (by kernel_rfl) ?_
      (refine Tail.take_put 10 73 (.slice oa S.length oc) rfl rfl (by kernel_rfl) (by kernel_rfl) (by kernel_rfl) (fun _ _ _ h=>h) (Or.inl ⟨by rfl,fun w=>?_⟩) ?_;· go_simp);simp only[List.setIfInBounds_toArray,List.set_cons_zero,List.set_cons_succ]
      (refine Tail.take_put 11 74 (.int .i64 P) rfl rfl (by kernel_rfl) (by kernel_rfl) (by kernel_rfl) (fun _ _ _ h=>h) (Or.inl ⟨by rfl,fun w=>?_⟩) ?_;· go_simp);simp only[List.setIfInBounds_toArray,List.set_cons_zero,List.set_cons_succ]
      (refine Tail.take_put 12 75 (.slice (if oc=P then oa else oa.map (·.add (P*3))) (S.length-P) (oc-P)) rfl rfl (by kernel_rfl) (by kernel_rfl) (by kernel_rfl) (fun _ _ _ h=>h) (Or.inl ⟨by rfl,fun w=>?_⟩) ?_;· go_simp);simp only[List.setIfInBounds_toArray,List.set_cons_zero,List.set_cons_succ]
      have RD:=hh_ fun w' (h:Own lnF 3 46 w.heap.size w' (.slice oa S.length oc) S)=>h.rd.drop Ar_ hKl hcap (oc-P)
      generalize (if oc=P then oa else oa.map (·.add (P*3)))=od at *
      (refine ra_ 9 #[false,false,false,false,false,false,false,false,false,false,true,true,true,false,false] ?_;simp only[List.take,List.drop,Rg.tailL];simp (decide:=true) only[if_true,if_false])
      have Gd:wc.grownBy wc.drew none:=gw_;have Kd:=Aa_ G3 Gd
      have hb1 :(S.take P).length=P:=by simp;omega
      have hb2 :(S.take P).length*32≤140737488355328:=by rw[hb1];omega
      have hb3 :(S.take P).length≤9223372036854775807:=by rw[hb1];omega
      have hb4 :((S.take P).length+1)*32≤140737488355328:=by rw[hb1];omega
      have hb5 :(S.take P).length+1≤9223372036854775807:=by rw[hb1];omega
      have hb6 :(S.take P++[x]).length=P+1:=by rw[la_,hb1];rfl
      have hb7 :(S.drop P).length=S.length-P:=by simp
      have hb8 :((S.take P++[x]).length+(S.drop P).length)*32≤140737488355328:=by rw[hb6,hb7];omega
      have hb9 :(S.take P++[x]).length+(S.drop P).length≤9223372036854775807:=by rw[hb6,hb7];omega
      have Hb1:=hh_ hb1.symm;have Hb7:=hh_ hb7.symm;clear hb1 hb6 hb7
      (refine to_ ?_;intro y0 my0 dy0)
      clear dy0;have zy0:w.heap.size≤y0.heap.size:=(Aa_ Kd my0).size
      go_wp2_with fail
      refine⟨ga_ _ _ _,?_⟩;have N0:=Aw_ (e:=46) lnF 3 zy0;have hg0:wc.heap.size≤y0.heap.size:=(Aa_ Gd my0).size;generalize y0.alloc _=e0 at *;generalize y0.heap.size=g0 at *
      (refine tq_ 3 ?_;(repeat(go_big_quiet_step (fail)));refine wn_ ?_)
      (refine to_ ?_;intro y4 my4 dy4)
      have N4:=N0.same (dy4.out 0 (by omega) (by kernel_rfl));have K4:=Aa_ Gd my4;have R4:=(O3.rd.take Ar_ hKl oc).same K4;have z4:=(Aa_ Kd my4).size
      go_wp2_with (at_builtin;refine A2_ Ez_ Ey_ N4 R4 Hb1.out hb2 hb3 z4 (by rfl) _ _ (by rfl) (by rfl) (by rfl) ?_;intro v4 e4 o4 g4 l4;have Hg4:=hh_ g4;clear g4)
      refine⟨Hg4.out,?_⟩;have hv4:=Lies.ge l4 (fun k hk=>lt_ hg0 (K7_ _ _ _ k hk)) K4.size;clear R4 N0 N4 K4 z4 dy4 l4
      (refine tq_ 1 ?_;(repeat(go_big_quiet_step (fail)));refine wn_ ?_)
      (refine to_ ?_;intro y5 my5 dy5)
      clear dy5;have a5:=(A3.same (Aa_ Gd my5)).cell
      go_wp2_with fail
      refine⟨Ab_ _ _,?_⟩;clear a5
      (refine tq_ 1 ?_;(repeat(go_big_quiet_step (fail)));refine wn_ ?_)
      (refine to_ ?_;intro y6 my6 dy6)
      clear dy6
      go_wp2_with fail
      refine⟨ga_ _ _ _,?_⟩;have N6:=Blk.new y6 #[.string it.key,.int .u64 0,.int .u64 0] 46;generalize y6.alloc _=e6 at *;generalize y6.heap.size=g6 at *
      (refine Rg.tree_nil ?_;intro z mz dz cz)
      have o5:=o4.same (dz.out 4 (by omega));have N7:=(N6.same (dz.out 8 (by omega))).one Ar_ x HX.out;have Kz:=Aa_ Gd mz;have KK:=Aa_ Kd mz;have z7:=KK.size;have O7:=O3.same Kz;have AZ:=A3.same Kz;have hga:=A3.lt;have hkz:=Kz.size
      have hlo:∀k,Value.ownBlock (.slice oa S.length oc)=some k→k<wc.heap.size:=fun k hk=>(O3.lt k hk).2
      have tok:=hh_ hP0;clear dz cz my0 my4 my5 my6 mz Hg4 Kz N6 o4 O3 A3 hg0 zy0 Gd Kd
      go_wp2_with (first
       |(at_builtin;have _t:=tok;refine app Ez_ Ey_ o5 N7 rfl hb4 hb5 z7 (by rfl) _ _ (by rfl) (by rfl) (by rfl) ?_;intro v7 w7 o7 g7 l7;clear tok;have K7:=Ao_ KK o5 (le_ _) g7;have AZ7:=AZ.kept g7 (fun e=>by have:=hv4 _ e;omega);have hv7:=Lies.ge l7 hv4 hkz;have R8:=RD.out _ (O7.kept g7 (fun k hk e=>by have:=hlo k hk;have:=hv4 k e;omega));have z8:=K7.size)
       |(at_builtin;refine app Ez_ Ey_ o7 R8 Hb7.out hb8 hb9 z8 (by rfl) _ _ (by rfl) (by rfl) (by rfl) ?_;intro v8 w8 o8 g8 l8;have K8:=Ao_ K7 o7 (le_ _) g8;have AZ8:=AZ7.kept g8 (fun e=>by have:=hv7 _ e;omega)))
      go_meet
      exact⟨_,_,by rw[←Hww.out];exact o8,HXl.out,HF.out.1,HF.out.2.1,HF.out.2.2,AZ8,by rw[←Hww.out];exact K8⟩
    obtain⟨S2,q,O4,hS2,hq,hat,hset,A4,G4⟩:=hcut;refine hK3 _ _ ?_;obtain⟨hNl,hNe⟩:=gs_ hat;obtain⟨g2,cap2,rfl,hgB,hgl,hcap,hcx,hfz⟩:=O4.at_ Ar_ hNl;rw[hNe] at hcx;have c1:=hcx 1 _ rfl;have fz:=hfz (N*3+1);have a4:=A4.cell;have hw64:=Hwx.out
    have hNi :(N:Int)<(S2.length:Int):=by omega
    clear hcx hfz HNo HN2 HN3 HY a3 A3 O3 G3 h3
    go_upto_region 11 with fail
    (refine Tail.wp_region_tail_drawn 12 (by kernel_rfl) (by kernel_rfl) ?_;simp only[List.take,List.drop];(repeat(go_big_quiet_step ((go_at_call 68;exact Calls.quiet_of_same ((Eg_ q it.weight _ hq hw64).mono fun _ _ ⟨he,hw⟩=>⟨he,hw.symm⟩)))));refine wn_ ?_;rintro _ ⟨nq,rfl⟩)
    have s5:=(O4.same (Ae_ (Ab_ _ _) nq)).stored Ar_ hNl (show 1<3 by omega) (.int .u64 (satA q it.weight)) ⟨it.key,satA q it.weight,q⟩ (by rw[hNe];rfl);have G5:=Ao_ (Ae_ G4 nq) (O4.same (Ae_ (Ab_ _ _) nq)) (le_ _) s5.2
    go_upto_region 12 with fail
    have O5:=s5.1;clear s5 c1 fz a4 A4 O4 G4 hgl;generalize (wc.drewN nq).setCell ⟨g2,N*3+1,none⟩ (.int .u64 (satA q it.weight))=w5 at *
    have hNl5:N<(S2.set N ⟨it.key,satA q it.weight,q⟩).length:=by rw[List.length_set];exact hNl
    have hNe5 :(S2.set N ⟨it.key,satA q it.weight,q⟩)[N]'hNl5 =⟨it.key,satA q it.weight,q⟩:=by simp
    obtain⟨g3,cap3,hv3,-,hgl,-,hcx,hfz⟩:=O5.at_ Ar_ hNl5
    obtain⟨hg',-,-⟩:some ⟨g2,0,none⟩=some (⟨g3,0,none⟩:Addr)∧S2.length =(S2.set N ⟨it.key,satA q it.weight,q⟩).length∧cap2=cap3:=by simpa only[Value.slice.injEq] using hv3
    cases hg';rw[hNe5] at hcx;have c1:=hcx 1 _ rfl;have c2:=hcx 2 _ rfl;have fz:=hfz (N*3+2);have s6:=O5.stored Ar_ hNl5 (show 2<3 by omega) (.int .u64 (satA q it.weight)) ⟨it.key,satA q it.weight,satA q it.weight⟩ (by rw[hNe5];rfl);have s7:=s6.1;rw[List.set_set,hset,HR.out RR rfl] at s7;have G6:=Ao_ G5 O5 (le_ _) s6.2;clear hcx hfz hv3 O5 s6 G5 hset hat hNe hNe5;generalize satA q it.weight=sq at *
    go_wp2_with fail
    exact⟨⟨j+1,by omega,by go_num,s7,G6⟩,by simp[RowKit.intOf];omega⟩
  ·have hke:l.take j=l:=tk_ (by omega)
   rw[hke] at hO;generalize (cntL c win l).map kwLn=S at *;obtain⟨oa,oc,rfl⟩:=hO.shape
   go_wp2_with fail
   go_ret
   exact⟨_,rfl,hO.base (fun k hk=>lt_ z1' (hO.lt k hk).1),Aa_ HG1.out hg⟩
end
section
open Go.RowKit Go.Maps
def agT (L:List KW):Int×Bool:=L.foldl (fun a p=>(satA a.1 p.2,a.2&&fitA a.1 p.2)) (0,true)
theorem J2_ (L:List KW) (p:KW):agT (L++[p]) =(satA (agT L).1 p.2,(agT L).2&&fitA (agT L).1 p.2):=by simp[agT]
theorem Yv_ {L:List KW} (h:∀p∈L,W64 p.2):W64 (agT L).1:=by
 have key:∀k,k≤L.length→W64 (agT (L.take k)).1:=by
  intro k
  induction k with
  | zero=>intro _;simp[agT,W64]
  | succ k ih=>
   intro hk;rw[tg_ (by omega),J2_];exact B9_ (ih (by omega)) (h _ (mg_ _))
 have:=key L.length (le_ _)
 rwa [tk_ (le_ _)] at this
def Fs_ (L:List KW) (w:Ap_):List KW:=L.filter fun p=>!decide (p.1=w)
theorem Wp_ {L:List KW} {w:Ap_} (h:AscB L):AscB (Fs_ L w):=List.Pairwise.sublist List.filter_sublist h
theorem Lr_ {w v:Ap_}:∀{L:List KW},ctHas (Fs_ L w) v =(!decide (v=w)&&ctHas L v)
 | []=>by simp[Fs_,ctHas]
 | p::L=>by
  have ih:=Lr_ (w:=w) (v:=v) (L:=L);unfold Fs_ at ih ⊢
  by_cases h:p.1=w
  ·rw[List.filter_cons_of_neg (by simp[h]),ih]
   simp only[ctHas]
   by_cases e:v=w
   ·simp[e]
   ·have:¬p.1=v:=fun e2=>e (e2.symm.trans h)
    simp[this]
  ·rw[List.filter_cons_of_pos (by simp[h])]
   simp only[ctHas,ih]
   by_cases e:v=w
   ·have:¬p.1=v:=fun e2=>h (e2.trans e)
    simp[e,show ¬p.1=w from h]
   ·simp[e]
theorem Jy_ {w v:Ap_}:∀{L:List KW},ctAt (Fs_ L w) v=if v=w then 0 else ctAt L v
 | []=>by simp[Fs_,ctAt]
 | p::L=>by
  have ih:=Jy_ (w:=w) (v:=v) (L:=L);unfold Fs_ at ih ⊢
  by_cases h:p.1=w
  ·rw[List.filter_cons_of_neg (by simp[h]),ih]
   simp only[ctAt]
   by_cases e:v=w
   ·simp[e]
   ·have:¬p.1=v:=fun e2=>e (e2.symm.trans h)
    simp[e,this]
  ·rw[List.filter_cons_of_pos (by simp[h])]
   simp only[ctAt,ih]
   by_cases e:v=w
   ·have:¬p.1=v:=fun e2=>h (e2.trans e)
    simp[e,show ¬p.1=w from h]
   ·simp[e]
def delAll (L:List KW) (ks:List Ap_):List KW:=ks.foldl Fs_ L
theorem Mw_ (L:List KW) (ks:List Ap_) (w:Ap_):delAll L (ks++[w])=Fs_ (delAll L ks) w:=by simp[delAll]
theorem Qt_ {L:List KW} (h:AscB L):∀ks,AscB (delAll L ks):=by
 intro ks
 induction ks generalizing L with
 | nil=>exact h
 | cons k ks ih=>exact ih (Wp_ h)
theorem Np_ {L:List KW} {ks:List Ap_} {w:Ap_} (h:w∉ks):ctAt (delAll L ks) w=ctAt L w:=by
 induction ks generalizing L with
 | nil=>rfl
 | cons k ks ih=>
  have h1:w≠k:=fun e=>h (e▸List.mem_cons_self)
  show ctAt (delAll (Fs_ L k) ks) w=_
  rw[ih fun hm=>h (List.mem_cons_of_mem k hm),Jy_,if_neg h1]
theorem M6_:∀{L:List KW} {w:Ap_},ctHas L w=true→(w,ctAt L w)∈L
 | [],w,h=>by simp[ctHas] at h
 | p::L,w,h=>by
  simp only[ctAt]
  by_cases e:p.1=w
  ·rw[if_pos e,←e];simp
  ·rw[if_neg e]
   simp only[ctHas,df_ e,Bool.false_or] at h;exact List.mem_cons_of_mem p (M6_ h)
theorem Ik_ {p:KW} {v:Ap_}:∀{L:List KW},ctHas (L++[p]) v =(ctHas L v||decide (p.1=v))
 | []=>by simp[ctHas]
 | q::L=>by simp only[List.cons_append,ctHas,Ik_ (L:=L),Bool.or_assoc]
theorem K4_ {p:KW} {v:Ap_}:∀{L:List KW},ctHas L p.1=false→ctAt (L++[p]) v=if v=p.1 then p.2 else ctAt L v
 | [],_=>by
  simp only[List.nil_append,ctAt]
  by_cases e:v=p.1
  ·rw[if_pos e.symm,if_pos e]
  ·rw[if_neg (fun e2=>e e2.symm),if_neg e]
 | q::L,h=>by
  simp only[ctHas,Bool.or_eq_false_iff,decide_eq_false_iff_not] at h;simp only[List.cons_append,ctAt,K4_ h.2]
  by_cases e:q.1=v
  ·rw[if_pos e,if_pos e,if_neg]
   exact fun e2=>h.1 (e.trans e2)
  ·rw[if_neg e,if_neg e]
section
variable {H:Type} {D:DataW H} {L:List KW}
theorem CntD.snoc (h:CntD D L) (hD:IsMap D) {p:KW} (hp:ctHas L p.1=false) (hk:WideAt.IsKeyLit (.string p.1)):CntD (D.put (.string p.1) (.lit (.int .u64 p.2))) (L++[p]):=by
 constructor
 ·intro k
  rw[Ik_]
  by_cases e:k=p.1
  ·subst e;rw[has_put_same hD hk];simp
  ·rw[has_put_other (Fr_ e),h.has];simp[show ¬p.1=k from fun e2=>e e2.symm]
 ·intro k
  rw[K4_ hp]
  by_cases e:k=p.1
  ·subst e;rw[atKey_put_same hD hk,if_pos rfl]
  ·rw[atKey_put_other (Fr_ e),h.at_,if_neg e]
theorem CntD.del (h:CntD D L) {w:Ap_}:CntD (D.del (.string w)) (Fs_ L w):=by
 constructor
 ·intro k
  rw[Lr_]
  by_cases e:k=w
  ·subst e;rw[has_del_same];simp
  ·rw[has_del_other (Fr_ e),h.has];simp[e]
 ·intro k
  rw[Jy_]
  by_cases e:k=w
  ·subst e;rw[atKey_del_same,if_pos rfl]
  ·rw[atKey_del_other (Fr_ e),h.at_,if_neg e]
end
theorem c9_ {L:List KW} {p:KW} (h:AscB (L++[p])):ctHas L p.1=false:=by
 cases hh:ctHas L p.1 with
 | false=>rfl
 | true=>
  have h1:=M6_ hh;have h2:=(List.pairwise_append.1 h).2.2 _ h1 p (by simp);exact absurd h2 (Cj_ _)
def lineOff (L:List KW) (x:Ln):Bool:=!(decide (x.lo≤ctAt L x.key.data.toList)&&decide (ctAt L x.key.data.toList≤x.hi))
def agE (c:Cfg) (r:Rep) (l:List ItR):Int:=if auditE c r≠0 then auditE c r
 else if (agT (cntL c r.win l)).2=false∨(agT (cntL c r.win l)).1≠r.tot then 13
 else if r.lines.any (lineOff (cntL c r.win l))=true then 13
 else if (delAll (cntL c r.win l) (keysN r.lines)).any (fun p=>decide (r.rest<p.2))=true then 13 else 0
end
end Go.Proofs.YtckmgjmeanloaaaGreat
