/- Several texts in one file: contracts of functions of the given program, and plain laws, for the proof of a statement. -/
import Derived.Test.YtckmgjmeanloaaaGreatBaal
set_option maxHeartbeats 8000000
set_option maxRecDepth 100000
namespace Go.Proofs.YtckmgjmeanloaaaGreat
open Go.Proofs.Tryz
section
open Go.RowKit Go.Sort
def mapTo {α:Type} (f:α→α) (j:Nat) (l:List α):List α:=(l.take j).map f++l.drop j
theorem Fq_ {α:Type} (f:α→α) (l:List α):mapTo f 0 l=l:=by simp[mapTo]
theorem I3_ {α:Type} (f:α→α) (l:List α):mapTo f l.length l=l.map f:=by simp[mapTo]
theorem Mh_ {α:Type} (f:α→α) (j:Nat) (l:List α) :(mapTo f j l).length=l.length:=by simp[mapTo];omega
theorem L8_ {α:Type} {f:α→α} {j:Nat} {l:List α} (hj:j<l.length) :(mapTo f j l)[j]?=some l[j]:=by
 unfold mapTo;rw[List.getElem?_append_right (by simp;omega),List.getElem?_drop]
 have:j+(j-((l.take j).map f).length)=j:=by simp;omega
 rw[this,gq_ hj]
theorem Ky_ {α:Type} {f:α→α} {j:Nat} {l:List α} (hj:j<l.length) :(mapTo f j l).set j (f l[j])=mapTo f (j+1) l:=by
 unfold mapTo;rw[List.set_append_right _ _ (by simp;omega),tg_ hj,List.map_append]
 have:j-((l.take j).map f).length=0:=by simp;omega
 rw[this,List.append_assoc]
 congr 1
 rw[List.drop_eq_getElem_cons hj];rfl
theorem mem_mapTo {α:Type} {f:α→α} {j:Nat} {l:List α} {x:α} (h:x∈mapTo f j l) :(∃y∈l,x=f y)∨x∈l:=by
 rcases ma_ h with h|h
 ·obtain⟨y,hy,rfl⟩:=List.mem_map.1 h
  exact .inl ⟨y,List.mem_of_mem_take hy,rfl⟩
 ·exact .inr (List.mem_of_mem_drop h)
def ShN (c:Cfg) (N:Nat) (S:ShM):Prop:=ShOk c S∧S.ts.length+S.queue.length≤N
theorem Gj_ {c:Cfg} {t:List Int} {N:Nat} {S:ShM} (hc:Bu_ c) (win:Int) (h:ShN c N S):ShN c N (drainS c t S win):=⟨Gz_ hc h.1 _,Fv_ h.2 _⟩
theorem Xm_ {c:Cfg} {N:Nat} {S:ShM} (win:Int) (h:ShN c N S):ShN c N (closeS S win):=⟨So_ h.1 win,Rb_ h.2⟩
theorem CluOk.shs {c:Cfg} {K:CluM} {N:Nat} (h:CluOk c K N) {l:List ShM} (hl:l.length=K.sh.length) (hs:∀S∈l,ShN c N S):CluOk c { K with sh:=l } N:=
 ⟨h.str,h.acc,h.led,h.items,by have:=h.len;rw[←hl] at this;exact this,hs,h.its⟩
def drK (c:Cfg) (t:List Int) (K:CluM) (win:Int) (j:Nat):CluM:={ K with sh:=mapTo (fun S=>drainS c t S win) j K.sh }
def clK (c:Cfg) (t:List Int) (K:CluM) (win:Int) (j:Nat):CluM:={ K with sh:=mapTo (fun S=>closeS S win) j (K.sh.map fun S=>drainS c t S win) }
theorem Zs_ (c:Cfg) (t:List Int) (K:CluM) (win:Int):drK c t K win 0=K:=by unfold drK;rw[Fq_]
theorem Xi_ (c:Cfg) (t:List Int) (K:CluM) (win:Int):drK c t K win K.sh.length=clK c t K win 0:=by unfold drK clK;rw[Fq_,I3_]
theorem P9_ (c:Cfg) (t:List Int) (K:CluM) (win:Int):{ clK c t K win K.sh.length with led:=ldDel K.led win }=closeK c t K win:=by
 have:mapTo (fun S=>closeS S win) K.sh.length (K.sh.map fun S=>drainS c t S win)=K.sh.map fun S=>closeS (drainS c t S win) win:=by
  rw[show K.sh.length =(K.sh.map fun S=>drainS c t S win).length by simp,I3_,List.map_map];rfl
 unfold clK closeK;rw[this]
theorem e2_ {c:Cfg} {t:List Int} {K:CluM} {N:Nat} (hc:Bu_ c) (h:CluOk c K N) (win:Int) (j:Nat):CluOk c (drK c t K win j) N:=
 h.shs (Mh_ _ _ _) fun S hS=>by
  rcases mem_mapTo hS with⟨y,hy,rfl⟩|hS
  ·exact Gj_ hc win (h.sh y hy)
  ·exact h.sh S hS
theorem Uz_ {c:Cfg} {t:List Int} {K:CluM} {N:Nat} (hc:Bu_ c) (h:CluOk c K N) (win:Int) (j:Nat):CluOk c (clK c t K win j) N:=
 h.shs ((Mh_ _ _ _).trans (by simp)) fun S hS=>by
  rcases mem_mapTo hS with⟨y,hy,rfl⟩|hS
  ·obtain⟨z,hz,rfl⟩:=List.mem_map.1 hy
   exact Xm_ win (Gj_ hc win (h.sh z hz))
  ·obtain⟨z,hz,rfl⟩:=List.mem_map.1 hS
   exact Gj_ hc win (h.sh z hz)
theorem La_ {c:Cfg} {t:List Int} {K:CluM} {N:Nat} (hc:Bu_ c) (h:CluOk c K N) (win:Int):CluOk c (closeK c t K win) N:=by
 rw[←P9_]
 have:=Uz_ (t:=t) hc h win K.sh.length
 exact⟨this.str,this.acc,lt_ Ly_ h.led,this.items,this.len,this.sh,this.its⟩
def plainS (s:Summ):Int×List Ent×Int×List (List Int):=(s.total,s.es,s.untr,s.rows)
structure SumN (s:Summ):Prop where
 wf:SumW s
 rows:RowsOk s.rows
 len:s.rows.length≤1000
 small:SumSmall s
 few:s.es.length≤96
theorem Vf_ {c:Cfg} {X:As_} (h:TierOk c X):∀e∈X.entries,(0<e.key.size∧e.key.size≤255)∧1≤e.own∧0≤e.slack∧e.cnt≤X.sum:=by
 intro e he;have hs:=h.sums
 rcases ma_ (h.entries.1.mem_iff.1 he) with he|he
 ·obtain⟨x,hx,rfl⟩:=List.mem_map.1 he
  have h2:=h.tab.cnt x hx;exact⟨by rw[Em_];exact h.tab.ents.key x hx,by rw[Dn_];exact h.tab.ents.own x hx,(C2_ h.tab hx).1,by omega⟩
 ·exact⟨h.ents.key e he,h.ents.own e he,h.ents.slack e he,h.cnt e he⟩
theorem b6_ {c:Cfg} {o:Option As_} (hn:Bd_ c) (ho:∀X,o=some X→TierOk c X) {s:Summ} (e:plainS s=sumOf o):SumN s:=by
 obtain⟨tot,ve,un,vr,es,vs,rows⟩:=s
 cases o with
 | none=>
  have e' :(tot,es,un,rows) =((0:Int),([]:List Ent),(0:Int),([]:List (List Int))):=e;cases e';exact⟨⟨Dr_,Dr_,by simp,by simp⟩,by simp[RowsOk],by simp,⟨by simp,by simp,by simp⟩,by simp⟩
 | some X=>
  have e' :(tot,es,un,rows) =(X.sum,X.entries,X.T.base,X.rows):=e;cases e';have h:=ho X rfl;have hs:=h.sums;have hb:=h.tab.base;have hm:mostW=9223372036854775808:=rfl;have he:=Vf_ h;have hw:=h.rows.width;have hd:=h.rows.depth;have hnd:=hn.depth;have hnw:=hn.width;have hnum:=h.rows.num
  have hW:∀row∈X.rows,∀x∈row,W64 x:=fun row hr x hx=>by have:=hnum row hr x hx;exact⟨this.1,by omega⟩
  refine⟨⟨⟨by dsimp only;omega,by dsimp only;omega⟩,⟨hb.1,by dsimp only;omega⟩,fun e hx=>?_,hW⟩,fun row hr=>⟨?_,hW row hr⟩,?_,⟨fun e hx=>?_,?_,fun row hr=>?_⟩,?_⟩
  ·obtain⟨_,a,b,d⟩:=he e hx
   unfold Ent.cnt at d;exact⟨⟨by omega,by omega⟩,⟨by omega,by omega⟩⟩
  ·have:=hw row hr;omega
  ·dsimp only;omega
  ·have:=(he e hx).1;omega
  ·dsimp only;omega
  ·have:=hw row hr;omega
  ·have h1:=h.entries.1.length_eq
   simp only[la_,List.length_map] at h1
   have:=h.tab.len;have:=h.tab.m;have:=h.len;have:=hn.exact
   dsimp only;omega
theorem Ta_ {c:Cfg} {S:ShM} (h:ShOk c S) {win:Int} {X:As_} (e:tierAt S.ts win=some X):TierOk c X:=by
 unfold tierAt at e
 split at e
 ·cases hL:S.ts[‹Nat›]? with
  | none=>rw[hL] at e;simp at e
  | some p=>
   rw[hL] at e
   have:p.2=X:=by simpa using e
   rw[←this];exact(h.tiers p (mo_ hL)).2
 ·cases e
def sumsK (c:Cfg) (t:List Int) (K:CluM) (win:Int):List (Int×List Ent×Int×List (List Int)):=K.sh.map fun S=>sumOf (tierAt (drainS c t S win).ts win)
theorem Zn_ {c:Cfg} {t:List Int} {K:CluM} {N:Nat} {win:Int} (hn:Bd_ c) (h:CluOk c K N) {l:List Summ} (e:l.map plainS=sumsK c t K win):∀s∈l,SumN s:=by
 intro s hs
 have h1:plainS s∈sumsK c t K win:=by rw[←e];exact List.mem_map_of_mem hs
 obtain⟨S,hS,h2⟩:=List.mem_map.1 h1;exact b6_ hn (fun X hX=>Ta_ (Gj_ hn.cfg win (h.sh S hS)).1 hX) h2.symm
theorem Kn_:∀{l:List Summ},(∀s∈l,SumN s)→(keysL l).length≤96*l.length
 | [],_=>by simp[keysL]
 | s::l,h=>by
  have h1:=Kn_ (l:=l) fun x hx=>h x (by simp[hx])
  have h2:=(h s (by simp)).few;unfold keysL at *;simp only[List.flatMap_cons,la_,List.length_map,lc_]
  omega
def RepOf (c:Cfg) (t:List Int) (K:CluM) (win:Int) (r:Rep):Prop:=
 ∃l:List Summ,(∀s∈l,SumN s)∧I64 win∧(∀n∈K.rej,W64 n)∧l.map plainS=sumsK c t K win∧r.win=win∧r.tot=totalF l∧r.lines=bLs c t l∧r.over=bOver c t l∧r.trk =((keysF l).length:Int)∧r.rest=bRest c t l∧r.rej=K.rej
def repBl (r:Rep):Fp:=fun i=>(0<r.lines.length∧ownF r.vl i)∨(0<r.rej.length∧ownF r.vr i)
theorem N2_ {α:Type} {f:α→List Value} {s:Nat} {w:World} {v:Value} {l:List α} (h:RdL f s w v l) (h0:0<l.length):Low w (ownF v):=by
 intro i hi
 rcases h.2.2 with⟨h1,_⟩ |⟨g,off,cap,e,hg,_⟩
 ·omega
 ·rw[e] at hi;cases hi;exact hg
theorem repK : Mm_ RepRd repBl :=
  ⟨fun h k ho => ⟨h.lines.keptS k fun h0 a n c e hs => ho a.block (.inl ⟨h0, by rw [e]; rfl⟩) hs, h.rej.keptS k fun h0 a n c e hs => ho a.block (.inr ⟨h0, by rw [e]; rfl⟩) hs, h.lcap, h.rcap⟩,
   fun h i hi => hi.elim (fun ⟨h0, e⟩ => N2_ h.lines h0 i e) fun ⟨h0, e⟩ => N2_ h.rej h0 i e⟩
theorem Hb_ (r:Rep) :(repF r).length=7:=rfl
theorem Oi_:Elt 32 26 (.agg #[.int .i64 0,.int .u64 0,.slice none 0 0,.int .u64 0,.int .i64 0,.int .u64 0,.slice none 0 0]) 7 88:=⟨underlying32,by kernel_rfl,rfl,by decide⟩
theorem Xz_:Elt 123 129 (.agg #[.int .u64 0,.slice none 0 0,.int .u64 0,.slice none 0 0]) 4 64:=⟨underlying123,by kernel_rfl,rfl,by decide⟩
abbrev J5_ (lo:Nat) (w:World) (v:Value) (l:List Rep):Prop:=Bo_ repF 7 26 RepRd repBl lo w v l
def Ju_ (v:Value) (l:List Rep):Fp:=fun i=>ownF v i∨∃r∈l,repBl r i
theorem J5_.low {lo:Nat} {w:World} {v:Value} {l:List Rep} (h:J5_ lo w v l):Low w (Ju_ v l):=fun i hi=>hi.elim (h.own.low i) fun⟨x,hx,hi⟩=>repK.low (h.all x hx).1 i hi
theorem J5_.offS {lo:Nat} {w w':World} {v:Value} {l:List Rep} {S:Fp} (h:J5_ lo w v l) (k:GrownS S w w') (ho:Off (Ju_ v l) S):J5_ lo w' v l:=
 ⟨h.own.offS k (ho.left fun _ hi=>.inl hi),fun x hx=>⟨repK.keep (h.all x hx).1 k fun i hi=>ho i (.inr ⟨x,hx,hi⟩),(h.all x hx).2⟩⟩
def Y5_ (w:World) (s:Summ):Prop:=∃vs':List SlR,s.vs=vs'.map SlR.v∧OSum 0 w s.ve s.vr vs' s.es s.rows
def fn_ (s:Summ):Fp:=fun i=>ownF s.ve i∨ownF s.vr i∨∃v∈s.vs,ownF v i
theorem sumK:Mm_ Y5_ fn_:=by
 refine⟨fun {w w' S s} ⟨vs',e,h⟩ k ho=>⟨vs',e,⟨h.es.offS k fun i hi=>ho i (.inl hi),h.rows.keptS k fun i hi=>ho i ?_,h.base⟩⟩,fun {w s} ⟨vs',e,h⟩ i hi=>?_⟩
 ·rcases hi with hi |⟨u,hu,hi⟩
  ·exact .inr (.inl hi)
  ·exact .inr (.inr ⟨u.v,by rw[e];exact List.mem_map_of_mem hu,hi⟩)
 ·rcases hi with hi|hi |⟨v,hv,hi⟩
  ·exact h.es.low i hi
  ·exact h.rows.low i (.inl hi)
  ·rw[e] at hv
   obtain⟨u,hu,rfl⟩:=List.mem_map.1 hv;exact h.rows.low i (.inr ⟨u,hu,hi⟩)
theorem Y5_.rd {w:World} {s:Summ} (h:Y5_ w s):SumRd w s:=by
 obtain⟨vs',e,h⟩:=h;have h2:=h.rows.rd;rw[←e] at h2;exact⟨h.es.rd,h2.rd,h2.len,h2.all⟩
abbrev b1_ (lo:Nat) (w:World) (v:Value) (l:List Summ):Prop:=Bo_ sumF 4 129 Y5_ fn_ lo w v l
theorem b1_.rd {lo:Nat} {w:World} {v:Value} {l:List Summ} (h:b1_ lo w v l) (hs:∀s∈l,SumN s):Cn_ w v l:=
 ⟨h.own.rd,fun s hs'=>(h.all s hs').1.rd,fun s hs'=>(hs s hs').wf⟩
end
section
open Go.RowKit Go.Sort
theorem ew_ {α:Type} {f:α→List Value} {st e:TypeId} {z:Value} {size bytes:Nat} {w:World} {B:Nat} {v:Value} {l l2:List α} {A:Option Addr} {m c:Nat} {o:Oper} {a:Act} {ops:Array Oper} {rest:List Oper} {Q:Exit→Act→World→Prop}
  (E:Elt st e z size bytes) (h1:∀u∈cellsOf f l2,u.oneCell'=true) (hown:Own f size e B w v l) (hr:RdL f size w (.slice A m c) l2) (hm:m=l2.length) (hb :(l.length+l2.length)*bytes≤140737488355328) (h63:l.length+l2.length≤9223372036854775807) (hbase:B≤w.heap.size)
  (hgd:o.guard=none) (s x:Operand) (ho:o.op=.call { callee:=.builtin .append,args:=#[s,x],argTypes:=#[st,st] }) (hs:a.eval s=v) (hx:a.eval x=.slice A m c)
  (h:∀v' w',Own f size e B w' v' (l++l2)→w.grownBy w' v.ownBlock→Lies v v' w.heap.size→wpList Tryz.prog ops Q rest (a.put o.dst v') w'):wpList Tryz.prog ops Q (o::rest) a w:=by
 refine wpList_plain hgd fun _ hK=>?_
 subst hm;obtain⟨v',w',hrun,h2,h3,h4⟩:=Fm_ (ty:=o.type) E hown hr h1 (by unfold maxLen;exact h63) hb hbase;unfold Oper.wp execOp;simp only[ho,resolve,invoke,builtin,Sem.run_bind,Sem.run_pure,Result.andThen_ok,List.map_toArray,List.map_cons,List.map_nil,hs,hx,hrun];exact hK _ _ (h v' w' (by unfold Own;rw[Aq_,la_];exact h2) h3 h4)
section
variable {w w':World} {G:RcG} {c:Cfg} {t:List Int} {K:CluM} {N:Nat}
theorem W8_ (h:RClu w G c t K) (hC:CfgW w c t G.F) (hOk:CluOk c K N) (hN:N≤1000000000) {i:Nat} {s:RshG} {S:ShM} (hi:G.sh[i]?=some s) (hS:K.sh[i]?=some S) (win:Int) :
  Calls Tryz.prog 55 #[.pointer (some ⟨s.g,0,none⟩),.int .i64 win] w (fun e w'=>(∃x y,e=.returned (.tuple #[.int .i64 x,.int .i64 y]))∧∃s',RClu w' { G with sh:=G.sh.set i s' } c t { K with sh:=K.sh.set i (drainS c t S win) }∧Mov G.F (RcG.F { G with sh:=G.sh.set i s' }) w w'∧s'.g=s.g):=by
 obtain⟨o1,o2⟩:=hOk.sh S (mo_ hS)
 exact(Zt_ s c t S win w (h.core.shd i s S hi hS) o1 hC.nums.tier hC.table (hC.off.right (RcG.F_part (RcG.part_sh hi))) hC.low hC.tlen (by omega)).mono fun e w' ⟨h1,s',R,M,hg⟩=>by
  obtain⟨a,b⟩:=h.setS hi R M hg;exact⟨⟨_,_,h1⟩,s',a,b,hg⟩
theorem Qp_ (h:RClu w G c t K) (hOk:CluOk c K N) (hN:N≤1000000000) {i:Nat} {s:RshG} {S:ShM} (hi:G.sh[i]?=some s) (hS:K.sh[i]?=some S) (win:Int) :
  Calls Tryz.prog 59 #[.pointer (some ⟨s.g,0,none⟩),.int .i64 win] w (fun e w'=>(∃x,e=.returned (.bool x))∧∃s',RClu w' { G with sh:=G.sh.set i s' } c t { K with sh:=K.sh.set i (closeS S win) }∧Mov G.F (RcG.F { G with sh:=G.sh.set i s' }) w w'∧s'.g=s.g):=by
 obtain⟨o1,o2⟩:=hOk.sh S (mo_ hS)
 exact(Xa_ s c t S win w (h.core.shd i s S hi hS) (by omega)).mono fun e w' ⟨h1,s',R,M,hg⟩=>by
  obtain⟨a,b⟩:=h.setS hi R M hg;exact⟨⟨_,h1⟩,s',a,b,hg⟩
theorem fh_ (h:RClu w G c t K) (hn:Bd_ c) (hOk:CluOk c K N) {i:Nat} {s:RshG} {S:ShM} (hi:G.sh[i]?=some s) (hS:K.sh[i]?=some S) (win:Int) :
  Calls Tryz.prog 56 #[.pointer (some ⟨s.g,0,none⟩),.int .i64 win] w (Vv_ (tierAt S.ts win) w):=
 Wo_ s c t S win w (h.core.shd i s S hi hS) (hOk.sh S (mo_ hS)).1 hn
theorem db_ (h:RClu w G c t K) (hOk:CluOk c K N) (hN:N≤1000000000):Calls Tryz.prog 53 #[.pointer (some ⟨G.bl,0,none⟩)] w (RetOwn intF 1 3 (K.led.map (·.1)) w):=
 Jp_ G.LF G.bl K.led K.acc K.rej w h.core.led (by have:=hOk.led;omega)
theorem bt_ (h:RClu w G c t K):Calls Tryz.prog 58 #[.pointer (some ⟨G.bl,0,none⟩)] w (RetOwn wordF 1 22 K.rej w):=
 Kv_ G.LF G.bl K.led K.acc K.rej w h.core.led
end
structure TkF (w:World) (U:Fp) (lo:Nat) (vw:Value) (ws:List Int) (vo:Value) (rs:List Rep):Prop where
 win:Own intF 1 3 lo w vw ws
 o1:Off (ownF vw) U
 out:J5_ lo w vo rs
 o2:Off (Ju_ vo rs) U
 o3:Off (ownF vw) (Ju_ vo rs)
theorem TkF.mov {w w':World} {U U':Fp} {lo:Nat} {vw:Value} {ws:List Int} {vo:Value} {rs:List Rep} (h:TkF w U lo vw ws vo rs) (m:Mov U U' w w'):TkF w' U' lo vw ws vo rs:=
 ⟨h.win.offS m.grown h.o1,m.off h.win.low h.o1,h.out.offS m.grown h.o2,m.off h.out.low h.o2,h.o3⟩
structure TkS (w0:World) (G0:RcG) (c:Cfg) (t:List Int) (w:World) (G:RcG) (K:CluM) (vw:Value) (ws:List Int) (vo:Value) (rs:List Rep):Prop where
 clu:RClu w G c t K
 cfg:CfgW w c t G.F
 mov:Mov G0.F G.F w0 w
 fr:TkF w G.F w0.heap.size vw ws vo rs
 tl:∀i,ownF c.Table i→i<w0.heap.size
 g:G.g=G0.g
 bl:G.bl=G0.bl
 vs:G.vs=G0.vs
 gs:G.sh.map (·.g)=G0.sh.map (·.g)
section
variable {w0 w w':World} {G0 G G':RcG} {c:Cfg} {t:List Int} {K K':CluM} {vw vo vo':Value} {ws:List Int} {rs rs':List Rep}
theorem TkS.same (h:TkS w0 G0 c t w G K vw ws vo rs) (g:w.grownBy w' none):TkS w0 G0 c t w' G K vw ws vo rs:=⟨h.clu.same g,h.cfg.same g,h.mov.trans (Mov.same g),h.fr.mov (Mov.same g),h.tl,h.g,h.bl,h.vs,h.gs⟩
theorem TkS.step (h:TkS w0 G0 c t w G K vw ws vo rs) (hc:RClu w' G' c t K') (m:Mov G.F G'.F w w') (hg:G'.g=G.g) (hb:G'.bl=G.bl) (hv:G'.vs=G.vs) (hs:G'.sh.map (·.g)=G.sh.map (·.g)):TkS w0 G0 c t w' G' K' vw ws vo rs:=
 ⟨hc,h.cfg.mov m,h.mov.trans m,h.fr.mov m,h.tl,hg.trans h.g,hb.trans h.bl,hv.trans h.vs,hs.trans h.gs⟩
theorem TkS.wins {v0:Value} {ws0:List Int} (h:TkS w0 G0 c t w G K v0 ws0 vo rs) (g:w.grownBy w' none) (o:Own intF 1 3 w.heap.size w' vw ws):TkS w0 G0 c t w' G K vw ws vo rs:=by
 have h2:=h.same g
 have hlo:=fun i hi=>(o.lt i hi).1
 exact⟨h2.clu,h2.cfg,h2.mov,⟨o.base fun k hk=>lt_ h.mov.size (hlo k hk),fun i hi hf=>by have:=hlo i hi;have:=h.clu.low i hf;omega,h2.fr.out,h2.fr.o2,fun i hi hf=>by have:=hlo i hi;have:=h.fr.out.low i hf;omega⟩,h2.tl,h2.g,h2.bl,h2.vs,h2.gs⟩
theorem TkS.app {wd:World} (hd:TkS w0 G0 c t wd G K vw ws vo rs) (gz:wd.grownBy w none) {r:Rep} (hr:RepRd w r) (hb:∀i,repBl r i→wd.heap.size≤i)
  (ho:Own repF 7 26 w0.heap.size w' vo' (rs++[r])) (hg:w.grownBy w' vo.ownBlock) (hL:Lies vo vo' w.heap.size):TkS w0 G0 c t w' G K vw ws vo' (rs++[r]):=by
 have h:=hd.same gz
 have gS:GrownS (ownF vo) w w':=GrownS.of hg fun k hk=>hk
 have hnew:∀i,ownF vo' i→ownF vo i∨w.heap.size≤i:=fun i hi=>by
  rcases hL with e |⟨m,e1,e2⟩
  ·left;unfold ownF at hi ⊢;rw[←e];exact hi
  ·right;unfold ownF at hi;rw[e1] at hi;cases hi;exact e2
 have hlo:∀i,ownF vo i→w0.heap.size≤i:=fun i hi=>(h.fr.out.own.lt i hi).1
 have hcl:=hd.clu.low;have hcl2:=h.clu.low
 have hT:Off (ownF c.Table) (ownF vo):=fun i hi hf=>by have:=h.tl i hi;have:=hlo i hf;omega
 have hof:Off G.F (ownF vo):=h.fr.o2.symm.right fun i hi=>.inl hi
 have hwl:=hd.fr.win.low;have hwl2:=h.fr.win.low;have hz:w0.heap.size≤wd.heap.size:=hd.mov.size;have hz2:=gz.size;refine⟨h.clu.keptS gS hof,⟨h.cfg.nums,Bk_ h.cfg.table gS hT,h.cfg.tlen,h.cfg.low.up gS.size,h.cfg.off⟩,⟨h.mov.grown.trans gS fun i hi hlt=>by have:=hlo i hi;omega,h.mov.new⟩,⟨h.fr.win.offS gS (h.fr.o3.right fun i hi=>.inl hi),h.fr.o1,h.fr.out.snocN repK (N:=wd.heap.size) hr hz hb (fun k hk=>hd.fr.out.own.low k hk) ho hg hL,?_,?_⟩,h.tl,h.g,h.bl,h.vs,h.gs⟩
 ·intro i hi hf
  rcases hi with hi |⟨x,hx,hi⟩
  ·rcases hnew i hi with e|e
   ·exact h.fr.o2 i (.inl e) hf
   ·have:=hcl2 i hf;omega
  ·rcases ma_ hx with hx|hx
   ·exact h.fr.o2 i (.inr ⟨x,hx,hi⟩) hf
   ·rw[ms_ hx] at hi
    have:=hb i hi;have:=hcl i hf;omega
 ·intro i hf hi
  rcases hi with hi |⟨x,hx,hi⟩
  ·rcases hnew i hi with e|e
   ·exact h.fr.o3 i hf (.inl e)
   ·have:=hwl2 i hf;omega
  ·rcases ma_ hx with hx|hx
   ·exact h.fr.o3 i hf (.inr ⟨x,hx,hi⟩)
   ·rw[ms_ hx] at hi
    have:=hb i hi;have:=hwl i hf;omega
end
def repsK (c:Cfg) (t:List Int) (K:CluM) (ws:List Int) (rs:List Rep):Prop:=rs.length=ws.length∧∀(i:Nat) r win,rs[i]?=some r→ws[i]?=some win→RepOf c t ((ws.take i).foldl (closeK c t) K) win r
theorem Uk_ (c:Cfg) (t:List Int) (K:CluM):repsK c t K [] []:=⟨rfl,by simp⟩
theorem Qv_ {c:Cfg} {t:List Int} {K:CluM} {ws:List Int} {rs:List Rep} {win:Int} {r:Rep} (h:repsK c t K ws rs) (hr:RepOf c t (ws.foldl (closeK c t) K) win r):repsK c t K (ws++[win]) (rs++[r]):=by
 refine⟨by simp[h.1],fun i x y hx hy=>?_⟩
 by_cases hi:i<ws.length
 ·rw[List.getElem?_append_left (by rw[h.1];exact hi)] at hx
  rw[List.getElem?_append_left hi] at hy;rw[List.take_append_of_le_length (by omega)];exact h.2 i x y hx hy
 ·have h1:=(gs_ hx).1
  have h2:=h.1;simp only[la_,ls_] at h1
  have hi2:i=ws.length:=by omega
  subst hi2;rw[List.getElem?_append_right (by omega),h.1] at hx;rw[List.getElem?_append_right (by omega)] at hy;simp only[Nat.sub_self,List.getElem?_cons_zero,Option.some.injEq] at hx hy;subst hx hy;rw[List.take_left' rfl];exact hr
theorem U4_ {lo:Nat} {a:Option Addr} {n c:Nat} (h:From lo (.slice a n c)):∀i,ownF (.slice a n c) i→lo≤i:=by
 intro i hi
 cases a with
 | none=>cases hi
 | some ad=>cases hi;exact h _ _ _ rfl
theorem Wy_ {c:Cfg} {t:List Int} {lv:Value} {l:List Summ} {w:World} (hn:CfgNums c) (hr:RCfg w c t) (hs:Cn_ w lv l) (h:∀s∈l,SumN s) (hl:l.length≤8):FewB c t lv l w:=
 ⟨hr,hs,⟨fun s hs=>(h s hs).wf,fun s hs=>(h s hs).rows,fun s hs=>(h s hs).len⟩,fun s hs=>(h s hs).small,by have:=Kn_ h;omega,hn.top⟩
theorem fg_ (c:Cfg) (t:List Int) (K:CluM) (win:Int) {j:Nat} (hj:j<K.sh.length) :(clK c t K win 0).sh[j]?=some (drainS c t K.sh[j] win):=by
 unfold clK;dsimp only;rw[Fq_,List.getElem?_map,gq_ hj];rfl
theorem cs_ (c:Cfg) (t:List Int) (K:CluM) (win:Int) {j:Nat} (hj:j<K.sh.length) :(clK c t K win j).sh[j]?=some (drainS c t K.sh[j] win):=by
 have hj2:j<(K.sh.map fun S=>drainS c t S win).length:=by simpa using hj
 unfold clK;dsimp only;rw[L8_ hj2,List.getElem_map]
theorem Zb_ (c:Cfg) (t:List Int) (K:CluM) (win:Int) {j:Nat} (hj:j<K.sh.length) :({ clK c t K win j with sh:=(clK c t K win j).sh.set j (closeS (drainS c t K.sh[j] win) win) }:CluM)=clK c t K win (j+1):=by
 have hj2:j<(K.sh.map fun S=>drainS c t S win).length:=by simpa using hj
 have h:=Ky_ (f:=fun S=>closeS S win) hj2;rw[List.getElem_map] at h;unfold clK;dsimp only;rw[h]
theorem Rj_ (c:Cfg) (t:List Int) (K:CluM) (win:Int) {j:Nat} (hj:j<K.sh.length) :(sumsK c t K win).take (j+1) =(sumsK c t K win).take j++[sumOf (tierAt (drainS c t K.sh[j] win).ts win)]:=by
 have h :(sumsK c t K win)[j]?=some (sumOf (tierAt (drainS c t K.sh[j] win).ts win)):=by unfold sumsK;rw[List.getElem?_map,gq_ hj];rfl
 rw[List.take_add_one,h];rfl
theorem RClu.shAt {w:World} {G:RcG} {c:Cfg} {t:List Int} {K:CluM} (h:RClu w G c t K) {ga n ca:Nat} (hv:G.vs=.slice (some ⟨ga,0,none⟩) n ca) {j:Nat} {s:RshG} (hs:G.sh[j]?=some s):w.cell? ⟨ga,j,none⟩=some (.pointer (some ⟨s.g,0,none⟩)):=by
 have hj:=(gs_ hs).1;obtain⟨ga',ca',hva,_,hga,_,hca,_⟩:=h.core.sp.at_ Cb_ (i:=j) (by simpa using hj);have hc0:=hca 0 _ rfl;rw[Nat.mul_one,Nat.add_zero,List.getElem_map] at hc0;rw[hv] at hva;cases hva
 have:G.sh[j]=s:=(gs_ hs).2
 rw[this] at hc0;exact hc0
theorem RClu.vsAt {w:World} {G:RcG} {c:Cfg} {t:List Int} {K:CluM} (h:RClu w G c t K) (h0:0<G.sh.length):∃ga ca,G.vs=.slice (some ⟨ga,0,none⟩) G.sh.length ca∧ga<w.heap.size:=by
 obtain⟨ga',ca',hva,_,hga,_,hca,_⟩:=h.core.sp.at_ Cb_ (i:=0) (by simpa using h0);exact⟨ga',ca',by rw[hva];simp,hga⟩
theorem Hi_ (c:Cfg) (t:List Int):∀(ws:List Int) (K:CluM),(ws.foldl (closeK c t) K).mark=K.mark
 | [],K=>rfl
 | w::ws,K=>by rw[List.foldl_cons,Hi_ c t ws];rfl
theorem I9_ (c:Cfg) (t:List Int):∀(ws:List Int) (K:CluM),(ws.foldl (closeK c t) K).sh.length=K.sh.length
 | [],K=>rfl
 | w::ws,K=>by rw[List.foldl_cons,I9_ c t ws];simp[closeK]
theorem Sp_ {c:Cfg} {m:Int} {ws:List Int} {k:Nat} (hk:k<ws.length) (h:∀i (hi:i<k),ws[i]<lowV c m) (he:¬ws[k]<lowV c m):low1 c m ws=ws.take k:=by
 have h1:∀(ws:List Int) (k:Nat) (hk:k<ws.length),(∀i (hi:i<k),ws[i]<lowV c m)→¬ws[k]<lowV c m→ws.takeWhile (fun w=>decide (w<lowV c m))=ws.take k:=by
  intro ws
  induction ws with
  | nil=>intro k hk;simp at hk
  | cons x ws ih=>
   intro k hk h he
   cases k with
   | zero=>simp only[List.getElem_cons_zero] at he;simp[he]
   | succ k=>
    have hx:=h 0 (by omega);simp only[List.getElem_cons_zero] at hx;simp only[List.take_succ_cons,List.takeWhile_cons,dt_ hx,if_true];rw[ih k (by simpa using hk) (fun i hi=>by have:=h (i+1) (by omega);simpa using this) (by simpa using he)]
 exact h1 ws k hk h he
theorem Yx_ {c:Cfg} {m:Int} {ws:List Int} (h:∀i (hi:i<ws.length),ws[i]<lowV c m):low1 c m ws=ws:=by
 have h1:∀ws:List Int,(∀x∈ws,x<lowV c m)→ws.takeWhile (fun w=>decide (w<lowV c m))=ws:=by
  intro ws
  induction ws with
  | nil=>intro _;rfl
  | cons x ws ih=>intro hx;rw[List.takeWhile_cons,dt_ (hx x (by simp)),if_pos rfl,ih fun y hy=>hx y (by simp[hy])]
 refine h1 ws fun x hx=>?_
 obtain⟨i,hi,rfl⟩:=List.getElem_of_mem hx;exact h i hi
end
section
open Go.RowKit Go.Sort
def TickP (G:RcG) (c:Cfg) (t:List Int) (K:CluM) (time:Int) (w:World) (e:Ending) (w':World):Prop:=
 ∃G' vw ws vo rs,e=.returned (.tuple #[vo,.int .i64 0])∧TkS w G c t w' G' (tickK c t K time) vw ws vo rs∧repsK c t { K with mark:=max K.mark time } (low1 c (max K.mark time) (K.led.map (·.1))) rs
def badT (n:Int):Prop:=n<0∨1099511627776<n
theorem Ot_ (G:RcG) (c:Cfg) (t:List Int) (K:CluM) (N:Nat) (time:Int) (w:World) (h:RClu w G c t K) (hC:CfgW w c t G.F) (hOk:CluOk c K N) (hN:N<1000000000) (hT:¬badT time) :
  Calls Tryz.prog 22 #[.pointer (some ⟨G.g,0,none⟩),.int .i64 time] w (TickP G c t K time w):=by
 have d1:decide (time<0)=false:=df_ fun h=>hT (.inl h)
 have d2:decide (1099511627776<time)=false:=df_ fun h=>hT (.inr h)
 have b0:=h.blk.cell;have f0:=h.blk.free;obtain⟨RM,MM⟩:=h.setM (Ab_ w none) (max K.mark time);have HRM:=hh_ RM;have HMM:=hh_ MM;have HC:=hh_ hC;have HOk:=hh_ (show CluOk c { K with mark:=max K.mark time } N from⟨hOk.str,hOk.acc,hOk.led,hOk.items,hOk.len,hOk.sh,hOk.its⟩);have hsl:G.sh.length=K.sh.length:=h.core.len;have hkl:=hOk.len;have HTk:=hh_ (show tickK c t K time =(low1 c (max K.mark time) (K.led.map (·.1))).foldl (closeK c t) { K with mark:=max K.mark time } from rfl);clear RM MM h hC hOk hT
 go_enter func22,ntmps22
 go_upto_region 4 with fail
 generalize w.setCell ⟨G.g,17,none⟩ (.int .i64 (max K.mark time))=w1 at *;obtain⟨m,hm⟩:∃m,max K.mark time=m:=⟨_,rfl⟩;rw[hm] at HRM HOk HTk;have hmm:=hh_ hm;obtain⟨K1,hK1⟩:∃K1:CluM,{ K with mark:=m }=K1:=⟨_,rfl⟩
 have hm1:K1.mark=m:=by rw[←hK1]
 have hl1:K1.led=K.led:=by rw[←hK1]
 have hs1:K1.sh.length=K.sh.length:=by rw[←hK1]
 rw[hK1] at HRM HOk HTk;have HP:=hh_ (show ∀G' vw ws vo rs z,TkS w G c t z G' ((low1 c m (K1.led.map (·.1))).foldl (closeK c t) K1) vw ws vo rs→repsK c t K1 (low1 c m (K1.led.map (·.1))) rs→TickP G c t K time w (.returned (.tuple #[vo,.int .i64 0])) z from fun G' vw ws vo rs z h1 h2=>⟨G',vw,ws,vo,rs,rfl,by rw[HTk.out,←hl1];exact h1,by rw[hmm.out,hK1,←hl1];exact h2⟩);have D1:TkS w G c t w1 G K1 (.slice none 0 0) [] (.slice none 0 0) []:=⟨HRM.out,HC.out.mov HMM.out,HMM.out,⟨Own.nil _ _ _ _ _,fun i hi=>absurd hi (Ay_ i),Bo_.nil _ _,fun i hi=>by rcases hi with hi |⟨_,hx,_⟩;exact absurd hi (Ay_ i);simp at hx,fun i hi=>absurd hi (Ay_ i)⟩,HC.out.low,rfl,rfl,rfl,rfl⟩;have HKy:=hh_ HRM.out.core.led.keys;have HRj:=hh_ (And.intro HRM.out.core.led.len HRM.out.core.led.rw);have CW:=hh_ (db_ HRM.out HOk.out (by omega))
 have hwl :(K1.led.map (·.1)).length≤N:=by have:=HOk.out.led;simpa using this
 obtain⟨ws,hws⟩:∃ws,K1.led.map (·.1)=ws:=⟨_,rfl⟩;rw[hws] at CW HP hwl;have HKy:=hh_ (show ∀x∈ws,I64 x from fun x hx=>by rw[←hws] at hx;obtain⟨p,hp,rfl⟩:=List.mem_map.1 hx;exact HKy.out p hp);have b1:=HRM.out.blk.cell
 have hgl:0<G.sh.length:=by have:=HC.out.nums.shards;omega
 have hs1g:G.sh.length=K1.sh.length:=by omega
 obtain⟨ga,ca,hvs,hga⟩:=HRM.out.vsAt hgl;have Hvs:=hh_ hvs;have HD1:=hh_ D1;obtain⟨n,hnG⟩:∃n,G.sh.length=n:=⟨_,rfl⟩;have HnG:=hh_ hnG;have Hn1:=hh_ (show n=K1.sh.length by omega)
 have hn8:n≤8:=by have:=HC.out.nums.shards;omega
 rw[hnG] at Hvs;clear hsl hkl hs1 hs1g hgl hnG;clear HRM HMM b0 f0 D1 hK1 HTk hm hvs d1 d2 hws hl1 hga
 go_upto_region 6 with(go_at_call 53;refine CW.out.mono ?_;rintro e w2 ⟨vw,rfl,oW,gW⟩;obtain⟨wa,wc,rfl⟩:=oW.shape)
 have HD2:=hh_ (HD1.out.wins gW oW);have Hm1:=hh_ hm1;obtain⟨L,hL⟩:∃L,lowV c m=L:=⟨_,rfl⟩;have HLow:=hh_ (show ∀z mk,mk=m→Calls Tryz.prog 54 #[c.val,.int .i64 mk] z (fun e w'=>e=.returned (.int .i64 L)∧z.grownBy w' none) from fun z mk e=>by rw[e,←hL];exact Z1_ c m z);have hL0:=hh_ hL;clear HD1 oW gW CW b1 hm1;clear w1 hL
 go_loopw [6,37] (fun s6 s37 wk=>∃(k:Nat) (G':RcG) (K':CluM) (rs:List Rep),k≤ws.length∧s37=.int .i64 k∧TkS w G c t wk G' K' (.slice wa ws.length wc) ws s6 rs∧(ws.take k).foldl (closeK c t) K1=K'∧CluOk c K' N∧repsK c t K1 (ws.take k) rs∧∀i x,i<k→ws[i]?=some x→x<L) (fun _ s37 _=>ws.length-(RowKit.intOf s37).toNat)
 case atStart=>exact⟨0,G,K1,[],zl_ _,rfl,HD2.out,rfl,HOk.out,Uk_ c t K1,fun i x hi=>absurd hi (Nat.not_lt_zero i)⟩
 case round=>
  clear HD2 HOk;obtain⟨k,G',K',rs,hk,rfl,hD,hE,hO,hR,hlo⟩:=hrel
  by_cases hlt:k<ws.length
  ·obtain⟨gw,cw,hv,_,hgw,_,hcw,_⟩:=hD.fr.win.at_ A8_ hlt
   cases hv;have c0:=hcw 0 _ rfl;rw[Nat.mul_one,Nat.add_zero] at c0;have hwk:ws[k]?=some ws[k]:=gq_ hlt;have HT:=hh_ (show ws.take (k+1)=ws.take k++[ws[k]] from tg_ hlt);have hwi:=HKy.out ws[k] (mg_ hlt)
   have hklt :(k:Int)<(ws.length:Int):=by omega
   have HD:=hh_ hD;have HE:=hh_ hE;have HO:=hh_ hO;have HR:=hh_ hR;have HL0:=hh_ hlo;have Hwk:=hh_ hwk;have HBr:=hh_ (show ¬ws[k]<lowV c m→low1 c m ws=ws.take k from fun h=>Sp_ hlt (fun i hi=>by rw[hL0.out];exact hlo i _ hi (gq_ (by omega))) h);rw[hL0.out] at HBr;clear hcw hD hE hO hR hlo hwk;generalize ws[k]=win at *
   go_upto_region 8 with fail
   obtain⟨b,hb⟩:∃b,decide (L≤win)=b:=⟨_,rfl⟩;have KN:World.grownBy wr wr.drew none:=gw_;have HDz:=hh_ (HD.out.same KN);have HRr:=hh_ (HDz.out.clu);have hgg:=HDz.out.g;have hmk:=hh_ (show K'.mark=m by rw[←HE.out,Hi_];exact Hm1.out);clear KN HD c0
   (refine rn_ 11 (fun j _ w v w'=>match j with | 9=>v=.int .i64 L∧World.grownBy w w' none | _=>False) ?_;simp only[ts_])
   generalize wr.drew=w3 at *
   (refine tq_ 4 ?_;(repeat(go_big_quiet_step (fail)));refine wn_ ?_)
   (refine to_ ?_;intro x4 mx4 dx4)
   clear dx4;have BX:=(HRr.out.same mx4).cfgIn;rw[hgg] at BX
   go_wp2_with (refine Bn_ rfl _ rfl _ rfl c BX ?_)
   refine⟨Ab_ _ _,?_⟩;clear BX
   (refine tq_ 3 ?_;(repeat(go_big_quiet_step (fail)));refine wn_ ?_)
   (refine to_ ?_;intro x8 mx8 dx8)
   clear dx8;have bx:=(HRr.out.same mx8).blk.cell;rw[hgg] at bx
   go_wp2_with fail
   refine⟨Ab_ _ _,?_⟩;clear bx
   (refine tc_ ?_;intro x9 mx9 dx9;refine⟨?_,?_⟩;· (unfold Rg.callSpec;go_simp;(refine(HLow.out x9 _ hmk.out).mono ?_;rintro e w' ⟨rfl,g⟩;exact⟨_,rfl,rfl,g⟩)))
   clear dx9;rintro vx9 yx9 ⟨rfl,gx9⟩;refine⟨gx9,?_⟩;clear gx9;simp only[pt_]
   (refine tq_ 1 ?_;(repeat(go_big_quiet_step (fail)));refine wn_ ?_)
   (refine Rg.tree_nil ?_;intro z1 mz1 dz1 cz1)
   have HD3:=hh_ (HDz.out.same mz1);clear mx4 mx8 mx9 mz1 dz1 cz1 HRr HDz;have hbb:=hh_ hb;clear hb;cases b
   case true=>
    have hge:L≤win:=of_decide_eq_true hbb.out;have eW:=hh_ (HBr.out (by omega));clear hge hbb
    go_wp2_with fail
    go_ret2
    exact HP.out G' _ _ _ _ _ (by rw[eW.out,HE.out];exact HD3.out) (by rw[eW.out];exact HR.out)
   case false=>
    have hge:¬L≤win:=of_decide_eq_false hbb.out;clear hbb;have hwL:=hh_ (show win<L by omega);have hn:=I9_ c t (ws.take k) K1;rw[HE.out] at hn;have hn:=hh_ hn;have bx:=HD3.out.clu.blk.cell;rw[hgg,HD3.out.vs,Hvs.out] at bx;have D4:=HD3.out;rw[←Zs_ c t K' win] at D4;have HD4:=hh_ D4;have HnK:=hh_ (show n=K'.sh.length by have:=Hn1.out;have:=hn.out;omega);have HTC:=hh_ HC.out.nums.tier.cfg;have HTC':=hh_ HC.out.nums.tier;clear hge D4 hn
    go_upto_region 11 with fail
    go_loopw [57] (fun s57 wk=>∃(j:Nat) (G2:RcG),j≤n∧s57=.int .i64 j∧TkS w G c t wk G2 (drK c t K' win j) (.slice (some ⟨gw,0,none⟩) ws.length wc) ws u6 rs) (fun s57 _=>n-(RowKit.intOf s57).toNat)
    case atStart=>exact⟨0,G',zl_ _,rfl,HD4.out⟩
    case round=>
     clear HD4 bx HD3;obtain⟨j,G2,hj,rfl,hD⟩:=hrel
     by_cases hjl:j<n
     ·have hjk:j<K'.sh.length:=by have:=HnK.out;omega
      have hg2:G2.sh.length=n:=by have:=congrArg List.length hD.gs;have h2:=HnG.out;simp at this;omega
      have hs:G2.sh[j]?=some G2.sh[j]:=gq_ (by omega);have hS :(drK c t K' win j).sh[j]?=some K'.sh[j]:=L8_ hjk;have cc:=hD.clu.shAt (hD.vs.trans Hvs.out) hs;have CDr:=hh_ (W8_ hD.clu hD.cfg (e2_ HTC.out HO.out win j) (by omega) hs hS win)
      have hjlt :(j:Int)<(n:Int):=by omega
      have HDj:=hh_ hD;have Hs:=hh_ hs;have eK:=hh_ (show({ drK c t K' win j with sh:=(drK c t K' win j).sh.set j (drainS c t K'.sh[j] win) }:CluM)=drK c t K' win (j+1) by unfold drK;dsimp only;rw[Ky_ (f:=fun S=>drainS c t S win) hjk]);clear hD hs hS;generalize G2.sh[j]=s2 at *
      go_wp2_with (go_at_call 55;refine CDr.out.mono ?_;rintro e w5 ⟨⟨x,y,rfl⟩,s4,RC,MC,hgs⟩)
      have DC:=HDj.out.step RC MC rfl rfl rfl (J1_ Hs.out hgs);rw[eK.out] at DC;exact⟨⟨j+1,_,by omega,by go_num,DC⟩,by simp[RowKit.intOf];omega⟩
     ·have hjn:j=K'.sh.length:=by have:=HnK.out;omega
      rw[hjn,Xi_] at hD;have hg2:=hD.g;have bx:=hD.clu.blk.cell;rw[hg2,hD.vs,Hvs.out] at bx;have HDB:=hh_ hD;clear hD hg2 hjn
      go_upto_region 16 with fail
      generalize wr=wB at *
      go_loopw [9,70] (fun s9 s70 wk=>∃(j:Nat) (l:List Summ),j≤n∧s70=.int .i64 j∧b1_ wB.heap.size wk s9 l∧l.map plainS =(sumsK c t K' win).take j∧wB.grownBy wk none) (fun _ s70 _=>n-(RowKit.intOf s70).toNat)
      case atStart=>exact⟨0,[],zl_ _,rfl,Bo_.nil _ _,rfl,Ab_ _ _⟩
      case round=>
       clear bx;obtain⟨j,l,hj,rfl,hL,hlp,hgB⟩:=hrel
       have hlj:l.length=min j K'.sh.length:=by have:=congrArg List.length hlp;simpa [sumsK] using this
       by_cases hjl:j<n
       ·have hjk:j<K'.sh.length:=by have:=HnK.out;omega
        have D5:=HDB.out.same hgB
        have hg2:G2.sh.length=n:=by have:=congrArg List.length D5.gs;have h2:=HnG.out;simp at this;omega
        have hs:G2.sh[j]?=some G2.sh[j]:=gq_ (by omega);have cc:=D5.clu.shAt (D5.vs.trans Hvs.out) hs;have CSm:=fh_ D5.clu HC.out.nums.tier (Uz_ HTC.out HO.out win 0) hs (fg_ c t K' win hjk) win;have HTj:=Rj_ c t K' win hjk;obtain⟨p,hp⟩:∃p,sumOf (tierAt (drainS c t K'.sh[j] win).ts win)=p:=⟨_,rfl⟩;obtain⟨tot,es,un,rows⟩:=p;unfold Vv_ at CSm;rw[hp] at CSm HTj;dsimp only at CSm;rw[←hlp] at HTj;have HTj:=hh_ HTj;have CSm:=hh_ CSm;have HL:=hh_ hL;have hgB':=hh_ hgB
        have hjlt :(j:Int)<(n:Int):=by omega
        have hlj2:l.length=j:=by omega
        have hcb1 :(l.length+1)*64≤140737488355328:=by omega
        have hcb2:l.length+1≤9223372036854775807:=by omega
        clear hs hp hL hlp hgB D5 hlj;generalize G2.sh[j]=s2 at *
        go_upto_region 18 with fail
        go_upto_region 19 with(first
         |(go_at_call 56;refine CSm.out.mono ?_;rintro e w5 ⟨ve,vr,vs',rfl,oS,g5⟩;obtain⟨ea,ec,rfl⟩:=oS.es.shape;obtain⟨ra,rc,rfl⟩:=oS.rows.own.shape;have HoS:=hh_ oS;have Hg5:=hh_ g5;have hz5:=g5.size;have HL5:=hh_ (HL.out.same sumK g5);have hzB:wB.heap.size≤w5.heap.size:=lt_ hgB'.out.size g5.size;have Hcs:=hh_ (show(#[Value.int .u64 tot,.slice ea es.length ec,.int .u64 un,.slice ra vs'.length rc]:Array Value).toList=sumF ⟨tot,.slice ea es.length ec,un,.slice ra vs'.length rc,es,vs'.map SlR.v,rows⟩ from rfl);clear oS g5)
         |(at_builtin;refine Bx_ Xz_ Pj_ HL5.out.own ⟨tot,.slice ea es.length ec,un,.slice ra vs'.length rc,es,vs'.map SlR.v,rows⟩ (by intro u hu;simp[sumF] at hu;rcases hu with rfl|rfl|rfl|rfl <;> rfl) hcb1 hcb2 hzB Hcs.out (by rfl) _ _ (by rfl) (by rfl) (by rfl) ?_;intro v7 w7 o7 g7 l7))
        have hNw:=fun k hk=>(HL.out.own.lt k hk).2
        have L7:=HL5.out.snocN sumK (N:=wr.heap.size) ⟨vs',rfl,HoS.out.base' (zl_ _)⟩ hgB'.out.size (fun i hi=>by
         rcases hi with hi|hi |⟨v,hv,hi⟩
         ·exact(HoS.out.es.lt i hi).1
         ·exact HoS.out.base i (.inl hi)
         ·obtain⟨u,hu,rfl⟩:=List.mem_map.1 hv
          exact HoS.out.base i (.inr ⟨u,hu,hi⟩)) hNw o7 g7 l7
        have G7:=Ao_ (Aa_ hgB'.out Hg5.out) HL5.out.own (le_ _) g7;obtain⟨la,lc,rfl⟩:=o7.shape;simp only[la_,ls_,hlj2] at L7;have HE7:=hh_ (And.intro L7 G7);clear L7 G7 o7 g7 l7 HL5 HoS CSm HL hNw cc Hcs;simp only[la_,ls_,hlj2];clear hlj2 hcb1 hcb2
        go_wp2_with fail
        exact⟨⟨j+1,_,by omega,by go_num,HE7.out.1,by rw[HTj.out];simp[plainS],HE7.out.2⟩,by simp[RowKit.intOf];omega⟩
       ·have hjn:j=K'.sh.length:=by have:=HnK.out;omega
        have hSN:∀s∈l,SumN s:=Zn_ HTC'.out HO.out (win:=win) (by rw[hlp,hjn];exact tk_ (by simp[sumsK]))
        have hlp2:l.map plainS=sumsK c t K' win:=by rw[hlp,hjn];exact tk_ (by simp[sumsK])
        have hl8:l.length≤8:=by omega
        have D5:=HDB.out.same hgB;have FB:=Wy_ HC.out.nums D5.cfg.rcfg (hL.rd hSN) hSN hl8;have hLow:Low wr (fun i=>G2.F i):=D5.clu.low;obtain⟨la,lc,rfl⟩:=hL.own.shape;have hgg:=D5.g;have hrl:=D5.clu.core.led.len;have hrw:∀x∈K'.rej,W64 x:=D5.clu.core.led.rw;have hrl:K'.rej.length=7:=hrl;have CRj:=hh_ (show ∀z,wr.grownBy z none→Calls Tryz.prog 58 #[.pointer (some ⟨G2.bl,0,none⟩)] z (RetOwn wordF 1 22 K'.rej z) from fun z q=>bt_ (K:=clK c t K' win 0) (D5.clu.same q))
        have CBd:=hh_ fun z (q:wr.grownBy z none) rv (hr:RdL wordF 1 z rv K'.rej)=>R7_ c t (.slice la l.length lc) l rv K'.rej win z (FB.same q) hr (by omega)
        unfold H7_ at CBd;obtain⟨tot,htot⟩:∃x,totalF l=x:=⟨_,rfl⟩;obtain⟨ov,hov⟩:∃x,bOver c t l=x:=⟨_,rfl⟩;obtain⟨tk,htk⟩:∃x,(keysF l).length=x:=⟨_,rfl⟩;obtain⟨rst,hrst⟩:∃x,bRest c t l=x:=⟨_,rfl⟩;obtain⟨Ls,hLs⟩:∃x,bLs c t l=x:=⟨_,rfl⟩;rw[htot,hov,htk,hrst,hLs] at CBd;have HRO:=hh_ (show ∀vl vr,RepOf c t K' win ⟨win,tot,vl,ov,tk,rst,vr,Ls,K'.rej⟩ from fun vl vr=>⟨l,hSN,hwi,hrw,hlp2,rfl,htot.symm,hLs.symm,hov.symm,by rw[htk],hrst.symm,rfl⟩);have HD5:=hh_ D5;have Hrl:=hh_ hrl
        have hrs:rs.length=k:=by have:=HR.out.1;rw[lk_] at this;omega
        have hrs1 :(rs.length+1)*88≤140737488355328:=by omega
        have hrs2:rs.length+1≤9223372036854775807:=by omega
        have hrs3:w.heap.size≤wr.heap.size:=D5.mov.size;clear htot hov htk hrst hLs hSN hlp2 hlp FB hLow hL hgB D5 hrl hrw hjn hlj;generalize l.length=ln at *;generalize K'.rej=RJ at *
        go_upto_region 20 with fail
        have KN:World.grownBy wr wr.drew none:=gw_;have HDz:=hh_ (HD5.out.same KN);have HRr:=hh_ HDz.out.clu;have GN:=hh_ KN;clear KN HD5
        (refine rn_ 14 (fun j _ w v w'=>match j with | 11=>RdL wordF 1 w' v RJ∧World.grownBy w w' none | 12=>(∃vl vr,v=repV win tot vl ov tk rst vr∧RdL lnF 3 w' vl Ls∧RdL wordF 1 w' vr RJ∧CapOk vl∧CapOk vr∧From w.heap.size vl∧From w.heap.size vr)∧World.grownBy w w' none | _=>False) ?_;simp only[ts_])
        generalize wr.drew=wd at *
        (refine tq_ 4 ?_;(repeat(go_big_quiet_step (fail)));refine wn_ ?_)
        (refine to_ ?_;intro x4 mx4 dx4)
        clear dx4;have BX:=(HRr.out.same mx4).cfgIn;rw[hgg] at BX
        go_wp2_with (refine Bn_ rfl _ rfl _ rfl c BX ?_)
        refine⟨Ab_ _ _,?_⟩;clear BX
        (refine tq_ 5 ?_;(repeat(go_big_quiet_step (fail)));refine wn_ ?_)
        (refine to_ ?_;intro x10 mx10 dx10)
        clear dx10;have bx:=(HRr.out.same mx10).blk.cell;rw[hgg] at bx
        go_wp2_with fail
        refine⟨Ab_ _ _,?_⟩;clear bx
        (refine tc_ ?_;intro x11 mx11 dx11;refine⟨?_,?_⟩;· (unfold Rg.callSpec;go_simp;(refine(CRj.out x11 (Aa_ GN.out mx11)).mono ?_;rintro e w' ⟨v,rfl,o,g⟩;exact⟨_,rfl,o.rd,g⟩)))
        clear dx11;rintro v11 y11 ⟨R11,g11⟩;refine⟨g11,?_⟩;obtain⟨ja,jc,rfl⟩:=R11.shape;simp only[pt_]
        (refine tc_ ?_;intro x12 mx12 dx12;refine⟨?_,?_⟩;· (unfold Rg.callSpec;go_simp;(refine(CBd.out x12 (Aa_ GN.out mx12) _ (RdL.same R11 (dx12.out 11 (by omega) (by kernel_rfl)))).mono ?_;rintro e w' ⟨vl,vr,rfl,h1,h2,h3,h4,h5,h6,g⟩;exact⟨_,rfl,⟨vl,vr,rfl,h1,h2,h3,h4,h5,h6⟩,g⟩)))
        clear dx12;rintro v12 y12 ⟨⟨vl,vr,rfl,hl1,hr1,hc1,hc2,hf1,hf2⟩,g12⟩;refine⟨g12,?_⟩;obtain⟨a1,k1,rfl⟩:=hl1.shape;obtain⟨a2,k2,rfl⟩:=hr1.shape;simp only[pt_]
        (refine to_ ?_;intro x13 mx13 dx13)
        clear dx13
        go_wp2_with fail
        refine⟨ga_ _ _ _,?_⟩;have N13:=Blk.new x13 #[.int .i64 win,.int .u64 tot,.slice a1 Ls.length k1,.int .u64 ov,.int .i64 tk,.int .u64 rst,.slice a2 RJ.length k2] 26;generalize x13.alloc _=e13 at *;generalize x13.heap.size=g13 at *
        (refine Rg.tree_nil ?_;intro z2 mz2 dz2 cz2)
        have HD6:=hh_ (HDz.out.same mz2);have R6:RepRd z2 ⟨win,tot,.slice a1 Ls.length k1,ov,tk,rst,.slice a2 RJ.length k2,Ls,RJ⟩:=⟨hl1.same (dz2.out 12 (by omega)),hr1.same (dz2.out 12 (by omega)),hc1,hc2⟩;have N14:=hh_ ((N13.same (dz2.out 13 (by omega))).one Hb_ ⟨win,tot,.slice a1 Ls.length k1,ov,tk,rst,.slice a2 RJ.length k2,Ls,RJ⟩ rfl);have hz12:=mx12.size;have hb6:=hh_ (show ∀i,repBl ⟨win,tot,.slice a1 Ls.length k1,ov,tk,rst,.slice a2 RJ.length k2,Ls,RJ⟩ i→wd.heap.size≤i from fun i hi=>hi.elim (fun h=>lt_ hz12 (U4_ hf1 i h.2)) fun h=>lt_ hz12 (U4_ hf2 i h.2));have HR6:=hh_ R6;have Hmz:=hh_ mz2;have HRO2:=hh_ (HRO.out (.slice a1 Ls.length k1) (.slice a2 RJ.length k2));have hrs4:w.heap.size≤z2.heap.size:=HD6.out.mov.size;clear mx4 mx10 mx11 mx12 mx13 g11 g12 R11 hl1 hr1 hc1 hc2 hf1 hf2 N13 mz2 dz2 cz2 HRr CRj CBd HRO R6 hz12 hrs3;generalize hrr :(⟨win,tot,.slice a1 Ls.length k1,ov,tk,rst,.slice a2 RJ.length k2,Ls,RJ⟩:Rep)=r at *;have Hone:=hh_ (show ∀u∈cellsOf repF [r],u.oneCell'=true by rw[←hrr];intro u hu;simp[cellsOf,repF] at hu;rcases hu with rfl|rfl|rfl|rfl|rfl|rfl|rfl <;> rfl);clear hrr
        go_upto_region 21 with(at_builtin;refine ew_ Oi_ Hone.out HD6.out.fr.out.own N14.out rfl hrs1 hrs2 hrs4 (by rfl) _ _ (by rfl) (by rfl) (by rfl) ?_;intro v7 w7 o7 g7 l7)
        have D7:=HDz.out.app Hmz.out HR6.out hb6.out o7 g7 l7;have hgD:=D7.g;have bx:=D7.clu.blk.cell;rw[hgD,D7.vs,Hvs.out] at bx;have HD7:=hh_ D7;have HR7:=hh_ (Qv_ HR.out (by rw[HE.out];exact HRO2.out));clear D7 hgD o7 g7 l7 Hone N14 hb6 HR6 Hmz HD6 HDz hrs1 hrs2 hrs4 hrs HRO2 HR Hrl hgg GN
        go_upto_region 22 with fail
        clear bx
        go_loopw [101] (fun s101 wk=>∃(j:Nat) (G3:RcG),j≤n∧s101=.int .i64 j∧TkS w G c t wk G3 (clK c t K' win j) (.slice (some ⟨gw,0,none⟩) ws.length wc) ws v7 (rs++[r])) (fun s101 _=>n-(RowKit.intOf s101).toNat)
        case atStart=>exact⟨0,G2,zl_ _,rfl,HD7.out⟩
        case round=>
         clear HD7 hj hjl;obtain⟨j,G3,hj,rfl,hD⟩:=hrel
         by_cases hjl:j<n
         ·have hjk:j<K'.sh.length:=by have:=HnK.out;omega
          have hg2:G3.sh.length=n:=by have:=congrArg List.length hD.gs;have h2:=HnG.out;simp at this;omega
          have hs:G3.sh[j]?=some G3.sh[j]:=gq_ (by omega);have cc:=hD.clu.shAt (hD.vs.trans Hvs.out) hs;have CCl:=hh_ (Qp_ hD.clu (Uz_ HTC.out HO.out win j) (by omega) hs (cs_ c t K' win hjk) win)
          have hjlt :(j:Int)<(n:Int):=by omega
          have HDj:=hh_ hD;have Hs:=hh_ hs;have eK:=hh_ (Zb_ c t K' win hjk);clear hD hs;generalize G3.sh[j]=s2 at *
          go_wp2_with (go_at_call 59;refine CCl.out.mono ?_;rintro e w8 ⟨⟨x,rfl⟩,s4,RC,MC,hgs⟩)
          have DC:=HDj.out.step RC MC rfl rfl rfl (J1_ Hs.out hgs);rw[eK.out] at DC;exact⟨⟨j+1,_,by omega,by go_num,DC⟩,by simp[RowKit.intOf];omega⟩
         ·have hjn:j=K'.sh.length:=by have:=HnK.out;omega
          rw[hjn] at hD;have hgD:=hD.g;have bx:=hD.clu.blk.cell;rw[hgD] at bx;have CLC:=hh_ (Xl_ hD.clu win (show K'.led.length<1000000000 by have:=HO.out.led;omega));have HDj:=hh_ hD;have hwi0:=hwi;clear hD hjn hgD
          go_wp2_with (go_at_call 60;refine CLC.out.mono ?_;rintro e w8 ⟨rfl,F',RC,MC⟩)
          have DC:=HDj.out.step RC MC rfl rfl rfl rfl;have eC :({ clK c t K' win K'.sh.length with led:=ldDel (clK c t K' win K'.sh.length).led win }:CluM)=closeK c t K' win:=P9_ c t K' win;rw[eC] at DC
          have hrs5 :(rs++[r]).length=rs.length+1:=by simp
          exact⟨⟨k+1,_,_,rs++[r],by omega,by go_num,DC,by rw[HT.out,List.foldl_append,HE.out];rfl,La_ HTC.out HO.out win,by rw[HT.out];exact HR7.out,fun i x hi hx=>by
           by_cases hik:i<k
           ·exact HL0.out i x hik hx
           ·have:i=k:=by omega
            subst this;rw[Hwk.out] at hx;cases hx
            exact hwL.out⟩,by simp[RowKit.intOf];omega⟩
  ·have hkn:k=ws.length:=by omega
   rw[hkn,tk_ (le_ _)] at hE hR;have eW:=Yx_ (c:=c) (m:=m) (ws:=ws) (fun i hi=>by rw[hL0.out];exact hlo i _ (by omega) (gq_ hi));have HD:=hh_ hD;have HE:=hh_ hE;have HR:=hh_ hR;have eW:=hh_ eW;clear hkn hE hR hD hlo hO
   go_wp2_with fail
   go_ret2
   exact HP.out G' _ _ _ _ _ (by rw[eW.out,HE.out];exact HD.out) (by rw[eW.out];exact HR.out)
end
section
open Go.RowKit Go.Sort
attribute [local go_sem ↓] Ag_
attribute [local go_sem] Ah_
theorem bl_:Elt 72 104 (.pointer none) 1 8:=⟨underlying72,by kernel_rfl,rfl,by decide⟩
def newK (n:Nat):CluM:=⟨0,⟨[],0,false⟩,[],0,[0,0,0,0,0,0,0],List.replicate n ⟨[],[]⟩,[]⟩
theorem V0_ (n:Nat):newK (n+1)={ newK n with sh:=(newK n).sh++[⟨[],[]⟩] }:=by unfold newK;rw[List.replicate_succ']
theorem RClu.new0 {w:World} {g b:Nat} {F:Fp} {c:Cfg} {t:List Int} (h:Blk w g (rcluA c 0 (.slice none 0 0) 0 false b (.slice none 0 0) (.slice none 0 0))) (hl:RLed F w b [] 0 [0,0,0,0,0,0,0]) (hF:Low w F) (hg:¬F g) :
  RClu w ⟨g,.slice none 0 0,b,F,.slice none 0 0,.slice none 0 0,[]⟩ c t (newK 0):=by
 have ne:∀P:Fp,Off (ownF (.slice none 0 0)) P:=fun P i hi=>absurd hi (Ay_ i)
 refine⟨h,⟨h.lt,Own.nil _ _ _ _ _,hl,hF,Own.nil _ _ _ _ _,Own.nil _ _ _ _ _,rfl,fun i s S h1=>by simp at h1,?_⟩⟩
 show List.Pairwise Off [oneF g,ownF (.slice none 0 0),F,ownF (.slice none 0 0),ownF (.slice none 0 0)]
 simp only[List.pairwise_cons,List.mem_cons,List.not_mem_nil,or_false];refine⟨?_,?_,?_,?_,?_,List.Pairwise.nil⟩
 ·rintro P (rfl|rfl|rfl|rfl)
  ·exact(ne _).symm
  ·intro i hi hf;rw[show i=g from hi] at hf;exact hg hf
  ·exact(ne _).symm
  ·exact(ne _).symm
 ·exact fun P _=>ne P
 ·rintro P (rfl|rfl) <;> exact(ne _).symm
 ·exact fun P _=>ne P
 ·simp
theorem RClu.addS {w w':World} {G:RcG} {c:Cfg} {t:List Int} {K:CluM} {wd:World} (h0:RClu wd G c t K) (gz:wd.grownBy w none) {s:RshG} {S:ShM} (hs:RSh w s c t S) (hn:∀i,s.F i→wd.heap.size≤i) {v':Value} (ho:Own ptrF 1 104 0 w' v' (G.sh.map (·.g)++[s.g])) (k:w.grownBy w' G.vs.ownBlock) (hL:Lies G.vs v' w.heap.size) :
  Blk w' G.g (rcluA c K.mark G.vb K.str.skip K.str.broken G.bl G.vs G.vi)∧RClu (w'.setCell ⟨G.g,22,none⟩ v') { G with vs:=v',sh:=G.sh++[s] } c t { K with sh:=K.sh++[S] }:=by
 have h:=h0.same gz;have hlow:=h.low;have hlow0:=h0.low;have hz:=gz.size
 have g:GrownS (ownF G.vs) w w':=GrownS.of k fun j hj=>hj
 have hb:=h.blk.keptS g (Cf_ h.core.ap (i:=0) (j:=3) rfl rfl (by omega) G.g rfl)
 have hg:GrownS (oneF G.g) w' (w'.setCell ⟨G.g,22,none⟩ v'):=GrownS.of (Ac_ (Ab_ w' (some G.g)) 22 _) fun k e=>by cases e;rfl
 have hnew:∀i,ownF v' i→ownF G.vs i∨w.heap.size≤i:=fun i hi=>by
  rcases hL with e |⟨m,e1,e2⟩
  ·left;unfold ownF at hi ⊢;rw[←e];exact hi
  ·right;unfold ownF at hi;rw[e1] at hi;cases hi;exact e2
 have hsl:=hs.low;have hvsl:∀i,ownF G.vs i→i<wd.heap.size:=h0.core.sp.low
 have hsvs:Off s.F (ownF G.vs):=fun i hi hf=>by have:=hn i hi;have:=hvsl i hf;omega
 have hsv':Off s.F (ownF v'):=fun i hi hf=>by
  rcases hnew i hf with e|e
  ·exact hsvs i hi e
  ·have:=hsl i hi;omega
 have C1:RcC w' { G with vs:=v',sh:=G.sh++[s] } c t { K with sh:=K.sh++[S] }:=by
  refine⟨ll_ h.core.gl k.size,h.core.buf.offS g (h.core.off (i:=1) (j:=3) rfl rfl (by omega)),h.core.led.keptS g (h.core.off (i:=2) (j:=3) rfl rfl (by omega)),h.core.lel.up g.size,?_,h.core.it.offS g (h.core.off (i:=4) (j:=3) rfl rfl (by omega)),by simp[h.core.len],?_,?_⟩
  ·show Own ptrF 1 _ 0 w' v' ((G.sh++[s]).map (·.g))
   rw[List.map_append];exact ho
  ·intro i x X e1 e2
   have e1' :(G.sh++[s])[i]?=some x:=e1;have e2' :(K.sh++[S])[i]?=some X:=e2;have hl:=h.core.len
   by_cases hi:i<G.sh.length
   ·rw[List.getElem?_append_left hi] at e1'
    rw[List.getElem?_append_left (by omega)] at e2';exact(h.core.shd i x X e1' e2').keptS g (h.core.off (i:=5+i) (j:=3) (RcG.part_sh e1') rfl (by omega))
   ·have h1:=(gs_ e1').1
    simp only[la_,ls_] at h1
    have hi2:i=G.sh.length:=by omega
    subst hi2;rw[List.getElem?_append_right (by omega),Nat.sub_self] at e1';rw[List.getElem?_append_right (by omega),←hl,Nat.sub_self] at e2';simp only[List.getElem?_cons_zero,Option.some.injEq] at e1' e2';subst e1' e2';exact hs.keptS g hsvs
  ·have hp:RcG.parts { G with vs:=v',sh:=G.sh++[s] } =(G.parts.set 3 (ownF v'))++[s.F]:=by unfold RcG.parts;simp
   rw[hp];refine List.pairwise_append.2 ⟨Dq_ h.core.ap h.core.lows (j:=3) rfl hnew,by simp,fun P hP Q hQ=>?_⟩;rw[ms_ hQ]
   rcases List.mem_or_eq_of_mem_set hP with hP|rfl
   ·intro i hi hf
    have:=hn i hf
    have:=h0.core.lows P hP i hi
    omega
   ·exact hsv'.symm
 exact⟨hb,⟨hb.set_ 22 _ rfl,C1.own hg⟩⟩
theorem It_ {a b c:World} {r:Option Nat} (h:a.grownBy b none) (k:b.grownBy c r) (hr:∀q,r=some q→a.heap.size≤q):a.grownBy c none:=by
 cases r with
 | none=>exact Aa_ h k
 | some q=>exact Af_ h k (hr q rfl)
theorem V2_ (G:RcG) (v':Value) (s:RshG):RcG.parts { G with vs:=v',sh:=G.sh++[s] } =(G.parts.set 3 (ownF v'))++[s.F]:=by unfold RcG.parts;simp
theorem di_ (c:Cfg) (l:List (Int×Int)) (t:List Int) (w:World) (hn:CfgNums c) (hm:CfgMem c l t w) (hc:ClsFit c l) :
  Calls Tryz.prog 19 #[c.val] w (fun e w'=>∃G,e=.returned (.tuple #[.pointer (some ⟨G.g,0,none⟩),.int .i64 0])∧RClu w' G c t (newK c.Shards.toNat)∧(∀i,G.F i→w.heap.size≤i)∧w.grownBy w' none):=by
 have HN:=hh_ hn
 have HV:=hh_ fun z (q:w.grownBy z none)=>Ni_ c l t z hn (hm.same q) hc
 have hsh:=hn.shards;clear hm hc hn
 go_enter func19,ntmps19
 go_upto_region 1 with(refine Au_ rfl _ rfl c rfl ?_;intro w1 B1 G1 z1)
 go_upto_region 4 with(first |(refine Al_ rfl _ rfl _ rfl c (by assumption) ?_) |(go_at_call 41;refine(HV.out _ G1).mono ?_;rintro e w2 ⟨rfl,g2⟩))
 have B2:=B1.same g2;have G2:=Aa_ G1 g2;have KN:World.grownBy w2 w2.drew none:=gw_;have B6:=B2.same KN;have K6:=Aa_ G2 KN;clear B1 G1 g2 B2 G2 KN HV
 (refine rn_ 5 (fun j _ w v w'=>match j with | 1=>(∃b,v=.pointer (some ⟨b,0,none⟩)∧RLed (fun i=>w.heap.size≤i) w' b [] 0 [0,0,0,0,0,0,0])∧World.grownBy w w' none | _=>False) ?_;simp only[ts_])
 generalize w2.drew=w3 at *
 ((refine to_ ?_;intro x0 mx0 dx0);clear dx0;have BX:=B6.same mx0;go_wp2_with (refine Al_ rfl _ rfl _ rfl c (by assumption) ?_);refine⟨Ab_ _ _,?_⟩;clear BX)
 (refine tc_ ?_;intro x1 mx1 dx1;refine⟨?_,?_⟩;· (unfold Rg.callSpec;go_simp;(refine(U3_ x1).mono ?_;rintro e w' ⟨b,rfl,o,g⟩;exact⟨_,rfl,⟨b,rfl,o⟩,g⟩)))
 have hz1:=mx1.size;clear dx1;rintro v1 y1 ⟨⟨b,rfl,R1⟩,g1⟩;refine⟨g1,?_⟩;simp only[pt_]
 (refine tq_ 1 ?_;(repeat(go_big_quiet_step (fail)));refine wn_ ?_)
 (refine to_ ?_;intro x3 mx3 dx3)
 go_wp2_with fail
 refine⟨ga_ _ _ _,?_⟩;have R1x:=R1.same (dx3.out 1 (by omega) (by kernel_rfl));obtain⟨F,RF,hFl,hFs⟩:=R1x.tight;have gA:=ga_ x3 (.cells (rcluA c 0 (.slice none 0 0) 0 false b (.slice none 0 0) (.slice none 0 0)) 74) none;have C3:RClu _ ⟨x3.heap.size,.slice none 0 0,b,F,.slice none 0 0,.slice none 0 0,[]⟩ c t (newK 0):=RClu.new0 (c:=c) (t:=t) (Blk.new x3 (rcluA c 0 (.slice none 0 0) 0 false b (.slice none 0 0) (.slice none 0 0)) 74) (RF.same gA) (hFl.up gA.size) (fun h=>Nat.lt_irrefl _ (hFl _ h));have hx3:=mx3.size;have hz3:=K6.size;have hb6:=B6.lt
 have hF3:∀i,RcG.F ⟨x3.heap.size,.slice none 0 0,b,F,.slice none 0 0,.slice none 0 0,[]⟩ i→w.heap.size<i:=fun i ⟨P,hP,hi⟩=>by
  simp only[RcG.parts,List.map_nil,List.append_nil,List.mem_cons,List.not_mem_nil,or_false] at hP
  rcases hP with rfl|rfl|rfl|rfl|rfl
  ·have:i=x3.heap.size:=hi;omega
  ·exact absurd hi (Ay_ i)
  ·have:=hFs i hi;omega
  ·exact absurd hi (Ay_ i)
  ·exact absurd hi (Ay_ i)
 clear dx3 R1 R1x RF hFl hFs gA;generalize x3.alloc _=e3 at *;obtain⟨G0,hG0⟩:∃G0:RcG,⟨x3.heap.size,.slice none 0 0,b,F,.slice none 0 0,.slice none 0 0,[]⟩=G0:=⟨_,rfl⟩
 have hgg:G0.g=x3.heap.size:=by rw[←hG0]
 rw[hG0] at C3 hF3;generalize x3.heap.size=g at *;clear hG0
 (refine tq_ 1 ?_;(repeat(go_big_quiet_step (fail)));refine wn_ ?_)
 (refine Rg.tree_nil ?_;intro z mz dz cz)
 have C4:=C3.same (dz.out 3 (by omega));have B4:=B6.same mz;have K4:=Aa_ K6 mz;obtain⟨n,hnS⟩:=Int.eq_ofNat_of_zero_le (show 0≤c.Shards by omega);have HnS:=hh_ hnS
 have hn8:n≤8:=by omega
 have hCE:=hh_ (show c.Shards.toNat=n by omega);clear mx0 mx1 mx3 g1 mz dz cz B6 K6 C3 hnS hsh x0 x1 y1 hz1 hx3;clear hz3 hb6;clear e3 x3;have HC4:=hh_ C4;have HB4:=hh_ B4;have HK4:=hh_ K4;clear C4 B4 K4
 go_upto_region 6 with fail
 go_loopw [6] (fun s6 wk=>∃(j:Nat) (G:RcG),j≤n∧s6=.int .i64 j∧RClu wk G c t (newK j)∧G.g=g∧(∀i,G.F i→w.heap.size<i)∧BoxAt wk w.heap.size c∧w.grownBy wk none) (fun s6 _=>n-(RowKit.intOf s6).toNat)
 case atStart=>exact⟨0,G0,zl_ _,rfl,HC4.out,hgg,hF3,HB4.out,HK4.out⟩
 case round=>
  clear HC4 HB4 HK4 hgg hF3 G0;obtain⟨j,G,hj,rfl,hC,hg,hF,hB,hK⟩:=hrel;have bc:=hB.cell;have hSn:=HnS.out
  by_cases hjl:j<n
  ·have hjlt :(j:Int)<(n:Int):=by omega
   have HC:=hh_ hC;have HB:=hh_ hB;have HK:=hh_ hK;have HF:=hh_ hF;clear hC hB hK hF
   go_upto_region 8 with fail
   clear bc;have KN:World.grownBy wr wr.drew none:=gw_;have HCz:=hh_ (HC.out.same KN);have B6:=HB.out.same KN;have HK6:=hh_ (Aa_ HK.out KN);obtain⟨va,vcp,hvs⟩:=HC.out.core.sp.shape;rw[List.length_map] at hvs;have Hvs:=hh_ hvs
   have hGl:G.sh.length=j:=by rw[HC.out.core.len];simp[newK]
   have HGl:=hh_ hGl;clear KN HC HB HK hvs hGl hSn
   (refine rz_ 8 #[true] (fun j _ w v w'=>match j with | 6=>(∃s:RshG,v=.pointer (some ⟨s.g,0,none⟩)∧RSh w' s c t ⟨[],[]⟩∧∀i,s.F i→w.heap.size≤i)∧World.grownBy w w' none | _=>False) ?_;simp only[ts_])
   generalize wr.drew=wd at *
   (refine tq_ 4 ?_;(repeat(go_big_quiet_step (fail)));refine wn_ ?_)
   (refine to_ ?_;intro x4 mx4 dx4)
   clear dx4;have bx:=(HCz.out.same mx4).blk.cell;rw[hg,Hvs.out] at bx
   go_wp2_with fail
   refine⟨Ab_ _ _,?_⟩;clear bx
   ((refine to_ ?_;intro x5 mx5 dx5);clear dx5;have BX:=B6.same mx5;go_wp2_with (refine Al_ rfl _ rfl _ rfl c (by assumption) ?_);refine⟨Ab_ _ _,?_⟩;clear BX)
   (refine tc_ ?_;intro x6 mx6 dx6;refine⟨?_,?_⟩;· (unfold Rg.callSpec;go_simp;(refine(Y8_ c t x6).mono ?_;rintro e w' ⟨s,rfl,h1,h2,g⟩;exact⟨_,rfl,⟨s,rfl,h1,h2⟩,g⟩)))
   clear dx6;have hz6:=mx6.size;rintro v6 y6 ⟨⟨s,rfl,R6,hs6⟩,g6⟩;refine⟨g6,?_⟩;simp only[pt_]
   (refine to_ ?_;intro x7 mx7 dx7)
   clear dx7
   go_wp2_with fail
   refine⟨ga_ _ _ _,?_⟩;have N7:=Blk.new x7 #[.pointer (some ⟨s.g,0,none⟩)] 104;generalize x7.alloc _=e7 at *;generalize x7.heap.size=g7 at *
   (refine Rg.tree_nil ?_;intro z2 mz2 dz2 cz2)
   have C2:=HCz.out.same mz2;have R2:=R6.same (dz2.out 6 (by omega));have HN7:=hh_ ((N7.same (dz2.out 7 (by omega))).one (f:=ptrF) (fun _=>rfl) s.g rfl);have HO2:=hh_ C2.core.sp;have hz6b:=hh_ (show ∀i,s.F i→wd.heap.size≤i from fun i hi=>lt_ hz6 (hs6 i hi));have HR2:=hh_ R2;have Hmz:=hh_ mz2;have HB2:=hh_ (B6.same mz2);have HK2:=hh_ (Aa_ HK6.out mz2);rw[Hvs.out] at HO2
   have hb1 :((G.sh.map (·.g)).length+[s.g].length)*8≤140737488355328:=by have:=HGl.out;simp;omega
   have hb2 :(G.sh.map (·.g)).length+[s.g].length≤9223372036854775807:=by have:=HGl.out;simp;omega
   have hlb:w.heap.size<wd.heap.size:=HB2.out.lt |> fun _=>by have:=B6.lt;omega
   clear mx4 mx5 mx6 mx7 mz2 dz2 cz2 g6 hs6 hz6 R6 N7 C2 R2 B6 HK6;clear x4 x5 x6 y6 x7 e7
   go_upto_region 7 with(at_builtin;refine app bl_ Fj_ HO2.out HN7.out rfl hb1 hb2 (zl_ _) (by rfl) _ _ (by rfl) (by rfl) (by rfl) ?_;intro v7 w7 o7 g7 l7;rw[←Hvs.out] at g7 l7;have hA:=hh_ (HCz.out.addS Hmz.out HR2.out hz6b.out o7 g7 l7);have bz:=hA.out.1.cell;have bf:=hA.out.1.free;rw[hg,Hvs.out] at bz;rw[hg] at bf;have Hg7:=hh_ g7;have Hl7:=hh_ l7;have Ho7:=hh_ (fun i hi=>(o7.lt i hi));(obtain⟨a7,c7,rfl⟩:=o7.shape);clear g7 l7 o7)
   have hF':∀i,RcG.F { G with vs:=.slice a7 (G.sh.map (·.g)++[s.g]).length c7,sh:=G.sh++[s] } i→w.heap.size<i:=fun i ⟨P,hP,hi⟩=>by
    rw[V2_] at hP;have hz2:=Hmz.out.size
    rcases ma_ hP with hP|hP
    ·rcases List.mem_or_eq_of_mem_set hP with hP|rfl
     ·exact HF.out i ⟨P,hP,hi⟩
     ·rcases Hl7.out with e |⟨m,e1,e2⟩
      ·exact HF.out i (RcG.F_part (j:=3) (P:=ownF G.vs) rfl i (by unfold ownF at hi ⊢;rw[←e];exact hi))
      ·unfold ownF at hi;rw[e1] at hi;cases hi;omega
    ·rw[ms_ hP] at hi
     have:=hz6b.out i hi;omega
   have hvn:∀q,G.vs.ownBlock=some q→w.heap.size<q:=fun q e=>HF.out q (RcG.F_part (j:=3) (P:=ownF G.vs) rfl q e)
   have hgn:w.heap.size<g:=by rw[←hg];exact HF.out G.g (RcG.F_part (j:=0) (P:=oneF G.g) rfl G.g rfl)
   have hS7:=Ac_ (Ab_ w7 (some g)) 22 (.slice a7 (G.sh.map (·.g)++[s.g]).length c7);have hB7:=(HB2.out.kept Hg7.out (fun e=>Nat.lt_irrefl _ (hvn _ e))).kept hS7 (fun e=>by cases e;omega);have hK7:=Af_ (It_ HK2.out Hg7.out (fun q e=>Nat.le_of_lt (hvn q e))) hS7 (Nat.le_of_lt hgn);have hC7:=hA.out.2;rw[hg] at hC7 hF';have hKn :({ newK j with sh:=(newK j).sh++[⟨[],[]⟩] }:CluM)=newK (j+1):=(V0_ j).symm;rw[hKn] at hC7;simp only[la_,List.length_map,ls_] at hC7 hF' hB7 hK7;have HE:=hh_ (And.intro hC7 (And.intro hF' (And.intro hB7 hK7)));clear hC7 hF' hB7 hK7 hS7 hA bz bf Hg7 Hl7 Ho7 hvn hgn HB2 HK2 hKn HCz HN7 HO2
   go_wp2_with fail
   exact⟨⟨j+1,_,by omega,by go_num,HE.out.1,rfl,HE.out.2.1,HE.out.2.2.1,HE.out.2.2.2⟩,by simp[RowKit.intOf];omega⟩
  ·have hjn:j=n:=by omega
   rw[hjn] at hC;have HC:=hh_ hC;have HF:=hh_ hF;have HK:=hh_ hK;have Hg:=hh_ hg;clear hC hF hK hjn hg
   go_wp2_with fail
   go_ret2
   exact⟨G,by rw[Hg.out];rfl,by rw[hCE.out];exact HC.out,fun i hi=>Nat.le_of_lt (HF.out i hi),HK.out⟩
end
section
open Go.RowKit
attribute [local go_sem ↓] Ag_
attribute [local go_sem] Ah_
end
section
open Go.RowKit Go.Sort
inductive ReachK (c:Cfg) (t:List Int):CluM→Prop
 | new:ReachK c t (newK c.Shards.toNat)
 | str {K:CluM} (s:StrM) (h:ReachK c t K):ReachK c t { K with str:=s }
 | mark {K:CluM} (time:Int) (ht:0≤time∧time≤1099511627776) (h:ReachK c t K):ReachK c t { K with mark:=max K.mark time }
 | inp {K:CluM} (x:InpR) (hx:InpOk c.Key x) (h:ReachK c t K):ReachK c t (inpK c t K x).1
 | close {K:CluM} (win:Int) (hw:win<lowV c K.mark) (h:ReachK c t K):ReachK c t (closeK c t K win)
 | step {K:CluM} (i:Nat) (h:ReachK c t K):ReachK c t { K with sh:=K.sh.modify i (stepS c t) }
section
variable {c:Cfg} {t:List Int} {K:CluM}
theorem ReachK.inps (h:ReachK c t K) (l:List InpR) (hl:∀x∈l,InpOk c.Key x):∀k,k≤l.length→ReachK c t (inpsK c t K (l.take k)).1:=by
 intro k
 induction k with
 | zero=>exact fun _=>by simpa [inpsK] using h
 | succ k ih=>
  intro hk;rw[tg_ (show k<l.length by omega),Fz_];exact(ih (by omega)).inp _ (hl _ (mg_ _))
theorem Io_ {l:List ChM} (h:∀x∈l,ChOk x) :(∀y∈l.flatMap (chInps c),InpOk c.Key y)∧(l.flatMap (chInps c)).length≤65*l.length:=by
 refine⟨fun y hy=>?_,?_⟩
 ·obtain⟨x,hx,hy⟩:=List.mem_flatMap.1 hy
  exact(G5_ (h x hx)).2 y hy
 ·induction l with
  | nil=>simp
  | cons x l ih=>
   have h1:=(G5_ (c:=c) (h x (by simp))).1
   have h2:=ih fun y hy=>h y (by simp[hy])
   simp only[List.flatMap_cons,la_,lc_]
   omega
theorem ReachK.feed (h:ReachK c t K) (hs:StrOk K.str) (p:List UInt8):ReachK c t (feedK c t K p).1:=by
 obtain⟨_,h2,_⟩:=Ka_ hs p p.length (le_ _);rw[List.take_length] at h2;have h3:=Io_ (c:=c) h2
 have:=(h.str (strF K.str p).1).inps _ h3.1 _ (le_ _)
 rw[List.take_length] at this;exact this
theorem Dw_:∀(ws:List Int) {K:CluM},ReachK c t K→(∀w∈ws,w<lowV c K.mark)→ReachK c t (ws.foldl (closeK c t) K)
 | [],_,h,_=>h
 | w::ws,_,h,hw=>by rw[List.foldl_cons];exact Dw_ ws (h.close w (hw w (by simp))) fun v hv=>hw v (by simp[hv])
theorem V1_ {c:Cfg} {m:Int} {l:List Int}:∀w∈low1 c m l,w<lowV c m:=fun w hw=>by
 have:∀l:List Int,w∈l.takeWhile (fun w=>decide (w<lowV c m))→w<lowV c m:=by
  intro l
  induction l with
  | nil=>simp
  | cons a l ih=>
   intro h;rw[List.takeWhile_cons] at h
   split at h
   ·rcases List.mem_cons.1 h with rfl|h
    ·exact of_decide_eq_true (by assumption)
    ·exact ih h
   ·simp at h
 exact this l hw
theorem ReachK.tick (h:ReachK c t K) {time:Int} (ht:0≤time∧time≤1099511627776):ReachK c t (tickK c t K time):=Dw_ _ (h.mark time ht) V1_
theorem Ig_:∀(ws:List Int) {K:CluM} {x:Int},Asc K.led→x∈K.led.map (·.1)→x∉ws→x∈(ws.foldl (closeK c t) K).led.map (·.1)
 | [],_,_,_,h,_=>h
 | w::ws,K,x,hA,h,hn=>by
  rw[List.foldl_cons]
  refine Ig_ ws (J6_ hA) ?_ fun e=>hn (by simp[e])
  rw[←Hu_] at h ⊢
  show ldHas (ldDel K.led w) x=true
  rw[L9_ hA,h]
  have:x≠w:=fun e=>hn (by simp[e])
  simp[this]
theorem ReachK.len (hs:1≤c.Shards) (h:ReachK c t K) :(K.sh.length:Int)=c.Shards:=by
 induction h with
 | new=>simp[newK];omega
 | str s _ ih=>exact ih
 | mark m _ _ ih=>exact ih
 | inp x hx _ ih=>
  unfold inpK
  split
  ·exact ih
  ·simpa using ih
 | close win _ _ ih=>simpa [closeK] using ih
 | step i _ ih=>simpa using ih
theorem ReachK.asc (h:ReachK c t K):Asc K.led:=by
 induction h with
 | new=>simp[newK,Asc]
 | str s _ ih=>exact ih
 | mark m _ _ ih=>exact ih
 | inp x hx _ ih=>
  unfold inpK
  split
  ·exact ih
  ·exact My_ ih
 | close win _ _ ih=>exact J6_ ih
 | step i _ ih=>exact ih
end
end
section
open Go.RowKit Go.Sort
section
variable {c:Cfg} {t:List Int} {K:CluM}
theorem Yl_ {N:Nat} (hn:CfgNums c) (h:CluOk c K N) (p:List UInt8):CluOk c (feedK c t K p).1 (N+65*p.length):=by
 obtain⟨h1,h2,h4⟩:=Ka_ h.str p p.length (le_ _);rw[List.take_length] at h1 h2 h4;have h3:=Io_ (c:=c) h2;have h5:CluOk c { K with str:=(strF K.str p).1 } N:=⟨h1,h.acc,h.led,h.items,h.len,h.sh,h.its⟩
 have:=(Wq_ (t:=t) hn h5 _ h3.1 _ (le_ _)).1
 rw[List.take_length] at this;exact this.up (by omega)
theorem Le_ {N:Nat} (hc:Bu_ c):∀(ws:List Int) {K:CluM},CluOk c K N→CluOk c (ws.foldl (closeK c t) K) N
 | [],_,h=>h
 | w::ws,_,h=>by rw[List.foldl_cons];exact Le_ hc ws (La_ hc h w)
theorem On_ {N:Nat} (hc:Bu_ c) (h:CluOk c K N) (time:Int):CluOk c (tickK c t K time) N:=
 Le_ hc _ ⟨h.str,h.acc,h.led,h.items,h.len,h.sh,h.its⟩
theorem dw_ (hn:CfgNums c):CluOk c (newK c.Shards.toNat) 0:=by
 have:=hn.shards
 refine⟨⟨by simp[newK],by simp[newK]⟩,⟨by simp[newK],by simp[newK]⟩,by simp[newK],by simp[newK],by simp[newK];omega,fun S hS=>?_,by simp[newK]⟩;have e:S =⟨[],[]⟩:=List.eq_of_mem_replicate hS;subst e;exact⟨⟨by have:=hn.queue;simp;omega,by simp,by simp⟩,by simp⟩
end
def F2_ (c:Cfg) (t:List Int) (rs:List Rep):Prop:=∀r∈rs,∃K win,ReachK c t K∧win<lowV c K.mark∧win∈K.led.map (·.1)∧RepOf c t K win r
theorem F2_.app {c:Cfg} {t:List Int} {rs rs':List Rep} (h:F2_ c t rs) (h':F2_ c t rs'):F2_ c t (rs++rs'):=fun r hr=>(ma_ hr).elim (h r) (h' r)
theorem Pi_ {c:Cfg} {t:List Int} {K:CluM} {rs:List Rep} (hK:ReachK c t K) (h:repsK c t K (low1 c K.mark (K.led.map (·.1))) rs):F2_ c t rs:=by
 intro r hr;obtain⟨i,hi,e⟩:=List.getElem_of_mem hr;have hA:=hK.asc;have hlt:=V1_ (c:=c) (m:=K.mark) (l:=K.led.map (·.1));have hsub :(low1 c K.mark (K.led.map (·.1))).Sublist (K.led.map (·.1)):=List.takeWhile_sublist _;have hnd :(low1 c K.mark (K.led.map (·.1))).Nodup:=List.Nodup.sublist hsub (Vi_ hA);obtain⟨h1,h2⟩:=h;generalize low1 c K.mark (K.led.map (·.1))=ws at *
 have hiw:i<ws.length:=by rw[←h1];exact hi
 have hm:∀(ws:List Int) (K:CluM),(ws.foldl (closeK c t) K).mark=K.mark:=by
  intro ws
  induction ws with
  | nil=>intro K;rfl
  | cons w ws ih=>intro K;rw[List.foldl_cons,ih];rfl
 refine⟨_,_,Dw_ (ws.take i) hK fun w hw=>hlt w (List.mem_of_mem_take hw),?_,?_,h2 i r ws[i] (by rw[gq_ hi,e]) (gq_ hiw)⟩
 ·rw[hm];exact hlt _ (mg_ hiw)
 ·refine Ig_ (ws.take i) hA (hsub.subset (mg_ hiw)) fun hx=>?_
  obtain⟨j,hj,e2⟩:=List.getElem_of_mem hx;rw[lk_] at hj;rw[List.getElem_take] at e2;exact List.pairwise_iff_getElem.1 hnd j i (by omega) hiw (by omega) e2
theorem gn_ {l:List Summ} (h:∀s∈l,SumN s) (i:Int):W64 (uAt l i):=by
 unfold uAt
 cases hl:l[i.toNat]? with
 | none=>exact Dr_
 | some s=>exact(h s (mo_ hl)).wf.untr
theorem uF_w {l:List Summ} (h:∀s∈l,SumN s) (is:List Int):W64 (uF l is):=by
 have:∀(is:List Int) (a:Int),W64 a→W64 (is.foldl (fun a i=>satA a (uAt l i)) a):=by
  intro is
  induction is with
  | nil=>exact fun a ha=>ha
  | cons i is ih=>exact fun a ha=>ih _ (B9_ ha (gn_ h i))
 exact this is 0 Dr_
theorem eb_ {a b:Int} (ha:W64 a) (hb:W64 b):W64 (max a b):=by unfold W64 at *;omega
theorem Th_ {l:List Summ} (h:∀s∈l,SumN s) (m:Int) (n:Nat):∀k,W64 (restI m n l k)
 | 0=>by simp[restI,F5_];exact Dr_
 | k+1=>by rw[I6_];exact eb_ (Th_ h m n k) (uF_w h _)
theorem b4_ {c:Cfg} {l:List Summ} (h:∀s∈l,SumN s):W64 (restF c l):=by
 unfold restF
 split
 ·exact Dr_
 ·exact Th_ h _ _ _
theorem br_ {l:List Ln} {n:Int} (hn:W64 n) (h:∀x∈l,W64 x.hi):W64 (hiMax l n):=by
 unfold hiMax
 have:∀(l:List Int) (a:Int),W64 a→(∀x∈l,W64 x)→W64 (l.foldl max a):=by
  intro l
  induction l with
  | nil=>exact fun a ha _=>ha
  | cons x l ih=>exact fun a ha hl=>ih _ (eb_ ha (hl x (by simp))) fun y hy=>hl y (by simp[hy])
 exact this _ n hn fun x hx=>by obtain⟨y,hy,rfl⟩:=List.mem_map.1 hx;exact h y hy
theorem de_ {c:Cfg} {t:List Int} {K:CluM} {win:Int} {r:Rep} (hn:CfgNums c) (h:RepOf c t K win r) (hK :(K.sh.length:Int)=c.Shards):RepW r∧r.lines.length≤64:=by
 obtain⟨l,hS,hw,hrj,hp,e1,e2,e3,e4,e5,e6,e7⟩:=h
 have hll:l.length=K.sh.length:=by have:=congrArg List.length hp;simpa [sumsK] using this
 have hsh:=hn.shards;have hok:F0_ l:=⟨fun s hs=>(hS s hs).wf,fun s hs=>(hS s hs).rows,fun s hs=>(hS s hs).len⟩
 have hsm:Dz_ l:=fun s hs=>(hS s hs).small
 have hal:=Pn_ (c:=c) (t:=t) hok hsm
 have hsw:∀x∈sortLn (allF c t l),LnW x:=fun x hx=>hal x (Jd_ hx)
 have hlw:∀x∈bLs c t l,LnW x:=fun x hx=>hsw x (List.mem_of_mem_take hx)
 have hom:∀x∈bOm c t l,LnW x:=fun x hx=>hsw x (List.mem_of_mem_drop hx)
 have hkf :(keysF l).length≤768:=by have h1:=Hv_ l;have h2:=Kn_ hS;omega
 have htop:=hn.top;refine⟨⟨by rw[e1];exact hw,by rw[e2];exact Fk_ hok,?_,by rw[e5];exact⟨by omega,by omega⟩,?_,by rw[e3];exact hlw,by rw[e7];exact hrj⟩,?_⟩
 ·rw[e4]
  have h1:=Fk_ hok;have h2:=Ja_ (loSum_pos fun x hx=>(hlw x hx).lo.1);unfold bOver subF;unfold W64 at *
  split <;> omega
 ·rw[e6]
  exact br_ (b4_ hS) fun x hx=>(hom x hx).hi
 ·rw[e3]
  unfold bLs selN;rw[lk_]
  omega
end
section
open Go.RowKit Go.Sort
theorem ea_:Elt 159 164 (.agg #[.slice none 0 0,.int .i64 0,.int .u64 0]) 3 40:=⟨underlying159,by kernel_rfl,rfl,by decide⟩
structure EvsG (lo:Nat) (w:World) (v:Value) (l:List EvR):Prop where
 own:Own evF 3 164 lo w v l
 all:∀x∈l,RdL tagF 2 w x.vt x.tags∧InB lo w.heap.size x.vt∧EvOk x∧∀k,v.ownBlock=some k→NotIn x.vt k
theorem EvsG.nil (lo:Nat) (w:World):EvsG lo w (.slice none 0 0) []:=⟨Own.nil _ _ _ _ _,by simp⟩
theorem EvsG.rd {lo:Nat} {w:World} {v:Value} {l:List EvR} (h:EvsG lo w v l):Qr_ w v l:=⟨h.own.rd,fun x hx=>(h.all x hx).1⟩
theorem EvsG.kept {lo:Nat} {w w':World} {v:Value} {l:List EvR} {r:Option Nat} (h:EvsG lo w v l) (hg:w.grownBy w' r) (hr:∀k,r=some k→k<lo):EvsG lo w' v l:=by
 refine⟨h.own.kept hg (fun k hk e=>by have:=(h.own.lt k hk).1;have:=hr k e;omega),fun x hx=>?_⟩;obtain⟨h1,h2,h3,h4⟩:=h.all x hx;exact⟨Rd.kept h1 hg fun k e=>h2.notIn (.inl (hr k e)),h2.wide (le_ _) hg.size,h3,h4⟩
theorem EvsG.snoc {lo:Nat} {w w':World} {v v':Value} {l:List EvR} {x:EvR} {n:Nat} (h:EvsG lo w v l) (h1:RdL tagF 2 w x.vt x.tags) (h2:InB n w.heap.size x.vt) (h3:EvOk x) (hn:lo≤n) (hv:∀k,v.ownBlock=some k→k<n)
  (ho:Own evF 3 164 lo w' v' (l++[x])) (hg:w.grownBy w' v.ownBlock) (hL:Lies v v' w.heap.size):EvsG lo w' v' (l++[x]):=by
 have hnew:∀y:EvR,InB lo w.heap.size y.vt→(∀k,v.ownBlock=some k→NotIn y.vt k)→∀k,v'.ownBlock=some k→NotIn y.vt k:=fun y hi hs k hk=>by
  rcases hL with e |⟨m,e1,e2⟩
  ·exact hs k (e▸hk)
  ·rw[e1] at hk;cases hk;exact hi.notIn (.inr e2)
 refine⟨ho,fun y hy=>?_⟩
 rcases ma_ hy with hy|hy
 ·obtain⟨a1,a2,a3,a4⟩:=h.all y hy
  exact⟨Rd.kept a1 hg fun k e=>a4 k e,a2.wide (le_ _) hg.size,a3,hnew y a2 a4⟩
 ·obtain rfl:=ms_ hy
  have a4:∀k,v.ownBlock=some k→NotIn y.vt k:=fun k hk=>h2.notIn (.inl (hv k hk))
  exact⟨Rd.kept h1 hg fun k e=>a4 k e,(h2.wide hn hg.size),h3,hnew y (h2.wide hn (le_ _)) a4⟩
theorem eu_ {a:Option Addr} {n c:Nat} {t wt:Int} {tg:List TagR}:∀u∈evF ⟨.slice a n c,t,wt,tg⟩,u.oneCell'=true:=by
 intro u hu;simp[evF] at hu;rcases hu with rfl|rfl|rfl <;> rfl
def EvsD (B b:Nat) (w:World) (e:Ending) (w':World):Prop:=∃v l,e=.returned v∧EvsG w.heap.size w' v l∧(1≤l.length∧l.length≤4)∧Deck B w' b∧w.grownBy w' (some b)
theorem Yf_ {B:Nat} (b:Nat) (t:Int) (w:World) (hd:Deck B w b) (hB:B≤w.heap.size) (ht:0≤t∧t≤549755813888):Calls Tryz.prog 80 #[.pointer (some ⟨b,0,none⟩),.int .i64 t,.int .i64 3] w (EvsD B b w):=by
 have hbB:=hd.below;have C1:=hh_ (A3_ b 4 w hd (by omega) (by omega))
 go_enter func80,ntmps80
 go_upto_region 3 with(go_at_call 37;refine C1.out.mono ?_;rintro e w1 ⟨k0,rfl,hk0,hk1,hd1,hg1⟩)
 have HD1:=hh_ hd1;have HG1:=hh_ hg1;clear C1 hd1 hg1 hd
 go_loopw [8,7] (fun s8 s7 wk=>∃(k:Int) (l:List EvR),s8=.int .i64 k∧(-1≤k∧k≤3)∧(l.length:Int)=k0-k∧k≤k0∧EvsG w.heap.size wk s7 l∧Deck B wk b∧w.grownBy wk (some b)) (fun s8 _ _=>(RowKit.intOf s8+1).toNat)
 case atStart=>exact⟨k0,[],rfl,by omega,by simp,by omega,EvsG.nil _ _,HD1.out,HG1.out⟩
 case round=>
  clear HD1 HG1;obtain⟨k,l,rfl,⟨hk2,hk3⟩,hl,hkk,hE,hD,hg⟩:=hrel;have HE:=hh_ hE;have HD:=hh_ hD;have HG:=hh_ hg;have Hl:=hh_ hl
  have hl4:l.length≤4:=by omega
  obtain⟨oa,oc,rfl⟩:=hE.own.shape;clear hE hD hl
  by_cases hge:0≤k
  ·have C2:=hh_ (A3_ b 60 wr HD.out (by omega) (by omega))
   go_upto_region 4 with(go_at_call 37;refine C2.out.mono ?_;rintro e w2 ⟨r,rfl,hr0,hr1,hd2,hg2⟩)
   have E2:=HE.out.kept hg2 (fun k e=>by cases e;omega);have hz2:=lt_ HG.out.size hg2.size;have HL:=hh_ (fun k hk=>(E2.own.lt k hk).2:∀k,(Value.slice oa l.length oc).ownBlock=some k→k<w2.heap.size);have HE2:=hh_ E2;have HG2:=hh_ (Aa_ HG.out hg2)
   have hb1 :(l.length+1)*40≤140737488355328:=by omega
   have hb2:l.length+1≤9223372036854775807:=by omega
   clear E2 HE HG HD hg2 C2;refine(c6_ b (max (t+r-20) 0) w2 hd2 (by omega) (by omega)).mono ?_;rintro e w3 ⟨x,rfl,hx,hR,hI,hd3,hg3⟩;obtain⟨xv,xt,xw,xg⟩:=x;obtain⟨xa,xc,e1⟩:=hR.shape;dsimp only at e1 hR hI;subst e1;have E3:=HE2.out.kept hg3 (fun k e=>by cases e;omega);have hz3:=lt_ hz2 hg3.size;have HE3:=hh_ E3;have HR:=hh_ hR;have HI:=hh_ hI;have Hx:=hh_ hx;have HG3:=hh_ (Aa_ HG2.out hg3);have HD3:=hh_ hd3;clear E3 hR hI hx hg3 hd3 HE2 HG2
   go_upto_region 4 with(at_builtin;refine Bx_ ea_ Uy_ HE3.out.own ⟨.slice xa xg.length xc,xt,xw,xg⟩ eu_ hb1 hb2 hz3 (by rfl) rfl _ _ (by rfl) (by rfl) (by rfl) ?_;intro v4 w4 o4 g4 l4)
   have E4:=HE3.out.snoc (x:=⟨.slice xa xg.length xc,xt,xw,xg⟩) (n:=w2.heap.size) HR.out HI.out Hx.out hz2 HL.out o4 g4 l4
   have hlo:∀k,(Value.slice oa l.length oc).ownBlock=some k→w.heap.size≤k:=fun k hk=>(HE3.out.own.lt k hk).1
   have D4:=HD3.out.kept g4 (fun k e=>by have:=hlo _ e;omega)
   have G4:w.grownBy w4 (some b):=by
    cases hv :(Value.slice oa l.length oc).ownBlock with
    | none=>rw[hv] at g4;exact Aa_ HG3.out (Ak_ g4 _)
    | some q=>rw[hv] at g4;exact Af_ HG3.out g4 (hlo q hv)
   have HF:=hh_ (And.intro E4 (And.intro D4 G4));clear E4 D4 G4 o4 g4 l4 HE3 HD3 HG3
   go_wp2_with fail
   exact⟨⟨k-1,_,rfl,by omega,by have:=Hl.out;simp;omega,by omega,HF.out.1,HF.out.2.1,HF.out.2.2⟩,by simp[RowKit.intOf];omega⟩
  ·obtain rfl:k=-1:=by omega
   go_wp2_with fail
   go_ret
   exact⟨_,l,rfl,HE.out,by have:=Hl.out;omega,HD.out,HG.out⟩
def cu_ (B b:Nat) (w:World) (e:Ending) (w':World):Prop:=∃v l,e=.returned v∧Own byF 1 5 w.heap.size w' v l∧l.length≤4096∧Deck B w' b∧w.grownBy w' (some b)
theorem Yw_ {B:Nat} (b:Nat) (t:Int) (w:World) (hd:Deck B w b) (hB:B≤w.heap.size) (ht:0≤t∧t≤549755813888):Calls Tryz.prog 45 #[.pointer (some ⟨b,0,none⟩),.int .i64 t] w (cu_ B b w):=by
 have hbB:=hd.below;have C1:=hh_ (A3_ b 2 w hd (by omega) (by omega))
 go_enter func45,ntmps45
 go_upto_region 3 with(go_at_call 37;refine C1.out.mono ?_;rintro e w1 ⟨k0,rfl,hk0,hk1,hd1,hg1⟩)
 have HD1:=hh_ hd1;have HG1:=hh_ hg1;clear C1 hd1 hg1 hd
 go_loopw [6,5] (fun s6 s5 wk=>∃(k:Int) (l:List UInt8),s6=.int .i64 k∧(-1≤k∧k≤1)∧(l.length:Int)≤1844*(1-k)∧Own byF 1 5 w.heap.size wk s5 l∧Deck B wk b∧w.grownBy wk (some b)) (fun s6 _ _=>(RowKit.intOf s6+1).toNat)
 case atStart=>exact⟨k0,[],rfl,by omega,by simp;omega,Own.nil _ _ _ _ _,HD1.out,HG1.out⟩
 case round=>
  clear HD1 HG1;obtain⟨k,l,rfl,⟨hk2,hk3⟩,hl,hO,hD,hg⟩:=hrel;have HO:=hh_ hO;have HD:=hh_ hD;have HG:=hh_ hg
  have hl4:l.length≤3688:=by omega
  obtain⟨oa,oc,rfl⟩:=hO.shape;have hzr:=hg.size;clear hO hD
  by_cases hge:0≤k
  ·have C2:=hh_ (Yf_ b t wr HD.out (by omega) ht)
   go_upto_region 6 with(first
    |(go_at_call 80;refine C2.out.mono ?_;rintro e w2 ⟨v2,ev,rfl,hev,hel,hd2,hg2⟩;obtain⟨ea,ec,rfl⟩:=hev.own.shape;have C3:=hh_ (Wl_ _ ev w2 hev.rd (fun x hx=>(hev.all x hx).2.2.1) (by omega) (by omega)))
    |(go_at_call 79;refine C3.out.mono ?_;rintro e w3 ⟨v3,rfl,o3,g3⟩;obtain⟨fa,fc,rfl⟩:=o3.shape))
   have hfl:=bn_ (fun x hx=>(hev.all x hx).2.2.1) hel.2;have HO3:=hh_ ((HO.out.kept hg2 (fun q hq e=>by cases e;have:=(HO.out.lt _ hq).1;omega)).same g3);have HR3:=hh_ o3.rd;have HD3:=hh_ (hd2.kept g3 (by simp));have HG3:=hh_ (Aa_ (Aa_ HG.out hg2) (Ak_ g3 _));have hz3:=HG3.out.size;generalize frB ev=F at *
   have hb1 :(l.length+F.length)*1≤140737488355328:=by omega
   have hb2:l.length+F.length≤9223372036854775807:=by omega
   clear C2 C3 hev hd2 hg2 o3 g3 HO HD HG hg
   go_upto_region 4 with(at_builtin;refine app Dj_ Dy_ HO3.out HR3.out rfl hb1 hb2 hz3 (by rfl) _ _ (by rfl) (by rfl) (by rfl) ?_;intro v4 w4 o4 g4 l4)
   have hlo:∀k,(Value.slice oa l.length oc).ownBlock=some k→w.heap.size≤k:=fun k hk=>(HO3.out.lt k hk).1
   have D4:=HD3.out.kept g4 (fun k e=>by have:=hlo _ e;omega)
   have G4:w.grownBy w4 (some b):=by
    cases hv :(Value.slice oa l.length oc).ownBlock with
    | none=>rw[hv] at g4;exact Aa_ HG3.out (Ak_ g4 _)
    | some q=>rw[hv] at g4;exact Af_ HG3.out g4 (hlo q hv)
   have HF:=hh_ (And.intro o4 (And.intro D4 G4));clear D4 G4 o4 g4 l4 HO3 HD3 HG3
   go_wp2_with fail
   exact⟨⟨k-1,_,rfl,by omega,by simp;omega,HF.out.1,HF.out.2.1,HF.out.2.2⟩,by simp[RowKit.intOf];omega⟩
  ·obtain rfl:k=-1:=by omega
   clear hg hge
   by_cases h0:l.length=0
   ·obtain rfl:l=[]:=List.eq_nil_of_length_eq_zero h0
    clear h0
    go_wp2_with fail
    go_ret
    exact⟨_,[],rfl,HO.out,by simp,HD.out,HG.out⟩
   ·have i0 :(0:Int)<(l.length:Int):=by omega
    have H0:=hh_ h0;clear h0;have C2:=hh_ (A3_ b 12 wr HD.out (by omega) (by omega))
    go_wp2_with fail
    refine C2.out.mono ?_;rintro e w2 ⟨q,rfl,hq0,hq1,hd2,hg2⟩;have HO2:=hh_ (HO.out.kept hg2 (fun k hk e=>by cases e;have:=(HO.out.lt _ hk).1;omega));have HG2:=hh_ (Aa_ HG.out hg2);have HD2:=hh_ hd2;clear HO HG HD hg2 hd2 C2
    by_cases hq:q=1
    ·subst hq
     have C3:=hh_ (A3_ b l.length w2 HD2.out i0 (by omega))
     go_wp2_with fail
     refine C3.out.mono ?_;rintro e w3 ⟨i,rfl,hi0,hi1,hd3,hg3⟩;obtain⟨i,rfl⟩:=Int.eq_ofNat_of_zero_le hi0;have HO3:=hh_ (HO2.out.kept hg3 (fun k hk e=>by cases e;have:=(HO2.out.lt _ hk).1;omega));have HG3:=hh_ (Aa_ HG2.out hg3);have C4:=hh_ (A3_ b 256 w3 hd3 (by omega) (by omega));clear HO2 HG2 HD2 hg3 hd3 C3
     go_wp2_with fail
     refine C4.out.mono ?_;rintro e w4 ⟨r,rfl,hr0,hr1,hd4,hg4⟩;obtain⟨r,rfl⟩:=Int.eq_ofNat_of_zero_le hr0;have HO4:=HO3.out.kept hg4 (fun k hk e=>by cases e;have:=(HO3.out.lt _ hk).1;omega);have HG4:=hh_ (Aa_ HG3.out hg4);have HD4:=hh_ hd4
     have hil:i<l.length:=by omega
     obtain⟨gv,cv,hv,hgb,hgv,-,hcx,hfz⟩:=HO4.at_ Bl_ hil
     obtain⟨rfl,-,rfl⟩:oa=some ⟨gv,0,none⟩∧l.length=l.length∧oc=cv:=by simpa only[Value.slice.injEq] using hv
     have c0:=hcx 0 _ rfl;rw[Nat.mul_one,Nat.add_zero] at c0;have hf:=hfz i
     have hwr:IntKind.u8.wrap (r:Int) =(r:Int):=by rw[Nb_];omega
     have hst:=HO4.stored Bl_ hil (j:=0) (by omega) (.int .u8 r) (UInt8.ofNat r) (by
      have :((UInt8.ofNat r).toNat:Int) =(r:Int):=by rw[UInt8.toNat_ofNat'];omega
      rw[show byF (UInt8.ofNat r)=[Value.int .u8 ((UInt8.ofNat r).toNat:Int)] from rfl,this];rfl)
     rw[Nat.mul_one,Nat.add_zero] at hst;have HST:=hh_ hst;have HGB:=hh_ hgb;clear hv hcx hfz hst hgb HO3 HO4 C4 hg4 hd4 HG3
     go_wp2_with fail
     go_ret
     refine⟨.slice (some ⟨gv,0,none⟩) l.length oc,l.set i (UInt8.ofNat r),rfl,HST.out.1,by rw[List.length_set];omega,HD4.out.kept HST.out.2 (fun k e=>by cases e;have:=HGB.out;omega),Af_ HG4.out HST.out.2 HGB.out⟩
    ·have f1 :((q:Int)==1)=false:=by simpa using hq
     clear hq
     go_wp2_with fail
     go_ret
     exact⟨_,l,rfl,HO2.out,by omega,HD2.out,HG2.out⟩
end
section
open Go.RowKit Go.Sort
variable {B g bx:Nat} {R:List Nat} {w0 w w':World} {x:OpR} {l l':List UInt8} {e e':Int}
theorem Hd_ (lo hi:Nat) (n c:Nat):InB lo hi (.slice none n c):=fun a n' c' e=>by cases e
end
section
open Go.RowKit Go.Sort
theorem Jg_:Elt 61 65 (.agg #[.int .i64 0,.slice none 0 0,.int .i64 0,.int .i64 0,.string ⟨#[]⟩,.slice none 0 0]) 6 88:=⟨underlying61,by kernel_rfl,rfl,by decide⟩
structure OpIn (lo hi:Nat) (o:OpR):Prop where
 vd:InB lo hi o.vd
 vp:InB lo hi o.vp
theorem OpIn.wide {lo hi lo' hi':Nat} {o:OpR} (h:OpIn lo hi o) (h1:lo'≤lo) (h2:hi≤hi'):OpIn lo' hi' o:=⟨h.vd.wide h1 h2,h.vp.wide h1 h2⟩
def OffO (k:Nat) (o:OpR):Prop:=NotIn o.vd k∧NotIn o.vp k
theorem OpIn.off {lo hi k:Nat} {o:OpR} (h:OpIn lo hi o) (hk:k<lo∨hi≤k):OffO k o:=⟨h.vd.notIn hk,h.vp.notIn hk⟩
theorem OpRd.off {w w':World} {o:OpR} {r:Option Nat} (h:OpRd w o) (hg:w.grownBy w' r) (hr:∀k,r=some k→OffO k o):OpRd w' o:=
 ⟨Rd.kept h.data hg fun k e=>(hr k e).1,Rd.kept h.picks hg fun k e=>(hr k e).2,h.dcap,h.pcap⟩
structure OpsG (lo:Nat) (w:World) (v:Value) (l:List OpR):Prop where
 own:Own opF 6 65 lo w v l
 all:∀o∈l,OpRd w o∧OpIn lo w.heap.size o∧∀k,v.ownBlock=some k→OffO k o
theorem OpsG.nil (lo:Nat) (w:World):OpsG lo w (.slice none 0 0) []:=⟨Own.nil _ _ _ _ _,by simp⟩
theorem OpsG.kept {lo:Nat} {w w':World} {v:Value} {l:List OpR} {r:Option Nat} (h:OpsG lo w v l) (hg:w.grownBy w' r) (hr:∀k,r=some k→k<lo):OpsG lo w' v l:=by
 refine⟨h.own.kept hg (fun k hk e=>by have:=(h.own.lt k hk).1;have:=hr k e;omega),fun o ho=>?_⟩;obtain⟨h1,h2,h3⟩:=h.all o ho;exact⟨h1.off hg fun k e=>h2.off (.inl (hr k e)),h2.wide (le_ _) hg.size,h3⟩
theorem OpsG.same {lo:Nat} {w w':World} {v:Value} {l:List OpR} (h:OpsG lo w v l) (hg:w.grownBy w' none):OpsG lo w' v l:=h.kept hg (by simp)
theorem OpsG.base {lo lo':Nat} {w:World} {v:Value} {l:List OpR} (h:OpsG lo w v l) (hl:lo'≤lo):OpsG lo' w v l:=
 ⟨h.own.base fun k hk=>lt_ hl (h.own.lt k hk).1,fun o ho=>⟨(h.all o ho).1,(h.all o ho).2.1.wide hl (le_ _),(h.all o ho).2.2⟩⟩
theorem OpsG.snoc {lo:Nat} {w w':World} {v v':Value} {l:List OpR} {o:OpR} {n:Nat} (h:OpsG lo w v l) (h1:OpRd w o) (h2:OpIn n w.heap.size o) (hn:lo≤n) (hv:∀k,v.ownBlock=some k→k<n)
  (ho:Own opF 6 65 lo w' v' (l++[o])) (hg:w.grownBy w' v.ownBlock) (hL:Lies v v' w.heap.size):OpsG lo w' v' (l++[o]):=by
 have hnew:∀o,OpIn lo w.heap.size o→(∀k,v.ownBlock=some k→OffO k o)→∀k,v'.ownBlock=some k→OffO k o:=fun o hi hs k hk=>by
  rcases hL with e |⟨m,e1,e2⟩
  ·exact hs k (e▸hk)
  ·rw[e1] at hk;cases hk;exact hi.off (.inr e2)
 refine⟨ho,fun x hx=>?_⟩
 rcases ma_ hx with hx|hx
 ·obtain⟨a1,a2,a4⟩:=h.all x hx
  exact⟨a1.off hg a4,a2.wide (le_ _) hg.size,hnew x a2 a4⟩
 ·obtain rfl:=ms_ hx
  have a4:∀k,v.ownBlock=some k→OffO k x:=fun k hk=>h2.off (.inl (hv k hk))
  exact⟨h1.off hg a4,(h2.wide hn hg.size),hnew x (h2.wide hn (le_ _)) a4⟩
theorem Iu_ {k t s:Int} {y:ByteArray} {da pa:Option Addr} {dn dc pn pc:Nat} {d:List UInt8} {q:List Int}:∀u∈opF ⟨k,.slice da dn dc,t,s,y,.slice pa pn pc,d,q⟩,u.oneCell'=true:=by
 intro u hu;simp[opF] at hu;rcases hu with rfl|rfl|rfl|rfl|rfl|rfl <;> rfl
end
section
open Go.RowKit Go.Sort
attribute [local go_sem ↓] Ag_
attribute [local go_sem] Ah_
section
variable {α:Type} {f:α→List Value} {st e:TypeId} {z:Value} {size bytes:Nat} {w:World} {B:Nat} {v:Value} {l:List α}
variable {o:Oper} {a:Act} {ops:Array Oper} {rest:List Oper} {Q:Exit→Act→World→Prop}
theorem L1_ (E:Elt st e z size bytes) (hf:∀x,(f x).length=size) (hown:Own f size e B w v l) (y:α) (h1:∀u∈f y,u.oneCell'=true) (hb :(l.length+1)*bytes≤140737488355328) (h63:l.length+1≤9223372036854775807) (hbase:B≤w.heap.size) {te:TypeId} {cs:Array Value} (hcs:cs.toList=f y) {g:Nat} (hg:w.heap.size=g)
  (hgd:o.guard=none) (s x:Operand) (ho:o.op=.call { callee:=.builtin .append,args:=#[s,x],argTypes:=#[st,st] }) (hs:a.eval s=v) (hx:a.eval x=.slice (some ⟨g,0,none⟩) 1 1)
  (h:∀v' w',Own f size e B w' v' (l++[y])→w.grownBy w' v.ownBlock→Lies v v' w.heap.size→wpList Tryz.prog ops Q rest (a.put o.dst v') w'):wpList Tryz.prog ops Q (o::rest) a (w.alloc (.cells cs te)):=by
 subst hg;exact Bx_ E hf hown y h1 hb h63 hbase hcs hgd s x ho hs hx h
end
theorem Z6_ {α:Type} {f:α→List Value} {size:Nat} {w:World} {g:Nat} {cs:Array Value} (h:Blk w g cs) (hf:∀x,(f x).length=size) (l:List α) (hcs:cs.toList=cellsOf f l) (hl:l.length≤9223372036854775807):RdL f size w (.slice (some ⟨g,0,none⟩) l.length l.length) l:=by
 refine⟨At_ f size hf l,hl,.inr ⟨g,0,l.length,rfl,h.lt,fun j u hu=>?_⟩⟩;rw[Nat.zero_add,h.cell j];rw[←hcs] at hu
 simpa using hu
structure OpsK (B b bc:Nat) (c:Cfg) (w0:World) (v:Value) (l:List OpR) (w:World):Prop where
 deck:Deck B w b
 box:BoxAt w bc c
 ops:OpsG (bc+1) w v l
 ok:∀o∈l,opE o=0
 G:w0.grownBy w (some b)
 lt:b<B∧B≤bc∧w0.heap.size=bc∧bc<w.heap.size
section
variable {B b bc:Nat} {c:Cfg} {w0 w w':World} {v v':Value} {l:List OpR} {o:OpR}
theorem OpsK.next (h:OpsK B b bc c w0 v l w) (hd:Deck B w' b) (hg:w.grownBy w' (some b)):OpsK B b bc c w0 v l w':=by
 obtain⟨h1,h2,h3,h4⟩:=h.lt;have h5:=hg.size;exact⟨hd,h.box.kept hg (by simp;omega),h.ops.kept hg (fun k e=>by cases e;omega),h.ok,Aa_ h.G hg,h1,h2,h3,by omega⟩
theorem OpsK.same (h:OpsK B b bc c w0 v l w) (hg:w.grownBy w' none):OpsK B b bc c w0 v l w':=by
 obtain⟨h1,h2,h3,h4⟩:=h.lt;have h5:=hg.size;exact⟨h.deck.kept hg (by simp),h.box.kept hg (by simp),h.ops.same hg,h.ok,Aa_ h.G (Ak_ hg _),h1,h2,h3,by omega⟩
theorem OpsK.snoc {n:Nat} (h:OpsK B b bc c w0 v l w) (h1:OpRd w o) (h2:OpIn n w.heap.size o) (hn:bc+1≤n) (hv:∀k,v.ownBlock=some k→k<n) (hE:opE o=0)
  (ho:Own opF 6 65 (bc+1) w' v' (l++[o])) (hg:w.grownBy w' v.ownBlock) (hL:Lies v v' w.heap.size):OpsK B b bc c w0 v' (l++[o]) w':=by
 obtain⟨k1,k2,k3,k4⟩:=h.lt;have h5:=hg.size
 have hlo:∀k,v.ownBlock=some k→bc+1≤k:=fun k hk=>(h.ops.own.lt k hk).1
 refine⟨h.deck.kept hg (fun k e=>by have:=hlo _ e;omega),h.box.kept hg (fun e=>by have:=hlo _ e;omega),h.ops.snoc h1 h2 hn hv ho hg hL,fun x hx=>?_,?_,k1,k2,k3,by omega⟩
 ·rcases ma_ hx with hx|hx
  ·exact h.ok x hx
  ·rw[ms_ hx];exact hE
 ·cases hq:v.ownBlock with
  | none=>rw[hq] at hg;exact Aa_ h.G (Ak_ hg _)
  | some q=>rw[hq] at hg;exact Af_ h.G hg (by have:=hlo q hq;omega)
end
theorem Ms_ (w:World):RdL byF 1 w (.slice none 0 0) []:=(Own.nil byF 1 5 0 w).rd
theorem Tt_ (w:World):RdL intF 1 w (.slice none 0 0) []:=(Own.nil intF 1 3 0 w).rd
theorem M5_ (w:World) (k t s:Int) (y:ByteArray):OpRd w ⟨k,.slice none 0 0,t,s,y,.slice none 0 0,[],[]⟩:=⟨Ms_ w,Tt_ w,fun a n c e=>by cases e;omega,fun a n c e=>by cases e;omega⟩
theorem M8_ (lo hi:Nat) (k t s:Int) (y:ByteArray):OpIn lo hi ⟨k,.slice none 0 0,t,s,y,.slice none 0 0,[],[]⟩:=⟨Hd_ _ _ _ _,Hd_ _ _ _ _⟩
theorem ge_:opE ⟨4,.slice none 0 0,0,0,⟨#[]⟩,.slice none 0 0,[],[]⟩=0:=by rfl
theorem go_ {s:Int} (h:0≤s∧s<5):opE ⟨3,.slice none 0 0,0,s,⟨#[]⟩,.slice none 0 0,[],[]⟩=0:=by
 rw[H6_];refine⟨by rfl,by rfl,?_⟩
 simp[rangeB,inR];omega
theorem gf_ {t:Int} {y:ByteArray} (h:0≤t∧t≤1099511627776) (hy:y.size≤255):opE ⟨5,.slice none 0 0,t,0,y,.slice none 0 0,[],[]⟩=0:=by
 rw[H6_];refine⟨by rfl,?_,?_⟩
 ·simp[longB];omega
 ·simp[rangeB,inR];omega
theorem gb_ {v:Value} {d:List UInt8} (h:d.length≤4096):opE ⟨1,v,0,0,⟨#[]⟩,.slice none 0 0,d,[]⟩=0:=by
 rw[H6_];refine⟨by rfl,?_,by rfl⟩
 simp[longB,ByteArray.size];omega
theorem ei_ {v:Value} {t q r:Int} (h:0≤t∧t≤1099511627776) (hq:0≤q∧q<9) (hr:0≤r∧r<9):opE ⟨2,.slice none 0 0,t,0,⟨#[]⟩,v,[],[q,r]⟩=0:=by
 rw[H6_];refine⟨by rfl,by rfl,?_⟩
 simp[rangeB,inR];omega
def OpsD (B b:Nat) (n:Int) (w:World) (e:Ending) (w':World):Prop:=∃v L,e=.returned v∧OpsG w.heap.size w' v L∧(∀o∈L,opE o=0)∧(1≤L.length∧(L.length:Int)≤n+1)∧Deck B w' b∧w.grownBy w' (some b)
theorem e5_ {B:Nat} (b:Nat) (c:Cfg) (n:Int) (w:World) (hd:Deck B w b) (hB:B≤w.heap.size) (hn:0≤n∧n≤20) (hL:1≤c.Length∧c.Length≤20):Calls Tryz.prog 20 #[.pointer (some ⟨b,0,none⟩),c.val,.int .i64 n] w (OpsD B b n w):=by
 have hbB:=hd.below
 go_enter func20,ntmps20
 go_upto_region 1 with(refine Au_ rfl _ rfl c rfl ?_;intro w1 B1 G1 z1)
 have hd1:=hd.kept G1 (by simp);have C1:=hh_ (A3_ b (n+1) w1 hd1 (by omega) (by omega));have HB1:=hh_ B1;have HG1:=hh_ G1;have hz1:=B1.lt;clear B1 G1 hd1 hd
 go_upto_region 4 with(go_at_call 37;refine C1.out.mono ?_;rintro e w2 ⟨k0,rfl,hk0,hk1,hd2,hg2⟩)
 obtain⟨bc,hbc⟩:∃bc,w.heap.size=bc:=⟨_,rfl⟩;have K0:=hh_ (show OpsK B b bc c w (.slice none 0 0) [] w2 from⟨hd2,by rw[←hbc];exact HB1.out.kept hg2 (by simp;omega),OpsG.nil _ _,by simp,Aa_ (Ak_ HG1.out _) hg2,hbB,by omega,hbc,by have:=hg2.size;omega⟩);rw[hbc];have HBC:=hh_ hbc;clear hbc C1 HB1 HG1 hd2 hg2 hz1
 go_loopw [9,7,8] (fun s9 s7 s8 wk=>∃(k:Int) (l:List OpR) (tm:Int),s9=.int .i64 k∧s8=.int .i64 tm∧(-1≤k∧k≤k0)∧(l.length:Int)=k0-k∧(0≤tm∧tm≤40*(k0-k))∧OpsK B b bc c w s7 l wk) (fun s9 _ _ _=>(RowKit.intOf s9+1).toNat)
 case atStart=>exact⟨k0,[],0,rfl,rfl,by omega,by simp,by omega,K0.out⟩
 case round=>
  clear K0;obtain⟨k,l,tm,rfl,rfl,⟨hk2,hk3⟩,hl,⟨ht0,ht1⟩,hK⟩:=hrel;have HK:=hh_ hK;have Hl:=hh_ hl
  have hl4:l.length≤21:=by omega
  obtain⟨oa,oc,rfl⟩:=hK.ops.own.shape;clear hK hl
  have hb1 :(l.length+1)*88≤140737488355328:=by omega
  have hb2:l.length+1≤9223372036854775807:=by omega
  by_cases hge:0≤k
  ·have C2:=hh_ (A3_ b 10 wr HK.out.deck (by omega) (by omega))
   go_wp2_with fail
   refine C2.out.mono ?_;rintro e w3 ⟨r,rfl,hr0,hr1,hd3,hg3⟩;have HK3:=hh_ (HK.out.next hd3 hg3);clear HK C2 hd3 hg3;have hz3:bc+1≤w3.heap.size:=HK3.out.lt.2.2.2
   by_cases h3:r=3
   ·subst h3
    go_upto_region 5 with(at_builtin;refine Bx_ Jg_ Ep_ (HK3).out.ops.own ⟨4,.slice none 0 0,0,0,⟨#[]⟩,.slice none 0 0,[],[]⟩ Iu_ hb1 hb2 hz3 (by rfl) rfl _ _ (by rfl) (by rfl) (by rfl) ?_;intro v4 w4 o4 g4 l4)
    have K5:=(HK3).out.snoc (o:=⟨4,.slice none 0 0,0,0,⟨#[]⟩,.slice none 0 0,[],[]⟩) (n:=w3.heap.size) (M5_ _ _ _ _ _) (M8_ _ _ _ _ _ _) hz3 (fun k hk=>(HK3.out.ops.own.lt k hk).2) ge_ o4 g4 l4;have HK5:=hh_ K5;clear K5 o4 g4 l4 HK3
    go_wp2_with fail
    exact⟨⟨k-1,_,tm,rfl,rfl,by omega,by have:=Hl.out;simp;omega,by omega,HK5.out⟩,by simp[RowKit.intOf];omega⟩
   have f3 :((r:Int)==3)=false:=by simpa using h3
   by_cases h2:r=2
   ·subst h2
    clear h3 f3;have C3:=hh_ (A3_ b 5 w3 HK3.out.deck (by omega) (by omega))
    go_wp2_with fail
    refine C3.out.mono ?_;rintro e w5 ⟨q,rfl,hq0,hq1,hd5,hg5⟩;have HK5':=hh_ (HK3.out.next hd5 hg5);have hz5:bc+1≤w5.heap.size:=HK5'.out.lt.2.2.2;clear HK3 C3 hd5 hg5
    go_upto_region 5 with(at_builtin;refine Bx_ Jg_ Ep_ (HK5').out.ops.own ⟨3,.slice none 0 0,0,q,⟨#[]⟩,.slice none 0 0,[],[]⟩ Iu_ hb1 hb2 hz5 (by rfl) rfl _ _ (by rfl) (by rfl) (by rfl) ?_;intro v4 w4 o4 g4 l4)
    have K5:=(HK5').out.snoc (o:=⟨3,.slice none 0 0,0,q,⟨#[]⟩,.slice none 0 0,[],[]⟩) (n:=w5.heap.size) (M5_ _ _ _ _ _) (M8_ _ _ _ _ _ _) hz5 (fun k hk=>(HK5'.out.ops.own.lt k hk).2) (go_ ⟨hq0,hq1⟩) o4 g4 l4;have HK5:=hh_ K5;clear K5 o4 g4 l4 HK5'
    go_wp2_with fail
    exact⟨⟨k-1,_,tm,rfl,rfl,by omega,by have:=Hl.out;simp;omega,by omega,HK5.out⟩,by simp[RowKit.intOf];omega⟩
   have f2 :((r:Int)==2)=false:=by simpa using h2
   by_cases h4:r=4
   ·subst h4
    clear h3 f3 h2 f2;have h34:=HK3.out.lt;have C3:=hh_ (e4_ b w3 HK3.out.deck (by omega))
    go_wp2_with fail
    refine C3.out.mono ?_;rintro e w5 ⟨L,rfl,-,hd5,hg5⟩;have HK5':=hh_ (HK3.out.next hd5 hg5);have C4:=hh_ (A3_ b 40 w5 hd5 (by omega) (by omega));have hy:=Jh_ L;clear HK3 C3 hd5 hg5 h34;generalize keyY L=y at *
    go_wp2_with fail
    refine C4.out.mono ?_;rintro e w6 ⟨q,rfl,hq0,hq1,hd6,hg6⟩;have HK6:=hh_ (HK5'.out.next hd6 hg6);have hz6:bc+1≤w6.heap.size:=HK6.out.lt.2.2.2;clear HK5' C4 hd6 hg6
    go_upto_region 5 with(at_builtin;refine Bx_ Jg_ Ep_ (HK6).out.ops.own ⟨5,.slice none 0 0,max (tm+q-10) 0,0,y,.slice none 0 0,[],[]⟩ Iu_ hb1 hb2 hz6 (by rfl) rfl _ _ (by rfl) (by rfl) (by rfl) ?_;intro v4 w4 o4 g4 l4)
    have K5:=(HK6).out.snoc (o:=⟨5,.slice none 0 0,max (tm+q-10) 0,0,y,.slice none 0 0,[],[]⟩) (n:=w6.heap.size) (M5_ _ _ _ _ _) (M8_ _ _ _ _ _ _) hz6 (fun k hk=>(HK6.out.ops.own.lt k hk).2) (gf_ (by omega) hy) o4 g4 l4;have HK5:=hh_ K5;clear K5 o4 g4 l4 HK6
    go_wp2_with fail
    exact⟨⟨k-1,_,tm,rfl,rfl,by omega,by have:=Hl.out;simp;omega,by omega,HK5.out⟩,by simp[RowKit.intOf];omega⟩
   have f4 :((r:Int)==4)=false:=by simpa using h4
   by_cases h01:r=0∨r=1
   ·clear h2 h3 h4 f2 f3 f4
    rcases h01 with rfl|rfl
    ·have bx:=HK3.out.box.cell
     have C3:=hh_ (A3_ b (2*c.Length) w3 HK3.out.deck (by omega) (by omega))
     go_wp2_with fail
     refine C3.out.mono ?_;rintro e w5 ⟨q,rfl,hq0,hq1,hd5,hg5⟩;have HK5':=hh_ (HK3.out.next hd5 hg5);have C4:=hh_ (A3_ b 9 w5 hd5 (by omega) (by omega));clear HK3 C3 hd5 hg5 bx
     go_wp2_with fail
     refine C4.out.mono ?_;rintro e w6 ⟨q1,rfl,hq10,hq11,hd6,hg6⟩;have HK6:=hh_ (HK5'.out.next hd6 hg6);have C5:=hh_ (A3_ b 9 w6 hd6 (by omega) (by omega));clear HK5' C4 hd6 hg6
     go_wp2_with fail
     refine C5.out.mono ?_;rintro e w7 ⟨q2,rfl,hq20,hq21,hd7,hg7⟩;have HK7:=hh_ (HK6.out.next hd7 hg7);clear HK6 C5 hd7 hg7;have G8:=ga_ w7 (.cells #[.int .i64 q1,.int .i64 q2] 3) none;have HK8:=hh_ (HK7.out.same G8);have hz8:bc+1≤(w7.alloc (.cells #[.int .i64 q1,.int .i64 q2] 3)).heap.size:=HK8.out.lt.2.2.2;have hz7:bc+1≤w7.heap.size:=HK7.out.lt.2.2.2;have Hg8:=hh_ (show(w7.alloc (.cells #[.int .i64 q1,.int .i64 q2] 3)).heap.size=w7.heap.size+1 by simp);have HR8:=hh_ (Z6_ (f:=intF) (size:=1) (Blk.new w7 #[.int .i64 q1,.int .i64 q2] 3) (fun _=>rfl) [q1,q2] rfl (by simp));have hlt7:=hh_ (fun k hk=>(HK7.out.ops.own.lt k hk).2:∀k,(Value.slice oa l.length oc).ownBlock=some k→k<w7.heap.size);clear G8 HK7
     go_upto_region 5 with(at_builtin;refine L1_ Jg_ Ep_ HK8.out.ops.own ⟨2,.slice none 0 0,tm+q,0,⟨#[]⟩,.slice (some ⟨w7.heap.size,0,none⟩) 2 2,[],[q1,q2]⟩ Iu_ hb1 hb2 hz8 (by rfl) Hg8.out rfl _ _ (by rfl) (by rfl) (by rfl) ?_;intro v4 w4 o4 g4 l4)
     have K5:=(HK8).out.snoc (o:=⟨2,.slice none 0 0,tm+q,0,⟨#[]⟩,.slice (some ⟨w7.heap.size,0,none⟩) 2 2,[],[q1,q2]⟩) (n:=w7.heap.size) ⟨Ms_ _,HR8.out,fun a n c e=>by cases e;omega,fun a n c e=>by cases e;omega⟩ ⟨Hd_ _ _ _ _,fun a n c e=>by cases e;rw[Hg8.out];exact⟨le_ _,Nat.lt_succ_self _⟩⟩ hz7 hlt7.out (ei_ (by omega) ⟨hq10,hq11⟩ ⟨hq20,hq21⟩) o4 g4 l4;have HK5:=hh_ K5;clear K5 o4 g4 l4 HK8
     go_wp2_with fail
     exact⟨⟨k-1,_,(tm+q),rfl,rfl,by omega,by have:=Hl.out;simp;omega,by omega,HK5.out⟩,by simp[RowKit.intOf];omega⟩
    ·have bx:=HK3.out.box.cell
     have C3:=hh_ (A3_ b (2*c.Length) w3 HK3.out.deck (by omega) (by omega))
     go_wp2_with fail
     refine C3.out.mono ?_;rintro e w5 ⟨q,rfl,hq0,hq1,hd5,hg5⟩;have HK5':=hh_ (HK3.out.next hd5 hg5);have C4:=hh_ (A3_ b 9 w5 hd5 (by omega) (by omega));clear HK3 C3 hd5 hg5 bx
     go_wp2_with fail
     refine C4.out.mono ?_;rintro e w6 ⟨q1,rfl,hq10,hq11,hd6,hg6⟩;have HK6:=hh_ (HK5'.out.next hd6 hg6);have C5:=hh_ (A3_ b 9 w6 hd6 (by omega) (by omega));clear HK5' C4 hd6 hg6
     go_wp2_with fail
     refine C5.out.mono ?_;rintro e w7 ⟨q2,rfl,hq20,hq21,hd7,hg7⟩;have HK7:=hh_ (HK6.out.next hd7 hg7);clear HK6 C5 hd7 hg7;have G8:=ga_ w7 (.cells #[.int .i64 q1,.int .i64 q2] 3) none;have HK8:=hh_ (HK7.out.same G8);have hz8:bc+1≤(w7.alloc (.cells #[.int .i64 q1,.int .i64 q2] 3)).heap.size:=HK8.out.lt.2.2.2;have hz7:bc+1≤w7.heap.size:=HK7.out.lt.2.2.2;have Hg8:=hh_ (show(w7.alloc (.cells #[.int .i64 q1,.int .i64 q2] 3)).heap.size=w7.heap.size+1 by simp);have HR8:=hh_ (Z6_ (f:=intF) (size:=1) (Blk.new w7 #[.int .i64 q1,.int .i64 q2] 3) (fun _=>rfl) [q1,q2] rfl (by simp));have hlt7:=hh_ (fun k hk=>(HK7.out.ops.own.lt k hk).2:∀k,(Value.slice oa l.length oc).ownBlock=some k→k<w7.heap.size);clear G8 HK7
     go_upto_region 5 with(at_builtin;refine L1_ Jg_ Ep_ HK8.out.ops.own ⟨2,.slice none 0 0,tm+q,0,⟨#[]⟩,.slice (some ⟨w7.heap.size,0,none⟩) 2 2,[],[q1,q2]⟩ Iu_ hb1 hb2 hz8 (by rfl) Hg8.out rfl _ _ (by rfl) (by rfl) (by rfl) ?_;intro v4 w4 o4 g4 l4)
     have K5:=(HK8).out.snoc (o:=⟨2,.slice none 0 0,tm+q,0,⟨#[]⟩,.slice (some ⟨w7.heap.size,0,none⟩) 2 2,[],[q1,q2]⟩) (n:=w7.heap.size) ⟨Ms_ _,HR8.out,fun a n c e=>by cases e;omega,fun a n c e=>by cases e;omega⟩ ⟨Hd_ _ _ _ _,fun a n c e=>by cases e;rw[Hg8.out];exact⟨le_ _,Nat.lt_succ_self _⟩⟩ hz7 hlt7.out (ei_ (by omega) ⟨hq10,hq11⟩ ⟨hq20,hq21⟩) o4 g4 l4;have HK5:=hh_ K5;clear K5 o4 g4 l4 HK8
     go_wp2_with fail
     exact⟨⟨k-1,_,(tm+q),rfl,rfl,by omega,by have:=Hl.out;simp;omega,by omega,HK5.out⟩,by simp[RowKit.intOf];omega⟩
   ·have f0 :((r:Int)==0)=false:=by simp;omega
    have f1 :((r:Int)==1)=false:=by simp;omega
    clear h01 h2 h3 h4;have h34:=HK3.out.lt;have C3:=hh_ (Yw_ b tm w3 HK3.out.deck (by omega) (by omega))
    go_wp2_with fail
    refine C3.out.mono ?_;rintro e w5 ⟨fv,F,rfl,oF,hF,hd5,hg5⟩;obtain⟨fa,fc,rfl⟩:=oF.shape;have HK5':=hh_ (HK3.out.next hd5 hg5);have hz5:bc+1≤w5.heap.size:=HK5'.out.lt.2.2.2;have HOF:=hh_ oF;have hlt3:=hh_ (fun k hk=>(HK3.out.ops.own.lt k hk).2:∀k,(Value.slice oa l.length oc).ownBlock=some k→k<w3.heap.size);clear HK3 C3 hd5 hg5 oF h34
    go_upto_region 5 with(at_builtin;refine Bx_ Jg_ Ep_ (HK5').out.ops.own ⟨1,.slice fa F.length fc,0,0,⟨#[]⟩,.slice none 0 0,F,[]⟩ Iu_ hb1 hb2 hz5 (by rfl) rfl _ _ (by rfl) (by rfl) (by rfl) ?_;intro v4 w4 o4 g4 l4)
    have K5:=(HK5').out.snoc (o:=⟨1,.slice fa F.length fc,0,0,⟨#[]⟩,.slice none 0 0,F,[]⟩) (n:=w3.heap.size) ⟨HOF.out.rd,Tt_ _,fun a n c e=>by cases e;exact HOF.out.cap,fun a n c e=>by cases e;omega⟩ ⟨HOF.out.inB,Hd_ _ _ _ _⟩ hz3 hlt3.out (gb_ hF) o4 g4 l4;have HK5:=hh_ K5;clear K5 o4 g4 l4 HK5'
    go_wp2_with fail
    exact⟨⟨k-1,_,tm,rfl,rfl,by omega,by have:=Hl.out;simp;omega,by omega,HK5.out⟩,by simp[RowKit.intOf];omega⟩
  ·obtain rfl:k=-1:=by omega
   go_wp2_with fail
   go_ret
   have h4:=HK.out.lt;exact⟨_,l,rfl,HK.out.ops.base (by omega),HK.out.ok,by have:=Hl.out;omega,HK.out.deck,HK.out.G⟩
end
section
open Go.RowKit Go.Sort
def opBl (o:OpR):Fp:=fun i=>ownF o.vd i∨ownF o.vp i
def opsFp (v:Value) (L:List OpR):Fp:=fun i=>ownF v i∨∃o∈L,opBl o i
structure OpsQ (w:World) (lo:Nat) (v:Value) (L:List OpR):Prop where
 own:Own opF 6 65 lo w v L
 rd:∀o∈L,OpRd w o
 low:Low w (opsFp v L)
theorem Uq_ {lo hi:Nat} {a:Option Addr} {n c:Nat} (h:InB lo hi (.slice a n c)):∀i,ownF (.slice a n c) i→lo≤i∧i<hi:=by
 intro i hi
 cases a with
 | none=>cases hi
 | some ad=>cases hi;exact h _ _ _ rfl
theorem OpRd.shapes {w:World} {o:OpR} (h:OpRd w o) :(∃a c,o.vd=.slice a o.data.length c)∧∃a c,o.vp=.slice a o.picks.length c:=⟨h.data.shape,h.picks.shape⟩
theorem OpsG.q {lo:Nat} {w:World} {v:Value} {L:List OpR} (h:OpsG lo w v L):OpsQ w lo v L∧∀i,opsFp v L i→lo≤i:=by
 have key:∀o∈L,∀i,opBl o i→lo≤i∧i<w.heap.size:=fun o ho i hi=>by
  obtain⟨h1,h2,_⟩:=h.all o ho;obtain⟨⟨a,c,e1⟩,⟨a2,c2,e2⟩⟩:=h1.shapes
  rcases hi with hi|hi
  ·have:=h2.vd;rw[e1] at this hi;exact Uq_ this i hi
  ·have:=h2.vp;rw[e2] at this hi;exact Uq_ this i hi
 exact⟨⟨h.own,fun o ho=>(h.all o ho).1,fun i hi=>hi.elim (fun e=>(h.own.lt i e).2) fun⟨o,ho,e⟩=>(key o ho i e).2⟩,fun i hi=>hi.elim (fun e=>(h.own.lt i e).1) fun⟨o,ho,e⟩=>(key o ho i e).1⟩
theorem OpRd.offS {w w':World} {o:OpR} {S:Fp} (h:OpRd w o) (k:GrownS S w w') (ho:Off (opBl o) S):OpRd w' o:=
 ⟨h.data.keptS k fun _ a n c e hs=>ho a.block (.inl (by rw[e];rfl)) hs,h.picks.keptS k fun _ a n c e hs=>ho a.block (.inr (by rw[e];rfl)) hs,h.dcap,h.pcap⟩
theorem OpsQ.offS {w w':World} {lo:Nat} {v:Value} {L:List OpR} {S:Fp} (h:OpsQ w lo v L) (k:GrownS S w w') (ho:Off (opsFp v L) S):OpsQ w' lo v L:=
 ⟨h.own.offS k (ho.left fun _ hi=>.inl hi),fun o hm=>(h.rd o hm).offS k (ho.left fun _ hi=>.inr ⟨o,hm,hi⟩),h.low.up k.size⟩
theorem OpsQ.base {w:World} {lo lo':Nat} {v:Value} {L:List OpR} (h:OpsQ w lo v L) (hl:lo'≤lo):OpsQ w lo' v L:=⟨h.own.base fun k hk=>lt_ hl (h.own.lt k hk).1,h.rd,h.low⟩
structure RpS (w0:World) (c:Cfg) (t:List Int) (vq:Value) (L:List OpR) (w:World) (G:RcG) (K:CluM) (vl:Value) (rs:List Rep):Prop where
 clu:RClu w G c t K
 hi:∀i,G.F i→w0.heap.size≤i
 ops:OpsQ w w0.heap.size vq L
 o0:Off (opsFp vq L) G.F
 out:J5_ w0.heap.size w vl rs
 o2:Off (Ju_ vl rs) G.F
 o3:Off (opsFp vq L) (Ju_ vl rs)
 grown:w0.grownBy w none
section
variable {w0 w w' w'':World} {c:Cfg} {t:List Int} {vq:Value} {L:List OpR} {G G':RcG} {K K':CluM} {vl vl':Value} {rs xs:List Rep}
theorem RpS.mov (h:RpS w0 c t vq L w G K vl rs) (hc:RClu w' G' c t K') (m:Mov G.F G'.F w w'):RpS w0 c t vq L w' G' K' vl rs:=
 ⟨hc,m.above h.grown.size h.hi,h.ops.offS m.grown h.o0,m.off h.ops.low h.o0,h.out.offS m.grown h.o2,m.off h.out.low h.o2,h.o3,Mov.back h.grown m h.hi⟩
theorem RpS.same (h:RpS w0 c t vq L w G K vl rs) (g:w.grownBy w' none):RpS w0 c t vq L w' G K vl rs:=h.mov (h.clu.same g) (Mov.same g)
theorem RpS.cfg {l:List (Int×Int)} (h:RpS w0 c t vq L w G K vl rs) (hn:CfgNums c) (hm:CfgMem c l t w0) (htl:∀i,ownF c.Table i→i<w0.heap.size):CfgW w c t G.F:=
 ⟨hn,hm.table.same h.grown,hm.tlen,fun i hi=>ll_ (htl i hi) h.grown.size,fun i hi hf=>by have:=htl i hi;have:=h.hi i hf;omega⟩
theorem RpS.app (h:RpS w0 c t vq L w' G' K' vl rs) {N:Nat} (hN:∀i,ownF vl i→i<N) (hN0:w0.heap.size≤N) (hx:∀x∈xs,RepRd w' x) (hb:∀x∈xs,∀i,repBl x i→N≤i) (hox:∀x∈xs,Off (repBl x) G'.F) (hops:∀i,opsFp vq L i→i<N)
  (ho:Own repF 7 26 w0.heap.size w'' vl' (rs++xs)) (hg:w'.grownBy w'' vl.ownBlock) (hL:Lies vl vl' w'.heap.size):RpS w0 c t vq L w'' G' K' vl' (rs++xs):=by
 have gS:GrownS (ownF vl) w' w'':=GrownS.of hg fun k hk=>hk
 have hlo:∀i,ownF vl i→w0.heap.size≤i:=fun i hi=>(h.out.own.lt i hi).1
 have hnew:∀i,ownF vl' i→ownF vl i∨w'.heap.size≤i:=fun i hi=>by
  rcases hL with e |⟨m,e1,e2⟩
  ·left;unfold ownF at hi ⊢;rw[←e];exact hi
  ·right;unfold ownF at hi;rw[e1] at hi;cases hi;exact e2
 have hcl:=h.clu.low;have hol:=h.ops.low
 have hxl:∀x∈xs,Low w' (repBl x):=fun x hm=>repK.low (hx x hm)
 refine⟨h.clu.keptS gS (h.o2.symm.right fun i hi=>.inl hi),h.hi,h.ops.offS gS (h.o3.right fun i hi=>.inl hi),h.o0,⟨ho,fun x hm=>?_⟩,fun i hi hf=>?_,fun i hf hi=>?_,?_⟩
 ·rcases ma_ hm with hm|hm
  ·obtain⟨a1,a2,a3⟩:=h.out.all x hm
   refine⟨repK.keep a1 gS fun i hi hs=>a3 i hs hi,a2,fun k hk hi=>?_⟩
   rcases hnew k hk with e|e
   ·exact a3 k e hi
   ·have:=repK.low a1 k hi;omega
  ·refine⟨repK.keep (hx x hm) gS fun i hi hs=>?_,fun i hi=>lt_ hN0 (hb x hm i hi),fun k hk hi=>?_⟩
   ·have:=hN i hs;have:=hb x hm i hi;omega
   ·rcases hnew k hk with e|e
    ·have:=hN k e;have:=hb x hm k hi;omega
    ·have:=hxl x hm k hi;omega
 ·rcases hi with hi |⟨x,hm,hi⟩
  ·rcases hnew i hi with e|e
   ·exact h.o2 i (.inl e) hf
   ·have:=hcl i hf;omega
  ·rcases ma_ hm with hm|hm
   ·exact h.o2 i (.inr ⟨x,hm,hi⟩) hf
   ·exact hox x hm i hi hf
 ·rcases hi with hi |⟨x,hm,hi⟩
  ·rcases hnew i hi with e|e
   ·exact h.o3 i hf (.inl e)
   ·have:=hol i hf;omega
  ·rcases ma_ hm with hm|hm
   ·exact h.o3 i hf (.inr ⟨x,hm,hi⟩)
   ·have:=hb x hm i hi;have:=hops i hf;omega
 ·exact It_ h.grown hg fun q hq=>hlo q hq
end
theorem reps_one {w:World} {xs:List Rep} (h:∀x∈xs,RepRd w x):∀u∈cellsOf repF xs,u.oneCell'=true:=by
 intro u hu;obtain⟨x,hx,hu⟩:=List.mem_flatMap.1 hu;obtain⟨a,c,e1⟩:=(h x hx).lines.shape;obtain⟨a2,c2,e2⟩:=(h x hx).rej.shape;simp only[repF,List.mem_cons,List.not_mem_nil,or_false] at hu
 rcases hu with rfl|rfl|rfl|rfl|rfl|rfl|rfl
 ·rfl
 ·rfl
 ·rw[e1];rfl
 ·rfl
 ·rfl
 ·rfl
 ·rw[e2];rfl
section
variable {α:Type} {f:α→List Value} {st e:TypeId} {z:Value} {size bytes N:Nat} {P:List α→Prop} {w:World}
variable {v:Value} {l l2:List α} {A:Option Addr} {m c:Nat}
variable {o:Oper} {a:Act} {ops:Array Oper} {rest:List Oper} {Q:Exit→Act→World→Prop}
theorem Qw_ (E:Elt st e z size bytes) (h1:∀u∈cellsOf f l2,u.oneCell'=true) (hf:∀x,(f x).length=size) (hown:Own f size e N w v l) (hr:RdL f size w (.slice A m c) l2) (hm:m=l2.length) (hb :(l.length+l2.length)*bytes≤140737488355328) (h63:l.length+l2.length≤9223372036854775807) (hbase:N≤w.heap.size)
  (hP:∀T,P T→T.length≤l.length∨T <+: l++l2∨l++l2 <+: T)
  (hgd:o.guard=none) (s x:Operand) (ho:o.op=.call { callee:=.builtin .append,args:=#[s,x],argTypes:=#[st,st] }) (hs:a.eval s=v) (hx:a.eval x=.slice A m c)
  (h:∀v' w',Own f size e N w' v' (l++l2)→KeepR f size e N P v.ownBlock w w'→Lies v v' w.heap.size→wpList Tryz.prog ops Q rest (a.put o.dst v') w'):wpList Tryz.prog ops Q (o::rest) a w:=by
 refine wpList_plain hgd fun _ hK=>?_
 subst hm;obtain⟨v',w',hrun,h2,h3,h4⟩:=Gl_ (ty:=o.type) E hown hr h1 (by unfold maxLen;exact h63) hb hbase
 have h2':Own f size e N w' v' (l++l2):=by unfold Own;rw[Aq_,la_];exact h2
 obtain⟨v3,w3,hrun3,_,_,h5⟩:=Fm_ (ty:=o.type) E hown hr h1 (by unfold maxLen;exact h63) hb hbase;rw[hrun] at hrun3;cases hrun3;unfold Oper.wp execOp;simp only[ho,resolve,invoke,builtin,Sem.run_bind,Sem.run_pure,Result.andThen_ok,List.map_toArray,List.map_cons,List.map_nil,hs,hx,hrun];exact hK _ _ (h v' w' h2' ⟨h3,fun T u hp hu=>Fg_ hf E.pos hown h2' h3 h4 (hP T hp) hu⟩ h5)
end
theorem CfgMem.keptS {c:Cfg} {l:List (Int×Int)} {t:List Int} {w w':World} {S:Nat→Prop} (h:CfgMem c l t w) (k:GrownS S w w') (h1:∀a i m,c.Table=.slice (some a) i m→¬S a.block) (h2:0<l.length→∀a i m,c.Classes=.slice (some a) i m→¬S a.block):CfgMem c l t w':=
 ⟨Rd.keptS h.classes k h2,Rd.keptS h.table k fun _=>h1,h.tlen,h.twords⟩
theorem BoxAt.keptS {w w':World} {b:Nat} {c:Cfg} {S:Nat→Prop} (h:BoxAt w b c) (k:GrownS S w w') (hS:¬S b):BoxAt w' b c:=by
 obtain⟨t,f,e,he⟩:=h.block;exact⟨⟨t,f,(k.block b h.lt hS).trans e,he⟩⟩
section
variable {α:Type} {f:α→List Value} {size:Nat} {e:TypeId} {N:Nat} {P:List α→Prop} {r:Option Nat} {b:Nat} {c:Cfg} {w w' w'':World}
structure Dg_ (f:α→List Value) (size:Nat) (e:TypeId) (N:Nat) (P:List α→Prop) (r:Option Nat) (b:Nat) (c:Cfg) (w w':World):Prop where
 grown:GrownS (fun i=>r=some i∨i=b) w w'
 own:∀T v,P T→Own f size e N w v T→Own f size e N w' v T
 b1:BoxAt w b c→BoxAt w' b c
 b2 :(∃c0,BoxAt w b c0)→∃c0,BoxAt w' b c0
theorem Dg_.refl (f:α→List Value) (size:Nat) (e:TypeId) (N:Nat) (P:List α→Prop) (r:Option Nat) (b:Nat) (c:Cfg) (w:World):Dg_ f size e N P r b c w w:=⟨GrownS.refl _ _,fun _ _ _ h=>h,id,id⟩
theorem Dg_.trans (h:Dg_ f size e N P r b c w w') (k:Dg_ f size e N P r b c w' w''):Dg_ f size e N P r b c w w'':=⟨h.grown.trans k.grown fun _ h _=>h,fun T v hp ho=>k.own T v hp (h.own T v hp ho),k.b1∘h.b1,k.b2∘h.b2⟩
theorem Dg_.ofR (h:KeepR f size e N P r w w') (hr:r≠some b):Dg_ f size e N P r b c w w':=
 ⟨GrownS.of h.grown fun _ hk=>.inl hk,h.own,fun hb=>hb.kept h.grown hr,fun⟨c0,hb⟩=>⟨c0,hb.kept h.grown hr⟩⟩
theorem Dg_.store (hg:w.grownBy w' (some b)) (hb:BoxAt w' b c) (hN:b<N):Dg_ f size e N P r b c w w':=
 ⟨GrownS.of hg fun k hk=>.inr (by cases hk;rfl),fun T v _ ho=>ho.kept hg fun k hk e=>by have h1:=(ho.lt k hk).1;cases e;omega,fun _=>hb,fun _=>⟨c,hb⟩⟩
theorem Dg_.blk {g:Nat} {cs:Array Value} (h:Dg_ f size e N P r b c w w') (hb:Blk w g cs) (hg:r≠some g) (hb':g≠b):Blk w' g cs:=hb.keptS h.grown fun hs=>hs.elim hg hb'
end
theorem RpS.fin {w0 w' w'':World} {c:Cfg} {t:List Int} {vq:Value} {L:List OpR} {G':RcG} {K':CluM} {vl vl':Value} {rs xs:List Rep} (h:RpS w0 c t vq L w' G' K' vl rs) {N b:Nat} (hN:∀i,ownF vl i→i<N) (hN0:w0.heap.size≤N) (hbl:b<w0.heap.size) (hx:∀x∈xs,RepRd w' x) (hb:∀x∈xs,∀i,repBl x i→N≤i) (hox:∀x∈xs,Off (repBl x) G'.F)
  (ho:Own repF 7 26 w0.heap.size w'' vl' (rs++xs)) (gS:GrownS (fun i=>vl.ownBlock=some i∨i=b) w' w'') (hL:Lies vl vl' w'.heap.size):RClu w'' G' c t K'∧J5_ w0.heap.size w'' vl' (rs++xs)∧Off (Ju_ vl' (rs++xs)) G'.F:=by
 have hlo:∀i,ownF vl i→w0.heap.size≤i:=fun i hi=>(h.out.own.lt i hi).1
 have hnew:∀i,ownF vl' i→ownF vl i∨w'.heap.size≤i:=fun i hi=>by
  rcases hL with e |⟨m,e1,e2⟩
  ·left;unfold ownF at hi ⊢;rw[←e];exact hi
  ·right;unfold ownF at hi;rw[e1] at hi;cases hi;exact e2
 have hcl:=h.clu.low
 have hxl:∀x∈xs,Low w' (repBl x):=fun x hm=>repK.low (hx x hm)
 refine⟨h.clu.keptS gS fun i hi hs=>hs.elim (fun e=>h.o2 i (.inl e) hi) fun e=>by have:=h.hi i hi;omega,⟨ho,fun x hm=>?_⟩,fun i hi hf=>?_⟩
 ·rcases ma_ hm with hm|hm
  ·obtain⟨a1,a2,a3⟩:=h.out.all x hm
   refine⟨repK.keep a1 gS fun i hi hs=>hs.elim (fun e=>a3 i e hi) fun e=>by have:=a2 i hi;omega,a2,fun k hk hi=>?_⟩
   rcases hnew k hk with e|e
   ·exact a3 k e hi
   ·have:=repK.low a1 k hi;omega
  ·refine⟨repK.keep (hx x hm) gS fun i hi hs=>?_,fun i hi=>lt_ hN0 (hb x hm i hi),fun k hk hi=>?_⟩
   ·have h2:=hb x hm i hi
    rcases hs with e|e
    ·have:=hN i e;omega
    ·omega
   ·rcases hnew k hk with e|e
    ·have:=hN k e;have:=hb x hm k hi;omega
    ·have:=hxl x hm k hi;omega
 ·rcases hi with hi |⟨x,hm,hi⟩
  ·rcases hnew i hi with e|e
   ·exact h.o2 i (.inl e) hf
   ·have:=hcl i hf;omega
  ·rcases ma_ hm with hm|hm
   ·exact h.o2 i (.inr ⟨x,hm,hi⟩) hf
   ·exact hox x hm i hi hf
end
end Go.Proofs.YtckmgjmeanloaaaGreat
