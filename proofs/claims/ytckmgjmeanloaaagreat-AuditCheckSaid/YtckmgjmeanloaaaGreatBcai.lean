/- Contracts of functions, and laws. -/
import Derived.Test.YtckmgjmeanloaaaGreatBcah
import Derived.ProofKit
import Derived.ShutString
import Derived.Deep.Fields
import Derived.Deep.Strs
set_option maxHeartbeats 8000000
set_option maxRecDepth 100000
namespace Go.Proofs.YtckmgjmeanloaaaGreat
open Go.Proofs.Tryz
variable {w w':World} {t:List Int} {k:ByteArray} {Q:Exit→Act→World→Prop} {ops:Array Oper} {o:Oper} {a:Act} {cs:Array Value}
section
open Go.RowKit Go.Sort
attribute [local go_sem ↓] Ag_
attribute [local go_sem] Ah_
theorem Gy_ {ops:Array Oper} {rest:List Oper} {o:Oper} {a:Act} {w:World} {Q:Exit→Act→World→Prop} (hw:Region.wanted o (yielded ops a.tmps)=true) (x:Operand) (ho:o.op=.load 26 x)
  (b:Nat) (hx:a.eval x=.pointer (some ⟨b,0,none⟩)) {win tot over trk rst:Int} {vl vr:Value} (hb:Blk w b (repA win tot vl over trk rst vr)) (h:wpList prog ops Q rest (a.put o.dst (repV win tot vl over trk rst vr)) w):wpList prog ops Q (o::rest) a w:=by
 obtain⟨t,hbl⟩:=hb.blk
 exact BigFrame.wpList_want hw fun K hK=>wp_load_row _ x ho b hx t _ _ _ hbl underlying26 rfl Gc_ (hK _ _ h)
section
variable {α:Type} {f:α→List Value} {st e:TypeId} {z:Value} {size bytes:Nat} {w:World} {g n:Nat} {l l2:List α} {A:Option Addr} {m c:Nat}
variable {o:Oper} {a:Act} {ops:Array Oper} {rest:List Oper} {Q:Exit→Act→World→Prop}
theorem O2_ (E:Elt st e z size bytes) (hr0:RdL f size w (.slice (some ⟨g,0,none⟩) n n) l) (hn:n=l.length) (hr:RdL f size w (.slice A m c) l2) (hm:m=l2.length) (h0:0<l.length) (h02:0<l2.length) (hb :(l.length+l2.length)*bytes≤140737488355328) (h63:l.length+l2.length≤9223372036854775807)
  (hw:Region.wanted o (yielded ops a.tmps)=true) (s x:Operand) (ho:o.op=.call { callee:=.builtin .append,args:=#[s,x],argTypes:=#[st,st] }) (hs:a.eval s=.slice (some ⟨g,0,none⟩) n n) (hx:a.eval x=.slice A m c)
  (h:∀v' w',Own f size e w.heap.size w' v' (l++l2)→w.grownBy w' none→wpList prog ops Q rest (a.put o.dst v') w'):wpList prog ops Q (o::rest) a w:=by
 subst hm hn;obtain⟨i,hi,hz0,hz1,hz2⟩:=info_parts E.info
 rcases hr0.2.2 with⟨h3,_⟩ |⟨g1,off1,cap1,hv1,_,hc1⟩
 ·omega
 rcases hr.2.2 with⟨h3,_⟩ |⟨g2,off2,cap2,hv2,_,hc2⟩
 ·omega
 cases hv1;cases hv2
 have hadd:∀b off j,(⟨b,off,none⟩:Addr).add j =⟨b,off+j,none⟩:=fun b off j=>by unfold Addr.add;split <;> simp_all
 obtain⟨v',w',hrun,h2,h3⟩:=run_append_arg_grows (P:=prog) w st o.type e i z size bytes E.ht hi hz0 hz1 hz2 E.cells E.pos ⟨g,0,none⟩ l.length l.length (cellsOf f l) hr0.1 (fun j u hu=>by rw[hadd];exact hc1 j u hu) ⟨g2,off2,none⟩ l2.length c (cellsOf f l2) hr.1 (fun j u hu=>by rw[hadd];exact hc2 j u hu) (by omega) (by unfold maxLen;exact h63) hb
 refine BigFrame.wpList_want hw fun K hK=>?_
 unfold Oper.wp execOp;simp only[ho,resolve,invoke,builtin,Sem.run_bind,Sem.run_pure,Result.andThen_ok,List.map_toArray,List.map_cons,List.map_nil,hs,hx,hrun];exact hK _ _ (h v' w' (by unfold Own;rw[Ar_,la_];exact h2) h3)
end
theorem Ie_ (w:World):Calls prog 6 #[] w (Cm_ true w):=by
 have hmk:∀w,(Instr.makeSlice 24 (.int .i64 7) (.int .i64 7)).run prog w=.ok (.slice (some ⟨w.heap.size,0,none⟩) 7 7) (w.alloc (.cells #[.int .u64 0,.int .u64 0,.int .u64 0,.int .u64 0,.int .u64 0,.int .u64 0,.int .u64 0] 22)):=fun _=>by kernel_rfl
 have K1:=hh_ (Hu_ _ [tA] _ ((Blk.new w #[.string ⟨#[97]⟩,.string ⟨#[]⟩] 53).one Au_ tA rfl) (fun t ht=>by rw[ms_ ht];exact cz_ ⟨rfl,rfl⟩));unfold KeyP at K1;rw[hk_,V6_] at K1
 go_enter func6,ntmps6
 go_upto_region 2 with(go_at_call 16;refine K1.out.mono ?_;rintro e w2 ⟨rfl,g2⟩)
 have G2:=Aa_ (ga_ w (.cells #[.string ⟨#[97]⟩,.string ⟨#[]⟩] 53) none) g2;have K2:=hh_ (Hu_ _ [tB] _ ((Blk.new w2 #[.string ⟨#[98]⟩,.string ⟨#[]⟩] 53).one Au_ tB rfl) (fun t ht=>by rw[ms_ ht];exact cz_ ⟨rfl,rfl⟩));unfold KeyP at K2;rw[ik_,co_] at K2;clear K1 g2
 go_upto_region 3 with(go_at_call 16;refine K2.out.mono ?_;rintro e w3 ⟨rfl,g3⟩)
 have G3:=Aa_ (Ad_ G2 (.cells #[.string ⟨#[98]⟩,.string ⟨#[]⟩] 53)) g3;clear K2 g3 G2
 go_upto_region 4 with(first |(refine Dp_ rfl rfl ?_;intro w4 B4 G4 z4) |(refine Dh_ rfl _ _ rfl _ rfl awk34C rfl rfl rfl Cfg.zero (by assumption) ?_;intro w5 B5 G5))
 have G6:=Aa_ G3 (Af_ G4 G5 (le_ _));generalize w3.heap.size=cb at *;clear B4 G4 G5 G3;have A1:=(Blk.new w5 #[.string kA,.int .u64 5,.int .u64 5] 46).same (ga_ _ (.cells #[.int .u64 0,.int .u64 0,.int .u64 0,.int .u64 0,.int .u64 0,.int .u64 0,.int .u64 0] 22) none);have A2:=Blk.new' (w5.alloc (.cells #[.string kA,.int .u64 5,.int .u64 5] 46)) #[.int .u64 0,.int .u64 0,.int .u64 0,.int .u64 0,.int .u64 0,.int .u64 0,.int .u64 0] 22 (g:=w5.heap.size+1) (by simp);have R1:=A1.one Ay_ ⟨kA,5,5⟩ rfl;have R2:=A2.many (f:=wordF) (size:=1) (fun _=>rfl) [0,0,0,0,0,0,0] rfl (by simp);have hR:RepRd ((w5.alloc (.cells #[.string kA,.int .u64 5,.int .u64 5] 46)).alloc (.cells #[.int .u64 0,.int .u64 0,.int .u64 0,.int .u64 0,.int .u64 0,.int .u64 0,.int .u64 0] 22)) (Cf_ (.slice (some ⟨w5.heap.size,0,none⟩) 1 1) (.slice (some ⟨w5.heap.size+1,0,none⟩) 7 7)):=⟨R1,R2,fun a n c e=>by cases e;omega,fun a n c e=>by cases e;omega⟩;have B6:=(B5.same (ga_ _ (.cells #[.string kA,.int .u64 5,.int .u64 5] 46) none)).same (ga_ _ (.cells #[.int .u64 0,.int .u64 0,.int .u64 0,.int .u64 0,.int .u64 0,.int .u64 0,.int .u64 0] 22) none);have G7:=Ad_ (Ad_ G6 (.cells #[.string kA,.int .u64 5,.int .u64 5] 46)) (.cells #[.int .u64 0,.int .u64 0,.int .u64 0,.int .u64 0,.int .u64 0,.int .u64 0,.int .u64 0] 22);have HR:=hh_ hR;have HB:=hh_ B6;have HG:=hh_ G7;clear A1 A2 R1 R2 hR B5 B6 G6 G7
 go_upto_region 5 with(first
  |(refine Im_ rfl rfl ?_;intro w7 A7 g7 z7)
  |(refine A4_ rfl _ _ rfl _ rfl (win:=0) (tot:=7) (over:=2) (trk:=2) (rst:=2) (vl:=.slice (some ⟨w5.heap.size,0,none⟩) 1 1) (vr:=.slice (some ⟨w5.heap.size+1,0,none⟩) 7 7) rfl rfl rfl rep0 rfl A7 ?_;intro w8 A8 g8))
 have g9:=Af_ g7 g8 (le_ _);have R8:=HR.out.same g9;have B8:=HB.out.same g9;have G8:=Aa_ HG.out g9;generalize ((w5.alloc (.cells #[.string kA,.int .u64 5,.int .u64 5] 46)).alloc (.cells #[.int .u64 0,.int .u64 0,.int .u64 0,.int .u64 0,.int .u64 0,.int .u64 0,.int .u64 0] 22)).heap.size=rb at *;clear HR HB HG g7 g8 g9 A7
 go_upto_region 6 with fail
 have I9:=(Blk.new w8 #[.string kA,.int .i64 3,.int .u64 5,.string kB,.int .i64 4,.int .u64 2] 41).many Ip_ [itA,itB] rfl (by decide);have g9:=ga_ w8 (.cells #[.string kA,.int .i64 3,.int .u64 5,.string kB,.int .i64 4,.int .u64 2] 41) none;have A9:=A8.same g9;have R9:=R8.same g9;have B9:=B8.same g9;have G9:=Aa_ G8 g9;generalize w8.alloc _=w9 at *;generalize w8.heap.size=ib at *;clear A8 R8 B8 G8 g9
 have HC:=hh_ fun y (h:w9.grownBy y none)=>Fq_ awk34C _ y (R9.same h) (Oo_ _ _)
 have HG1:=hh_ fun y (h:w9.grownBy y none)=>M7_ awk34C _ _ _ y (R9.same h) (Oo_ _ _) (RdL.same I9 h) (fun x hx=>T1_ x (by simp only[List.mem_cons,List.not_mem_nil,or_false] at hx ⊢;rcases hx with h|h <;> simp[h])) (by decide)
 have HG2:=hh_ fun v y (h:w9.grownBy y none) hv=>M7_ awk34C _ v [itA,itB,itC] y (R9.same h) (Oo_ _ _) hv T1_ (by decide)
 simp only[H7_,Wv_,Th_] at HC HG1 HG2;dsimp only[Cf_] at HC HG1 HG2;have HI:=hh_ I9;have HA:=hh_ A9;have G10:=hh_ G9;have K6:World.grownBy w9 w9.drew none:=gw_;have B6:=B9.same K6;clear R9 I9 A9 G9 B9
 (refine rn_ 23 (fun k _ w v w'=>match k with | 2=>v=.int .i64 0∧World.grownBy w w' none | 8=>v=.int .i64 0∧World.grownBy w w' none | 19=>v=.int .i64 13∧World.grownBy w w' none | _=>False) ?_;simp only[ts_])
 generalize w9.drew=w10 at *
 (refine to_ ?_;intro y0 my0 dy0)
 clear dy0;have BX:=B6.same my0
 go_wp2_with (refine An_ rfl _ rfl _ rfl awk34C (by assumption) ?_)
 refine⟨Ab_ _ _,?_⟩;clear BX
 (refine to_ ?_;intro y1 my1 dy1)
 clear dy1;have AX:=HA.out.same (Aa_ K6 my1)
 go_wp2_with (refine A2_ rfl _ rfl _ rfl AX ?_)
 refine⟨Ab_ _ _,?_⟩;clear AX
 ((refine tc_ ?_;intro y2 my2 dy2;refine⟨?_,?_⟩;· (unfold Rg.callSpec;go_simp;(refine(HC.out y2 (Aa_ K6 my2)).mono ?_;rintro e w' ⟨rfl,g⟩;exact⟨_,rfl,rfl,g⟩)));clear dy2;rintro v y ⟨rfl,g⟩;refine⟨g,?_⟩;clear g;simp only[pt_])
 (refine tq_ 2 ?_;(repeat(go_big_quiet_step (fail)));refine wn_ ?_)
 (refine to_ ?_;intro y5 my5 dy5)
 clear dy5;have BX:=B6.same my5
 go_wp2_with (refine Bd_ rfl _ rfl _ rfl awk34C (by assumption) ?_)
 refine⟨Ab_ _ _,?_⟩;clear BX
 (refine to_ ?_;intro y6 my6 dy6)
 clear dy6;have AX:=HA.out.same (Aa_ K6 my6)
 go_wp2_with (refine Gy_ (by rfl) _ rfl _ rfl AX ?_)
 refine⟨Ab_ _ _,?_⟩;clear AX
 (refine tq_ 1 ?_;(repeat(go_big_quiet_step (fail)));refine wn_ ?_)
 ((refine Rg.tree_callG rfl rfl rfl ?_;intro y8 my8 dy8;refine⟨?_,?_⟩;· (unfold Rg.callSpec;go_simp;(refine(HG1.out y8 (Aa_ K6 my8)).mono ?_;rintro e w' ⟨rfl,g⟩;exact⟨_,rfl,rfl,g⟩)));clear dy8;rintro v y ⟨rfl,g⟩;refine⟨g,?_⟩;clear g;simp only[pt_])
 (refine tq_ 3 ?_;(repeat(go_big_quiet_step (fail)));refine wn_ ?_)
 (refine to_ ?_;intro y12 my12 dy12)
 clear dy12;have BX:=B6.same my12
 go_wp2_with (refine Bd_ rfl _ rfl _ rfl awk34C (by assumption) ?_)
 refine⟨Ab_ _ _,?_⟩;clear BX
 (refine to_ ?_;intro y13 my13 dy13)
 clear dy13;have AX:=HA.out.same (Aa_ K6 my13)
 go_wp2_with (refine Gy_ (by rfl) _ rfl _ rfl AX ?_)
 refine⟨Ab_ _ _,?_⟩;clear AX
 (refine tq_ 3 ?_;(repeat(go_big_quiet_step (fail)));refine wn_ ?_)
 (refine to_ ?_;intro y17 my17 dy17)
 clear dy17
 go_wp2_with fail
 refine⟨ga_ _ _ _,?_⟩;have N17:=Blk.new y17 #[.string kA,.int .i64 5,.int .u64 1] 41;generalize y17.alloc _=e17 at *;generalize y17.heap.size=g17 at *
 (refine to_ ?_;intro y18 my18 dy18)
 have R18:=(N17.same (dy18.out 17 (by omega) (by kernel_rfl))).one Ip_ itC rfl;have I18:=RdL.same HI.out (Aa_ K6 my18);clear dy18 N17
 go_wp2_with (at_builtin;refine O2_ c8_ I18 rfl R18 rfl (by decide) (by decide) (by decide) (by decide) (by rfl) _ _ (by rfl) (by rfl) (by rfl) ?_;intro v18 e18 o18 g18;have Hg18:=hh_ g18;clear g18)
 refine⟨Hg18.out,?_⟩;obtain⟨a18,c18,rfl⟩:=o18.shape;clear I18 R18 Hg18
 (refine Rg.tree_callG rfl rfl rfl ?_;intro y19 my19 dy19;refine⟨?_,?_⟩;· (unfold Rg.callSpec;go_simp;(refine(HG2.out _ y19 (Aa_ K6 my19) (show RdL itF 3 y19 _ [itA,itB,itC] from RdL.same o18.rd (dy19.out 18 (by omega) (by kernel_rfl)))).mono ?_;rintro e w' ⟨rfl,g⟩;exact⟨_,rfl,rfl,g⟩)))
 clear dy19;rintro v y ⟨rfl,g⟩;refine⟨g,?_⟩;clear g;simp only[pt_]
 (refine tq_ 3 ?_;(repeat(go_big_quiet_step (fail)));refine wn_ ?_)
 (refine Rg.tree_nil ?_;intro z mz dz cz)
 clear dz cz
 go_wp2_with fail
 go_ret
 exact Be_ rfl (Aa_ G10.out (Aa_ K6 mz))
end
section
open Go.RowKit
theorem Jk_ {P:Program} (w:World) (g off:Nat) (ty:TypeId) (cs:Array Value) (d:TypeDesc) (hc:∀j v,cs[j]?=some v→w.cell? ⟨g,off+j,none⟩=some v)
  (hu:P.underlying ty=some d) (hd :(match d with | .struct _ | .array _ _=>true | _=>false)=true) (hi :(P.info? ty).map (·.size)=some cs.size) :
  (loadVar ty ⟨g,off,none⟩).run P w=.ok (.agg cs) w:=by
 have hl :(loadCells ⟨g,off,none⟩ cs.toList.length).run P w=.ok cs.toList.toArray w:=
  run_loadCells_list (P:=P) w ⟨g,off,none⟩ cs.toList (fun j v hv=>by
   have hadd :(⟨g,off,none⟩:Addr).add j =⟨g,off+j,none⟩:=by unfold Addr.add;split <;> simp_all
   rw[hadd]
   exact hc j v (by simpa using hv))
 cases hq:P.info? ty with
 | none=>simp[hq] at hi
 | some i=>
  have hs:i.size=cs.size:=by simpa [hq] using hi
  have hagg :(isAgg ty).run P w=.ok true w:=by
   unfold isAgg;rw[Sem.run_bind,run_underlying hu w];cases d <;> simp_all
  simp only[Array.length_toList,Array.toArray_toList] at hl
  simp[loadVar,Sem.run_bind,hagg,sizeOf,typeInfo,hq,hs,hl]
theorem Pn_ {rest:List Oper} (hgd:o.guard=none) (x:Operand) (ho:o.op=.load 26 x)
  (b off:Nat) (hx:a.eval x=.pointer (some ⟨b,off,none⟩)) {r:Rep} (hc:∀j v,(repF r)[j]?=some v→w.cell? ⟨b,off+j,none⟩=some v) (h:wpList prog ops Q rest (a.put o.dst (repV r.win r.tot r.vl r.over r.trk r.rest r.vr)) w):wpList prog ops Q (o::rest) a w:=
 wpList_plain hgd fun _ hK=>by
  unfold Oper.wp execOp;simp only[ho,hx,Instr.loadAt,Instr.sureAddr,Sem.run_bind,Sem.run_pure,Result.andThen_ok,Jk_ w b off _ (repA r.win r.tot r.vl r.over r.trk r.rest r.vr) _ (fun j v hv=>hc j v (by simpa [repF,repA] using hv)) underlying26 rfl Gc_];exact hK _ _ h
end
section
open Go.RowKit Go.Sort
attribute [local go_sem ↓] Ag_
attribute [local go_sem] Ah_
structure ii_ (c:Cfg) (rs:List Rep):Prop where
 w:∀r∈rs,RepW r∧r.lines.length≤64
theorem iq_ {c:Cfg} {rs:List Rep} (hn:CfgNums c) (h:Gg_ c t rs):ii_ c rs:=⟨fun r hr=>by
 obtain⟨K,win,h1,_,_,h2⟩:=h r hr
 exact d6_ hn h2 (h1.len hn.shards.1)⟩
end
section
open Go.RowKit Go.Sort
attribute [local go_sem ↓] Ag_
attribute [local go_sem] Ah_
theorem Gz_ {rest:List Oper} (hw:Region.wanted o (yielded ops a.tmps)=true) (x:Operand) (ho:o.op=.load 26 x)
  (b:Nat) (hx:a.eval x=.pointer (some ⟨b,0,none⟩)) {win tot over trk rst:Int} {vl vr:Value} (hb:Blk w b (repA win tot vl over trk rst vr)) (h:wpList prog ops Q rest (a.put o.dst (repV win tot vl over trk rst vr)) w):wpList prog ops Q (o::rest) a w:=by
 obtain⟨t,hbl⟩:=hb.blk
 exact BigFrame.wpList_want hw fun K hK=>wp_load_row _ x ho b hx t _ _ _ hbl underlying26 rfl Gc_ (hK _ _ h)
end
section
open Go.RowKit Go.Sort
theorem Po_ {n:Nat} (h:n≤255) :(UInt8.ofNat n).toNat=n:=by
 rw[UInt8.toNat_ofNat'];exact Nat.mod_eq_of_lt (by omega)
theorem Uk_ {a r:List UInt8} (h:a.length≤255):cutF (UInt8.ofNat a.length::(a++r))=some (a,r):=by
 show(if (a++r).length<(UInt8.ofNat a.length).toNat then none else some ((a++r).take (UInt8.ofNat a.length).toNat,(a++r).drop (UInt8.ofNat a.length).toNat))=_
 rw[Po_ h,if_neg (by simp)]
 simp
theorem d7_ {t:TagR} (h1:t.name.size≤255) (h2:t.value.size≤255) (r:List UInt8):cut2 (tkB t++r)=some (t,r):=by
 have e:tkB t++r=UInt8.ofNat (nmB t).length::(nmB t++(UInt8.ofNat (vlB t).length::(vlB t++r))):=by
  unfold tkB;rw[J8_,Vf_];simp
 unfold cut2;rw[e,Uk_ (by rw[J8_];exact h1)];dsimp only;rw[Uk_ (by rw[Vf_];exact h2)]
 simp[nmB,vlB]
theorem Nl_:∀{L:List TagR},(∀t∈L,t.name.size≤255∧t.value.size≤255)→splitP (kyB L)=some L
 | [],_=>by simp[kyB,Gl_]
 | a::L,h=>by
  have h0:=h a (by simp)
  have e:kyB (a::L)=tkB a++kyB L:=by simp[kyB]
  rw[e,Gv_ (by simp[tkB]) (d7_ h0.1 h0.2 _),Nl_ fun t ht=>h t (by simp[ht])]
  rfl
theorem Xt_ {L:List TagR} {x:TagR} (h:∀y∈L,nmB y<nmB x):lessT L x=L.length:=by
 induction L with
 | nil=>rfl
 | cons a L ih=>
  have:=ih fun y hy=>h y (by simp[hy])
  unfold lessT at *;rw[List.takeWhile_cons_of_pos (by simpa using h a (by simp))]
  simp[this]
theorem Yw_ {L:List TagR} {x:TagR} (h:∀y∈L,nmB y<nmB x):insT L x=L++[x]:=by
 unfold insT;rw[Xt_ h];simp
theorem Jw_ {S:List TagR} (h:AscT S):sortT S=S:=by
 have:∀k,k≤S.length→sortT (S.take k)=S.take k:=by
  intro k
  induction k with
  | zero=>intro _;simp[sortT]
  | succ k ih=>
   intro hk;rw[tg_ (show k<S.length by omega),Ep_,ih (by omega)]
   refine Yw_ fun y hy=>?_
   obtain⟨i,hi,rfl⟩:=List.getElem_of_mem hy;rw[lk_] at hi;rw[List.getElem_take];exact List.pairwise_iff_getElem.1 h i k (by omega) (by omega) (by omega)
 have h1:=this S.length (le_ _)
 rwa [List.take_length] at h1
theorem fx_ {S:List TagR} (h:AscT S):Dif S:=List.pairwise_map.2 (h.imp fun {a b} hab e=>by rw[e] at hab;exact List.lt_irrefl _ hab)
theorem S8_ {L:List TagR} (h:keyE L=0):keyE (sortT L)=0∧keyY (sortT L)=keyY L∧∀t∈sortT L,tagE t=0:=by
 have h1:sortE L=0:=by
  unfold keyE at h
  split at h
  ·rename_i h3;exact absurd h h3
  ·rename_i h3;exact Decidable.byContradiction h3
 obtain⟨a,b,d,e⟩:=L0_ h1;have hs:=Fo_ e
 have hd:∀t∈sortT L,tagE t=0:=fun t ht=>d t ((Ci_ _ _).1 ht)
 have h2:sortE (sortT L)=0:=Lg_ (by rw[Eg_];omega) (L2_ hd) (fx_ hs)
 have h3:keyE (sortT L)=0:=by
  unfold keyE at h ⊢;rw[if_neg (by omega)] at h;rw[if_neg (by omega),Jw_ hs];exact h
 exact⟨h3,by unfold keyY;rw[if_pos h3,if_pos h,Jw_ hs],hd⟩
theorem Tu_ {L:List TagR} (h:keyE L=0):splitE (keyY L)=0:=by
 obtain⟨h1,h2,h3⟩:=S8_ h
 have e :(keyY L).data.toList=kyB (sortT L):=by unfold keyY;rw[if_pos h]
 exact(F1_ (L:=sortT L) (by have:=G7_ L;omega) (by rw[e];exact Nl_ fun t ht=>by have:=Pg_ (h3 t ht);omega) h1 h2).1
def qHist (q:List B4_) (w:Int):Hist:=(q.filter fun x=>decide (x.win=w)).map fun x=>(x.it.key,x.it.weight)
theorem Gn_ (x:B4_) (q:List B4_) (w:Int):qHist (x::q) w =(if x.win=w then [(x.it.key,x.it.weight)] else [])++qHist q w:=by
 unfold qHist
 by_cases h:x.win=w
 ·rw[if_pos h,List.filter_cons_of_pos (by simpa using h)];rfl
 ·rw[if_neg h,List.filter_cons_of_neg (by simpa using h)];rfl
theorem Uu_ (q r:List B4_) (w:Int):qHist (q++r) w=qHist q w++qHist r w:=by simp[qHist]
theorem Vj_ (w:Int):qHist [] w=[]:=rfl
theorem S9_ {q:List B4_} {w:Int} (h:∀x∈q,x.win≠w):qHist q w=[]:=by
 unfold qHist;rw[List.filter_eq_nil_iff.2 (fun x hx=>by simpa using h x hx)]
 rfl
structure ShKn (c:Cfg) (t:List Int) (S:ShM) (E:Int→Hist):Prop where
 asc:S.ws.Pairwise (·<·)
 ex:∃H:Int→Hist,(∀w,E w=H w++qHist S.queue w)∧(∀(j:Nat) p,S.ts[j]?=some p→TierKn c t (H p.1) p.2)∧∀w,w∉S.ws→H w=[]
 good:∀w,∀p∈E w,(0<p.1.size∧p.1.size≤255)∧1≤p.2
 most:∀w,wAll (E w)≤mostW
theorem Us_ {h:Hist} (hp:∀p∈h,1≤p.2):0≤wAll h:=Int.le_trans (M1_ (Ih_ hp) ⟨#[]⟩).1 (M1_ (Ih_ hp) ⟨#[]⟩).2
section
variable {c:Cfg} {t:List Int}
theorem ShKn.nil:ShKn c t ⟨[],[]⟩ fun _=>[]:=
 ⟨by simp[ShM.ws],⟨fun _=>[],fun w=>rfl,by simp,by simp⟩,by simp,fun w=>by simp[wAll,mostW]⟩
theorem TierKn.addE {h:Hist} {X:Ao_} (H:TierKn c t h X) (hc:A7_ c) {w:Int} (hk:0<k.size∧k.size≤255) (hw:1≤w) (hs:wAll h+w≤mostW):TierKn c t (h++[(k,w)]) (X.addE c t k w):=by
 have h1:X.sum+w≤mostW:=by rw[H.sum];exact hs
 have e:X.err k w=0:=by unfold Ao_.err;rw[if_neg (by omega),if_neg (by omega),if_neg (by omega),if_neg (by omega)]
 unfold Ao_.addE;rw[if_pos e];exact H.add hc hk hw h1
theorem cn_ {l:List Int} (h:l.Pairwise (·<·)) {i j:Nat} {x y:Int} (hi:l[i]?=some x) (hj:l[j]?=some y) (hij:i<j):x<y:=by
 obtain⟨h1,rfl⟩:=gs_ hi;obtain⟨h2,rfl⟩:=gs_ hj;exact List.pairwise_iff_getElem.1 h i j h1 h2 hij
theorem Vi_ {l:List Int} (h:l.Pairwise (·<·)) {i j:Nat} {x:Int} (hi:l[i]?=some x) (hj:l[j]?=some x):i=j:=by
 rcases Nat.lt_trichotomy i j with h1|h1|h1
 ·have:=cn_ h hi hj h1;omega
 ·exact h1
 ·have:=cn_ h hj hi h1;omega
theorem gc_ {l:List Int} {w:Int} (h:l.Pairwise (·<·)) (hn:w∉l) :(l.take (cntW l w)++[w]++l.drop (cntW l w)).Pairwise (·<·):=by
 have hle:=Ku_ (w:=w) (ws:=l)
 have ht:∀y∈l.take (cntW l w),y<w:=fun y hy=>by
  obtain⟨i,hi,e⟩:=List.getElem_of_mem hy;rw[lk_] at hi;rw[List.getElem_take] at e;exact Ox_ (ws:=l) (w:=w) (j:=i) (by omega) (by rw[gq_ (by omega),e])
 have hd:∀y∈l.drop (cntW l w),w<y:=fun y hy=>by
  obtain⟨i,hi,e⟩:=List.getElem_of_mem hy;rw[List.length_drop] at hi;rw[List.getElem_drop] at e;have h0:¬l[cntW l w]<w:=Pr_ (ws:=l) (w:=w) (gq_ (by omega))
  have h1:l[cntW l w]≠w:=fun e=>hn (e▸mg_ _)
  rcases Nat.eq_zero_or_pos i with rfl|hp
  ·simp only[Nat.add_zero] at e;omega
  ·have:=List.pairwise_iff_getElem.1 h (cntW l w) (cntW l w+i) (by omega) (by omega) (by omega)
   omega
 rw[List.append_assoc,List.pairwise_append];refine⟨List.Pairwise.sublist (List.take_sublist _ _) h,?_,?_⟩
 ·rw[List.singleton_append,List.pairwise_cons]
  exact⟨hd,List.Pairwise.sublist (List.drop_sublist _ _) h⟩
 ·intro y hy z hz
  rw[List.singleton_append,List.mem_cons] at hz
  rcases hz with rfl|hz
  ·exact ht y hy
  ·have:=ht y hy;have:=hd z hz;omega
theorem az_ {L:List (Int×Ao_)} {x:B4_} (h :(L.map (·.1)).Pairwise (·<·)) :((tsAdd c t L x).map (·.1)).Pairwise (·<·)∧∀w,w∈(tsAdd c t L x).map (·.1)↔w=x.win∨w∈L.map (·.1):=by
 unfold tsAdd
 split
 ·rename_i i hi
  obtain⟨h1,_⟩:=Cz_ hi
  have e :(L.set i (x.win,(((L[i]?).map (·.2)).getD (tier0 c)).addE c t x.it.key x.it.weight)).map (·.1)=L.map (·.1):=by
   rw[List.map_set]
   refine List.ext_getElem? fun j=>?_
   rw[List.getElem?_set]
   split
   ·rename_i e;subst e
    have:=(gs_ h1).1
    rw[if_pos this,h1]
   ·rfl
  rw[e];exact⟨h,fun w=>⟨.inr,fun hw=>hw.elim (fun e=>e▸mo_ h1) id⟩⟩
 ·rename_i hi
  have hn:=C0_.1 hi
  have e :(L.take (cntW (L.map (·.1)) x.win)++[(x.win,(tier0 c).addE c t x.it.key x.it.weight)]++L.drop (cntW (L.map (·.1)) x.win)).map (·.1) =(L.map (·.1)).take (cntW (L.map (·.1)) x.win)++[x.win]++(L.map (·.1)).drop (cntW (L.map (·.1)) x.win):=by
   simp[List.map_take,List.map_drop]
  rw[e];exact⟨gc_ h hn,fun w=>mem_ins⟩
theorem Ua_ {S:ShM} {E:Int→Hist} (hc:A7_ c) (h:ShKn c t S E):ShKn c t (stepS c t S) E:=by
 obtain⟨H,hE,hk,hn⟩:=h.ex;unfold stepS
 split
 ·exact h
 ·rename_i x q hq
  obtain⟨hA,hM⟩:=az_ (c:=c) (t:=t) (x:=x) h.asc;have hEx:=hE x.win;rw[hq,Gn_,if_pos rfl] at hEx;have hgx:=h.good x.win (x.it.key,x.it.weight) (by rw[hEx];simp);have hmx:=h.most x.win;rw[hEx,E5_,E5_] at hmx
  have hqn:0≤wAll (qHist q x.win):=Us_ fun p hp=>(h.good x.win p (by rw[hEx];simp[hp])).2
  have h1w:wAll [(x.it.key,x.it.weight)]=x.it.weight:=by simp[wAll]
  have hadd:∀X,TierKn c t (H x.win) X→TierKn c t (H x.win++[(x.it.key,x.it.weight)]) (X.addE c t x.it.key x.it.weight):=fun X hX=>hX.addE hc hgx.1 hgx.2 (by omega)
  refine⟨hA,⟨fun w=>if w=x.win then H w++[(x.it.key,x.it.weight)] else H w,fun w=>?_,fun j p hj=>?_,fun w hw=>?_⟩,h.good,h.most⟩
  ·rw[hE w,hq,Gn_]
   show _ =(if w=x.win then H w++[(x.it.key,x.it.weight)] else H w)++qHist q w
   by_cases e:w=x.win
   ·rw[if_pos e.symm,if_pos e,List.append_assoc]
   ·rw[if_neg (Ne.symm e),if_neg e];rfl
  ·dsimp only
   replace hj :(tsAdd c t S.ts x)[j]?=some p:=hj;unfold tsAdd at hj
   split at hj
   ·rename_i i hi
    obtain⟨h1,_⟩:=Cz_ hi;rw[List.getElem?_set] at hj
    split at hj
    ·rename_i e;subst e
     rw[List.getElem?_map] at h1
     cases hL:S.ts[i]? with
     | none=>rw[hL] at h1;simp at h1
     | some p0=>
      rw[hL] at h1 hj
      have hw0:p0.1=x.win:=by simpa using h1
      have hlt:=(gs_ hL).1;rw[if_pos hlt] at hj;cases hj;dsimp only;rw[if_pos rfl];have h3:=hk i p0 hL;rw[hw0] at h3;exact hadd _ h3
    ·rename_i e
     have hpn:p.1≠x.win:=fun e2=>e (Vi_ h.asc (x:=x.win) h1 (by show(S.ts.map (·.1))[j]?=_;rw[List.getElem?_map,hj];simp[e2]))
     rw[if_neg hpn];exact hk j p hj
   ·rename_i hi
    have hnw:=C0_.1 hi;rw[If_ (by have:=Ku_ (w:=x.win) (ws:=S.ts.map (·.1));simpa using this)] at hj
    have hold:∀j',S.ts[j']?=some p→TierKn c t (if p.1=x.win then H p.1++[(x.it.key,x.it.weight)] else H p.1) p.2:=fun j' hj'=>by
     have hpn:p.1≠x.win:=fun e2=>hnw (e2▸List.mem_map_of_mem (mo_ hj'))
     rw[if_neg hpn];exact hk j' p hj'
    split at hj
    ·exact hold _ hj
    ·split at hj
     ·cases hj
      dsimp only;rw[if_pos rfl,hn x.win hnw];exact TierKn.addE (TierKn.new t hc) hc hgx.1 hgx.2 (by rw[hn x.win hnw] at hmx;omega)
     ·exact hold _ hj
  ·have hw2:¬(w=x.win∨w∈S.ts.map (·.1)):=fun e=>hw ((hM w).2 e)
   rw[not_or] at hw2;dsimp only;rw[if_neg hw2.1];exact hn w hw2.2
theorem Rf_ {S:ShM} {E:Int→Hist} (hc:A7_ c) (h:ShKn c t S E):∀n,ShKn c t (stepsS c t n S) E
 | 0=>h
 | n+1=>Ua_ hc (Rf_ hc h n)
theorem Pc_ (S:ShM) :(stepS c t S).queue=S.queue.drop 1:=by
 unfold stepS
 split
 ·rename_i h;rw[h];rfl
 ·rename_i x q h;rw[h];rfl
theorem G0_ (S:ShM):∀n,(stepsS c t n S).queue=S.queue.drop n
 | 0=>rfl
 | n+1=>by show(stepS c t _).queue=_;rw[Pc_,G0_ S n,List.drop_drop]
theorem Xz_ {q:List B4_} {win:Int}:∀k,k≤q.length→∀j (hj:j<q.length),untilQ (q.take k) win≤j→j<k→¬q[j].win≤win:=by
 intro k
 induction k with
 | zero=>intro _ j _ _ h;omega
 | succ k ih=>
  intro hk j hj hu hjk;rw[Fk_ win (by omega)] at hu
  split at hu
  ·omega
  ·rename_i h1
   rcases Nat.lt_or_ge j k with h2|h2
   ·exact ih (by omega) j hj hu h2
   ·obtain rfl:j=k:=by omega
    exact h1
theorem Ig_ {S:ShM} {win w:Int} (h:w≤win):qHist (drainS c t S win).queue w=[]:=by
 refine S9_ fun x hx e=>?_
 unfold drainS at hx;rw[G0_] at hx;obtain⟨j,hj,rfl⟩:=List.getElem_of_mem hx;rw[List.length_drop] at hj;rw[List.getElem_drop] at e
 have:=Xz_ (q:=S.queue) (win:=win) S.queue.length (le_ _) (untilQ S.queue win+j) (by omega) (by rw[List.take_length];omega) (by omega)
 omega
theorem Qz_ {S:ShM} {E:Int→Hist} (hc:A7_ c) (h:ShKn c t S E) (win:Int):ShKn c t (drainS c t S win) E:=Rf_ hc h _
theorem Zz_ {S:ShM} {E:Int→Hist} (h:ShKn c t S E) {win:Int} (hq:qHist S.queue win=[]):ShKn c t (closeS S win) fun w=>if w=win then [] else E w:=by
 obtain⟨H,hE,hk,hn⟩:=h.ex
 have hgood:∀w,∀p∈(if w=win then [] else E w),(0<p.1.size∧p.1.size≤255)∧1≤p.2:=fun w p hp=>by
  split at hp
  ·simp at hp
  ·exact h.good w p hp
 have hmost:∀w,wAll (if w=win then [] else E w)≤mostW:=fun w=>by
  split
  ·simp[wAll,mostW]
  ·exact h.most w
 have hE2:∀w,(if w=win then [] else E w) =(if w=win then [] else H w)++qHist S.queue w:=fun w=>by
  by_cases e:w=win
  ·rw[if_pos e,if_pos e,e,hq];rfl
  ·rw[if_neg e,if_neg e];exact hE w
 unfold closeS
 split
 ·rename_i i hi
  obtain⟨h1,_⟩:=Cz_ hi
  have hlt:i<S.ts.length:=by have:=ew_ hi;simpa [ShM.ws] using this
  have hget:∀(j:Nat) (p:Int×Ao_),(S.ts.take i++S.ts.drop (i+1))[j]?=some p→∃j',j'≠i∧S.ts[j']?=some p:=fun j p hj=>by
   rcases Nat.lt_or_ge j i with h2|h2
   ·rw[List.getElem?_append_left (by simp;omega),List.getElem?_take_of_lt h2] at hj
    exact⟨j,by omega,hj⟩
   ·rw[List.getElem?_append_right (by simp;omega),List.getElem?_drop] at hj
    exact⟨_,by simp;omega,hj⟩
  have hne:∀(j:Nat) (p:Int×Ao_),(S.ts.take i++S.ts.drop (i+1))[j]?=some p→p.1≠win∧∃j',S.ts[j']?=some p:=fun j p hj=>by
   obtain⟨j',h2,h3⟩:=hget j p hj;exact⟨fun e=>h2 (Vi_ h.asc (x:=win) (by show(S.ts.map (·.1))[j']?=_;rw[List.getElem?_map,h3];simp[e]) h1),j',h3⟩
  have hws :(S.ts.take i++S.ts.drop (i+1)).map (·.1)=S.ws.take i++S.ws.drop (i+1):=by simp[ShM.ws,List.map_take,List.map_drop]
  refine⟨?_,⟨fun w=>if w=win then [] else H w,hE2,fun j p hj=>?_,fun w hw=>?_⟩,hgood,hmost⟩
  ·show((S.ts.take i++S.ts.drop (i+1)).map (·.1)).Pairwise (·<·)
   rw[hws];have h3:=h.asc;rw[←List.take_append_drop i S.ws,List.pairwise_append] at h3;refine List.pairwise_append.2 ⟨h3.1,List.Pairwise.sublist (List.drop_sublist 1 _ |> fun s=>by rw[List.drop_drop] at s;exact s) h3.2.1,fun a ha b hb=>h3.2.2 a ha b ?_⟩
   have:b∈(S.ws.drop i).drop 1:=by rw[List.drop_drop];exact hb
   exact List.mem_of_mem_drop this
  ·obtain⟨h2,j',h3⟩:=hne j p hj
   dsimp only;rw[if_neg h2];exact hk j' p h3
  ·dsimp only
   by_cases e:w=win
   ·rw[if_pos e]
   ·rw[if_neg e]
    refine hn w fun hw2=>hw ?_
    show w∈(S.ts.take i++S.ts.drop (i+1)).map (·.1)
    rw[hws];obtain⟨j,hj,e2⟩:=List.getElem_of_mem hw2
    have hji:j≠i:=fun e3=>by subst e3;rw[gq_ hj,e2] at h1;exact e (Option.some.inj h1)
    rcases Nat.lt_or_ge j i with h2|h2
    ·refine List.mem_append_left _ ?_
     rw[List.mem_iff_getElem?];exact⟨j,by rw[List.getElem?_take_of_lt h2,gq_ hj,e2]⟩
    ·refine List.mem_append_right _ ?_
     rw[List.mem_iff_getElem?];exact⟨j-(i+1),by rw[List.getElem?_drop,show i+1+(j-(i+1))=j by omega,gq_ hj,e2]⟩
 ·rename_i hi
  have hnw:=C0_.1 hi;refine⟨h.asc,⟨fun w=>if w=win then [] else H w,hE2,fun j p hj=>?_,fun w hw=>?_⟩,hgood,hmost⟩
  ·have:p.1≠win:=fun e=>hnw (e▸List.mem_map_of_mem (mo_ hj))
   dsimp only;rw[if_neg this];exact hk j p hj
  ·dsimp only
   split
   ·rfl
   ·exact hn w hw
theorem f8_ {S:ShM} {E:Int→Hist} (h:ShKn c t S E) {win:Int} {it:ItR} (hk:0<it.key.size∧it.key.size≤255) (hw:1≤it.weight) (hs:wAll (E win)+it.weight≤mostW):ShKn c t (pushS S win it) fun w=>if w=win then E w++[(it.key,it.weight)] else E w:=by
 obtain⟨H,hE,hk',hn⟩:=h.ex;refine⟨h.asc,⟨H,fun w=>?_,hk',hn⟩,fun w p hp=>?_,fun w=>?_⟩
 ·show(if w=win then E w++[(it.key,it.weight)] else E w)=H w++qHist (S.queue++[⟨win,it⟩]) w
  rw[Uu_,Gn_,Vj_,List.append_nil,←List.append_assoc,←hE w]
  by_cases e:w=win
  ·rw[if_pos e,if_pos e.symm]
  ·rw[if_neg e,if_neg (Ne.symm e),List.append_nil]
 ·split at hp
  ·rcases ma_ hp with hp|hp
   ·exact h.good w p hp
   ·rw[ms_ hp];exact⟨hk,hw⟩
  ·exact h.good w p hp
 ·split
  ·rename_i e
   rw[E5_,e]
   simp[wAll];exact hs
  ·exact h.most w
theorem ShKn.tier {S:ShM} {E:Int→Hist} (h:ShKn c t S E) {win:Int} (hq:qHist S.queue win=[]) :(∀X,tierAt S.ts win=some X→TierKn c t (E win) X)∧(tierAt S.ts win=none→E win=[]):=by
 obtain⟨H,hE,hk,hn⟩:=h.ex
 have e:E win=H win:=by rw[hE win,hq,List.append_nil]
 unfold tierAt
 cases hp:posW (S.ts.map (·.1)) win with
 | none=>exact⟨fun X hX=>(by cases hX),fun _=>by rw[e];exact hn win (C0_.1 hp)⟩
 | some i=>
  obtain⟨h1,_⟩:=Cz_ hp;rw[List.getElem?_map] at h1
  cases hL:S.ts[i]? with
  | none=>rw[hL] at h1;simp at h1
  | some p=>
   rw[hL] at h1
   have hw0:p.1=win:=by simpa using h1
   have h3:=hk i p hL;rw[hw0,←e] at h3;simp only[hL,Option.map_some,Option.some.injEq];exact⟨fun X hX=>hX▸h3,fun hX=>by cases hX⟩
end
end
section
open Go.RowKit Go.Sort
theorem B8_ {f g:Int→Int}:∀{is:List Int},(∀i∈is,f i=g i)→sumI f is=sumI g is
 | [],_=>rfl
 | i::is,h=>by rw[Av_,Av_,h i (by simp),B8_ fun x hx=>h x (by simp[hx])]
theorem K4_ {f g:Int→Int} {d j:Int}:∀{is:List Int},is.Nodup→j∈is→(∀i∈is,i≠j→g i=f i)→g j=f j+d→sumI g is=sumI f is+d
 | [],_,h,_,_=>by simp at h
 | i::is,hn,hj,h1,h2=>by
  rw[Av_,Av_];obtain⟨hn1,hn2⟩:=List.nodup_cons.1 hn
  by_cases e:i=j
  ·subst e
   rw[h2,B8_ (g:=f) fun x hx=>h1 x (by simp[hx]) fun e=>hn1 (e▸hx)]
   omega
  ·rw[h1 i (by simp) e,K4_ hn2 (by rcases List.mem_cons.1 hj with rfl|hj;exact absurd rfl e;exact hj) (fun x hx=>h1 x (by simp[hx])) h2]
   omega
theorem Wu_ {f:Int→Int} {j:Int}:∀{is:List Int},(∀i∈is,0≤f i)→j∈is→f j≤sumI f is
 | [],_,h=>by simp at h
 | i::is,h,hj=>by
  rw[Av_]
  have h1:=Fm_ (f:=f) (is:=is) fun x hx=>h x (by simp[hx])
  have h2:=h i (by simp)
  rcases List.mem_cons.1 hj with rfl|hj
  ·omega
  ·have:=Wu_ (f:=f) (is:=is) (fun x hx=>h x (by simp[hx])) hj
   omega
theorem Gf_ {f:Int→Int} {is:List Int} (h:∀i∈is,f i=0):sumI f is=0:=by
 induction is with
 | nil=>rfl
 | cons i is ih=>rw[Av_,h i (by simp),ih fun x hx=>h x (by simp[hx])];rfl
def itHist (c:Cfg) (l:List ItR) (w:Int):Hist:=(l.filter fun x=>decide (winV c x.time=w)).map fun x=>(x.key,x.weight)
theorem D1_ (c:Cfg) (l:List ItR) (x:ItR) (w:Int):itHist c (l++[x]) w=itHist c l w++(if winV c x.time=w then [(x.key,x.weight)] else []):=by
 unfold itHist;rw[List.filter_append,List.map_append]
 by_cases h:winV c x.time=w
 ·rw[if_pos h,List.filter_cons_of_pos (by simpa using h)];rfl
 ·rw[if_neg h,List.filter_cons_of_neg (by simpa using h)];rfl
def allW (E:Nat→Int→Hist) (w:Int) (n:Nat):Int:=sumI (fun i=>wAll (E i.toNat w)) (rangeI n)
def allK (E:Nat→Int→Hist) (w:Int) (k:ByteArray) (n:Nat):Int:=sumI (fun i=>wOf (E i.toNat w) k) (rangeI n)
structure CluKn (c:Cfg) (t:List Int) (K:CluM) (E:Nat→Int→Hist):Prop where
 len :(K.sh.length:Int)=c.Shards
 sh:∀(i:Nat) S,K.sh[i]?=some S→ShKn c t S (E i)
 place:∀(i:Nat) w,∀p∈E i w,(i:Int)∈setF c t p.1∧splitE p.1=0
 asc:Asc K.led
 tot:∀w,allW E w K.sh.length=ldAt K.led w
 most:∀w,ldAt K.led w≤mostW
 win:∀w∈K.led.map (·.1),0≤w∧w≤1099511627776
 mark:0≤K.mark∧K.mark≤1099511627776
 items:∀w,(w<lowV c K.mark∧w∉K.led.map (·.1)∧∀i,E i w=[])∨((∀k,allK E w k K.sh.length=wOf (itHist c K.items w) k)∧ldAt K.led w=wAll (itHist c K.items w))
 rej:K.rej.length=7∧K.rej[0]?=some 0
section
variable {c:Cfg} {t:List Int} {K:CluM} {E:Nat→Int→Hist}
theorem Ry_ (hn:CfgNums c):cok c=true:=by
 have h1:=hn.length;have h2:=hn.lateness;have h3:=hn.windows;unfold cok;exact dt_ (by omega)
theorem CluKn.ofSh (h:CluKn c t K E) {i:Nat} (hi:i<K.sh.length):ShKn c t K.sh[i] (E i):=h.sh i _ (gq_ hi)
theorem CluKn.nn (h:CluKn c t K E) {w:Int}:∀i∈rangeI K.sh.length,0≤wAll (E i.toNat w):=fun i hi=>by
 have:=A6_.1 hi
 exact Us_ fun p hp=>((h.ofSh (i:=i.toNat) (by omega)).good w p hp).2
theorem Y5_ (hs:1≤c.Shards) (hp:1≤c.Spread) (k:ByteArray) (n:Int):routeF c t k n∈setF c t k∧0≤routeF c t k n∧routeF c t k n<c.Shards:=by
 have h1:=Int.emod_nonneg n (show c.Spread≠0 by omega);have h2:=Int.emod_lt_of_pos n (show 0<c.Spread by omega);have hl :(setF c t k).length=c.Spread.toNat:=Fu_ _ _ _
 have hm:routeF c t k n∈setF c t k:=by
  unfold routeF;rw[List.getD_eq_getElem?_getD,gq_ (by omega),Option.getD_some];exact mg_ _
 exact⟨hm,Ei_ hs _ hm⟩
theorem CluKn.new (hn:CfgNums c):CluKn c t (newK c.Shards.toNat) fun _ _=>[]:=by
 have:=hn.shards
 have hz:∀w n,allW (fun _ _=>[]) w n=0:=fun w n=>Gf_ fun _ _=>rfl
 have hz2:∀w k n,allK (fun _ _=>[]) w k n=0:=fun w k n=>Gf_ fun _ _=>rfl
 refine⟨by simp[newK];omega,fun i S hS=>?_,by simp,by simp[newK,Asc],fun w=>by rw[hz];rfl,fun w=>by simp[newK,ldAt,mostW],by simp[newK],by simp[newK],fun w=>.inr ⟨fun k=>by rw[hz2];rfl,rfl⟩,by simp[newK]⟩;have e:S =⟨[],[]⟩:=List.eq_of_mem_replicate (mo_ hS);subst e;exact .nil
theorem CluKn.inp (hn:CfgNums c) (h:CluKn c t K E) {x:InpR} (hx:InpOk c.Key x):∃E',CluKn c t (inpK c t K x).1 E':=by
 by_cases hv :(judgeV c t K x).1=0
 case neg=>
  rw[K8_ hv];refine⟨E,h.len,h.sh,h.place,h.asc,h.tot,h.most,h.win,h.mark,h.items,?_,?_⟩
  ·dsimp only;rw[bd_];exact h.rej.1
  ·dsimp only
   unfold rejR
   split
   ·exact h.rej.2
   ·rw[List.getElem?_set_ne (by omega)];exact h.rej.2
 case pos=>
  rw[Lx_ hv];obtain⟨h1,h2,h3,h4,_⟩:=F9_ hv;obtain⟨g1,L,g2,g3,g4⟩:=hx.good h1;have hsh:=hn.shards;obtain⟨r1,r2,r3⟩:=Y5_ (c:=c) (t:=t) hsh.1 hn.spread.1 x.it.key K.acc;have hsz:0<x.it.key.size∧x.it.key.size≤255:=⟨by rw[g3];exact Ld_ g2,hx.size⟩
  have hfit:ldAt K.led (winV c x.it.time)+x.it.weight≤mostW:=by
   have:=of_decide_eq_true h3
   exact this
  have hlow:¬winV c x.it.time<lowV c K.mark:=fun hl=>by
   have hb :(cok c&&tok K.mark&&tok x.it.time)=true:=by
    have:=h.mark;have:=hx.time
    rw[Ry_ hn]
    simp[tok];omega
   rw[Ml_ hb hl] at h2;cases h2
  have hwb:=Ks_ c x.it.time;have hlen:=h.len;generalize hwin:winV c x.it.time=win at *;generalize routeF c t x.it.key K.acc=s at *;obtain⟨si,rfl⟩:∃si:Nat,s =(si:Int):=⟨s.toNat,by omega⟩
  have hsi:si<K.sh.length:=by omega
  rw[Int.toNat_natCast,gq_ hsi,Option.getD_some];have hmem :(si:Int)∈rangeI K.sh.length:=A6_.2 ⟨by omega,by omega⟩
  have hle:wAll (E si win)≤ldAt K.led win:=by
   have:=Wu_ (f:=fun i=>wAll (E i.toNat win)) h.nn hmem
   rw[←h.tot win];exact this
  let E':Nat→Int→Hist:=fun i w=>if i=si∧w=win then E i w++[(x.it.key,x.it.weight)] else E i w
  have hE1:E' si win=E si win++[(x.it.key,x.it.weight)]:=if_pos ⟨rfl,rfl⟩
  have hE2:∀i w,¬(i=si∧w=win)→E' i w=E i w:=fun i w h=>if_neg h
  have hE3:E' si=fun w=>if w=win then E si w++[(x.it.key,x.it.weight)] else E si w:=by
   funext w
   by_cases e:w=win
   ·rw[if_pos e,e];exact hE1
   ·rw[if_neg e];exact hE2 _ _ fun h=>e h.2
  have hE4:∀i,i≠si→E' i=E i:=fun i hi=>by funext w;exact hE2 _ _ fun h=>hi h.1
  have hne:∀i∈rangeI K.sh.length,i≠(si:Int)→i.toNat≠si:=fun i hi h=>by have:=A6_.1 hi;omega
  refine⟨E',by simpa using hlen,fun i S hS=>?_,fun i w p hp=>?_,Kw_ h.asc,fun w=>?_,fun w=>?_,fun w hw=>?_,h.mark,fun w=>?_,h.rej⟩
  ·dsimp only at hS
   rw[List.getElem?_set] at hS
   split at hS
   ·rename_i e;subst e
    cases hS;rw[hE3];exact f8_ (h.ofSh hsi) hsz g1 (by omega)
   ·rename_i e
    rw[hE4 i (Ne.symm e)];exact h.sh i S hS
  ·by_cases e:i=si∧w=win
   ·obtain⟨rfl,rfl⟩:=e
    rw[hE1] at hp
    rcases ma_ hp with hp|hp
    ·exact h.place _ _ p hp
    ·rw[ms_ hp]
     exact⟨r1,by rw[g3];exact Tu_ g2⟩
   ·rw[hE2 _ _ e] at hp
    exact h.place _ _ p hp
  ·show allW E' w (K.sh.set si _).length=ldAt (ldPut K.led win x.it.weight) w
   rw[List.length_set,F7_ h.asc]
   by_cases e:w=win
   ·subst e
    rw[if_pos rfl,←h.tot w];refine K4_ (Cg_ _) hmem (fun i hi hne'=>?_) ?_
    ·show wAll (E' i.toNat w)=wAll (E i.toNat w)
     rw[hE4 _ (hne i hi hne')]
    ·show wAll (E' (si:Int).toNat w)=wAll (E (si:Int).toNat w)+_
     rw[Int.toNat_natCast,hE1,E5_]
     simp[wAll]
   ·rw[if_neg e,←h.tot w]
    refine B8_ fun i hi=>?_
    show wAll (E' i.toNat w)=wAll (E i.toNat w)
    rw[hE2 _ _ fun h=>e h.2]
  ·show ldAt (ldPut K.led win x.it.weight) w≤mostW
   rw[F7_ h.asc]
   split
   ·exact hfit
   ·exact h.most w
  ·obtain⟨q,hq,rfl⟩:=List.mem_map.1 hw
   rcases mem_ldPut hq with e|hq
   ·rw[e];exact hwb
   ·exact h.win _ (List.mem_map_of_mem hq)
  ·by_cases e:w=win
   ·subst e
    rcases h.items w with hl |⟨hk,ha⟩
    ·exact absurd hl.1 hlow
    ·refine .inr ⟨fun k=>?_,?_⟩
     ·show allK E' w k (K.sh.set si _).length=wOf (itHist c (K.items++[x.it]) w) k
      have e2:winV c x.it.time=w:=hwin;rw[List.length_set,D1_,if_pos e2,Ok_,←hk k];refine K4_ (Cg_ _) hmem (fun i hi hne'=>?_) ?_
      ·show wOf (E' i.toNat w) k=wOf (E i.toNat w) k
       rw[hE4 _ (hne i hi hne')]
      ·show wOf (E' (si:Int).toNat w) k=wOf (E (si:Int).toNat w) k+_
       rw[Int.toNat_natCast,hE1,Ok_]
     ·show ldAt (ldPut K.led w x.it.weight) w=wAll (itHist c (K.items++[x.it]) w)
      have e2:winV c x.it.time=w:=hwin;rw[F7_ h.asc,if_pos rfl,D1_,if_pos e2,E5_,ha]
      simp[wAll]
   ·have e2:¬winV c x.it.time=w:=fun e3=>e (e3.symm.trans hwin)
    rcases h.items w with⟨a,b,d⟩ |⟨hk,ha⟩
    ·refine .inl ⟨a,fun hw=>?_,fun i=>by rw[hE2 _ _ fun h=>e h.2];exact d i⟩
     have hw':w∈(ldPut K.led win x.it.weight).map (·.1):=hw;rw[←Di_,Na_] at hw';rw[←Di_] at b
     simp[e] at hw'
     exact b hw'
    ·refine .inr ⟨fun k=>?_,?_⟩
     ·show allK E' w k (K.sh.set si _).length=wOf (itHist c (K.items++[x.it]) w) k
      rw[List.length_set,D1_,if_neg e2,List.append_nil,←hk k]
      refine B8_ fun i hi=>?_
      show wOf (E' i.toNat w) k=wOf (E i.toNat w) k
      rw[hE2 _ _ fun h=>e h.2]
     ·show ldAt (ldPut K.led win x.it.weight) w=wAll (itHist c (K.items++[x.it]) w)
      rw[F7_ h.asc,if_neg e,D1_,if_neg e2,List.append_nil,ha]
theorem CluKn.close (hc:A7_ c) (h:CluKn c t K E) {win:Int} (hw:win<lowV c K.mark):∃E',CluKn c t (closeK c t K win) E':=by
 let E':Nat→Int→Hist:=fun i w=>if w=win then [] else E i w
 have hE1:∀i,E' i win=[]:=fun i=>if_pos rfl
 have hE2:∀i w,w≠win→E' i w=E i w:=fun i w h=>if_neg h
 have hlen :(closeK c t K win).sh.length=K.sh.length:=List.length_map _
 have hno:win∉(ldDel K.led win).map (·.1):=fun hm=>by
  rw[←Di_,H6_ h.asc] at hm
  simp at hm
 refine⟨E',by rw[hlen];exact h.len,fun i S hS=>?_,fun i w p hp=>?_,I8_ h.asc,fun w=>?_,fun w=>?_,fun w hw=>?_,h.mark,fun w=>?_,h.rej⟩
 ·have hS' :(K.sh.map fun S=>closeS (drainS c t S win) win)[i]?=some S:=hS
  rw[List.getElem?_map] at hS'
  cases hL:K.sh[i]? with
  | none=>rw[hL] at hS';simp at hS'
  | some S0=>
   rw[hL] at hS';simp only[Option.map_some,Option.some.injEq] at hS';subst hS';exact Zz_ (Qz_ hc (h.sh i S0 hL) win) (Ig_ (Int.le_refl _))
 ·by_cases e:w=win
  ·rw[e,hE1] at hp;simp at hp
  ·rw[hE2 i w e] at hp;exact h.place i w p hp
 ·rw[hlen]
  show allW E' w K.sh.length=ldAt (ldDel K.led win) w
  rw[Hj_ h.asc]
  by_cases e:w=win
  ·rw[if_pos e,e]
   refine Gf_ fun i _=>?_
   show wAll (E' i.toNat win)=0
   rw[hE1];rfl
  ·rw[if_neg e,←h.tot w]
   refine B8_ fun i _=>?_
   show wAll (E' i.toNat w)=wAll (E i.toNat w)
   rw[hE2 _ _ e]
 ·show ldAt (ldDel K.led win) w≤mostW
  rw[Hj_ h.asc]
  split
  ·simp[mostW]
  ·exact h.most w
 ·obtain⟨q,hq,rfl⟩:=List.mem_map.1 hw
  exact h.win _ (List.mem_map_of_mem (Do_ hq))
 ·by_cases e:w=win
  ·subst e
   exact .inl ⟨hw,hno,hE1⟩
  ·rcases h.items w with⟨a,b,d⟩ |⟨hk,ha⟩
   ·refine .inl ⟨a,fun hm=>?_,fun i=>by rw[hE2 i w e];exact d i⟩
    obtain⟨q,hq,rfl⟩:=List.mem_map.1 hm;exact b (List.mem_map_of_mem (Do_ hq))
   ·refine .inr ⟨fun k=>?_,?_⟩
    ·rw[hlen]
     show allK E' w k K.sh.length=wOf (itHist c K.items w) k
     rw[←hk k]
     refine B8_ fun i _=>?_
     show wOf (E' i.toNat w) k=wOf (E i.toNat w) k
     rw[hE2 _ _ e]
    ·show ldAt (ldDel K.led win) w=wAll (itHist c K.items w)
     rw[Hj_ h.asc,if_neg e,ha]
theorem Y8_ (hn:CfgNums c) (h:ReachK c t K):∃E,CluKn c t K E:=by
 induction h with
 | new=>exact⟨_,.new hn⟩
 | str s _ ih=>obtain⟨E,a⟩:=ih;exact⟨E,a.len,a.sh,a.place,a.asc,a.tot,a.most,a.win,a.mark,a.items,a.rej⟩
 | @mark K0 time ht _ ih=>
  obtain⟨E,a⟩:=ih;have hm:=a.mark;refine⟨E,a.len,a.sh,a.place,a.asc,a.tot,a.most,a.win,⟨by dsimp only;omega,by dsimp only;omega⟩,fun w=>(a.items w).imp (fun h=>⟨?_,h.2⟩) id,a.rej⟩;have hle:=Ty_ (c:=c) (Ry_ hn) hm.1 (m':=max K0.mark time) (by omega) (by omega);exact Int.lt_of_lt_of_le h.1 hle
 | inp x hx _ ih=>obtain⟨E,a⟩:=ih;exact a.inp hn hx
 | close win hw _ ih=>obtain⟨E,a⟩:=ih;exact a.close hn.tier.cfg hw
 | @step K0 i _ ih=>
  obtain⟨E,a⟩:=ih
  have hl:∀K:CluM,(K.sh.modify i (stepS c t)).length=K.sh.length:=fun K=>List.length_modify _ _ _
  refine⟨E,by rw[hl];exact a.len,fun j S hS=>?_,a.place,a.asc,fun w=>by rw[hl];exact a.tot w,a.most,a.win,a.mark,fun w=>by rw[hl];exact a.items w,a.rej⟩;have hS':=hS;replace hS' :(K0.sh.modify i (stepS c t))[j]?=some S:=hS';rw[List.getElem?_modify] at hS'
  cases hL:K0.sh[j]? with
  | none=>rw[hL] at hS';simp at hS'
  | some S0=>
   rw[hL] at hS';have h0:=a.sh j S0 hL
   by_cases e:i=j
   ·subst e
    have e2:stepS c t S0=S:=by simpa using hS'
    exact e2▸Ua_ hn.tier.cfg h0
   ·have e2:S0=S:=by simpa [e] using hS'
    exact e2▸h0
end
end
section
open Go.RowKit Go.Sort
theorem Tz_ {x y z:Ln} (h1:befB x y=true) (h2:befB y z=true):befB x z=true:=by
 simp only[befB,Bool.or_eq_true,Bool.and_eq_true,decide_eq_true_eq] at h1 h2 ⊢
 rcases h1 with h1 |⟨h1,k1⟩ <;> rcases h2 with h2 |⟨h2,k2⟩
 ·left;omega
 ·left;omega
 ·left;omega
 ·exact .inr ⟨by omega,List.lt_trans k1 k2⟩
theorem W3_ {x y:Ln} (hk:x.key.data.toList≠y.key.data.toList) (h:befB x y=false):befB y x=true:=by
 by_cases e:x.hi<y.hi
 ·simp[befB,e]
 ·by_cases e2:y.hi<x.hi
  ·simp[befB,e2] at h
  ·have e3:x.hi=y.hi:=by omega
   by_cases e4:x.key.data.toList<y.key.data.toList
   ·simp[befB,e3,e4] at h
   ·have e5:y.key.data.toList<x.key.data.toList:=by
     by_cases e6:y.key.data.toList<x.key.data.toList
     ·exact e6
     ·exact absurd (List.le_antisymm (List.not_lt.1 e6) (List.not_lt.1 e4)) hk
    simp[befB,e3,e5]
theorem M8_ (x:Ln) (L:List Ln):∀k,k≤L.length→(∀j (hj:j<L.length),insK x L k≤j→j<k→befB x L[j]=true)∧∀m (hm:m<L.length),insK x L k=m+1→befB x L[m]=false
 | 0,_=>⟨fun j _ _ h=>absurd h (by omega),fun m _ h=>by simp[insK] at h⟩
 | k+1,hk=>by
  have hlt:k<L.length:=by omega
  obtain⟨h1,h2⟩:=M8_ x L k (by omega)
  have e:insK x L (k+1)=if befB x L[k]=true then insK x L k else k+1:=by
   rw[insK,gq_ hlt];rfl
  by_cases hb:befB x L[k]=true
  ·rw[e,if_pos hb]
   refine⟨fun j hj ha hjk=>?_,h2⟩
   by_cases hjk2:j<k
   ·exact h1 j hj ha hjk2
   ·obtain rfl:j=k:=by omega
    exact hb
  ·rw[e,if_neg hb]
   refine⟨fun j hj ha hjk=>absurd ha (by omega),fun m hm hme=>?_⟩
   obtain rfl:m=k:=by omega
   simpa using hb
theorem insL_sorted {L:List Ln} {x:Ln} (h:L.Pairwise fun a b=>befB a b=true) (hk:∀y∈L,x.key.data.toList≠y.key.data.toList) :(insL L x).Pairwise fun a b=>befB a b=true:=by
 obtain⟨h1,h2⟩:=M8_ x L L.length (le_ _);have hle:=K9_ x L L.length;unfold insL;generalize insK x L L.length=p at *
 have hpre:∀j (hj:j<L.length),j<p→befB L[j] x=true:=by
  intro j hj hjp;obtain⟨m,rfl⟩:∃m,p=m+1:=⟨p-1,by omega⟩
  have hm:m<L.length:=by omega
  have hx:=W3_ (hk _ (mg_ hm)) (h2 m hm rfl)
  by_cases e:j=m
  ·subst e;exact hx
  ·exact Tz_ (List.pairwise_iff_getElem.1 h j m hj hm (by omega)) hx
 have htd:L.take p++L.drop p=L:=List.take_append_drop p L;have h':=h;rw[←htd,List.pairwise_append] at h';obtain⟨a1,a2,a3⟩:=h';rw[List.append_assoc,List.pairwise_append];refine⟨a1,?_,?_⟩
 ·rw[List.singleton_append,List.pairwise_cons]
  refine⟨fun y hy=>?_,a2⟩;obtain⟨i,hi,rfl⟩:=List.getElem_of_mem hy;rw[List.getElem_drop];rw[List.length_drop] at hi;exact h1 (p+i) (by omega) (by omega) (by omega)
 ·intro a ha b hb
  rw[List.singleton_append,List.mem_cons] at hb
  rcases hb with rfl|hb
  ·obtain⟨i,hi,rfl⟩:=List.getElem_of_mem ha
   rw[List.getElem_take];rw[lk_] at hi;exact hpre i (by omega) (by omega)
  ·exact a3 a ha b hb
theorem Kn_ {l:List Ln} (h :(keysN l).Nodup) :(sortLn l).Pairwise fun a b=>befB a b=true:=by
 have:∀(l a:List Ln),(a.Pairwise fun x y=>befB x y=true)→(keysN (a++l)).Nodup→((l.foldl insL a).Pairwise fun x y=>befB x y=true):=by
  intro l
  induction l with
  | nil=>intro a ha _;exact ha
  | cons x l ih=>
   intro a ha hn;simp only[List.foldl_cons];refine ih _ (insL_sorted ha fun y hy e=>?_) ?_
   ·unfold keysN at hn
    rw[List.map_append,List.nodup_append] at hn;exact hn.2.2 _ (List.mem_map.2 ⟨y,hy,rfl⟩) _ (List.mem_map.2 ⟨x,by simp,rfl⟩) e.symm
   ·have hp :(keysN (insL a x++l)).Perm (keysN (a++x::l)):=by
     unfold keysN;refine List.Perm.map _ ?_
     have:=(N5_ a x).append_right l
     simpa using this
    exact hp.nodup_iff.2 hn
 exact this l [] (by simp) (by simpa using h)
def sumB (g:Ap_→Int) (K:List Ap_):Int:=(K.map g).foldl (·+·) 0
theorem Bs_ (g:Ap_→Int) (b:Ap_) (K:List Ap_):sumB g (b::K)=g b+sumB g K:=by
 have:∀(l:List Int) (a:Int),l.foldl (·+·) a=a+l.foldl (·+·) 0:=by
  intro l
  induction l with
  | nil=>intro a;simp
  | cons x l ih=>intro a;simp only[List.foldl_cons];rw[ih (a+x),ih (0+x)];omega
 unfold sumB;simp only[List.map_cons,List.foldl_cons];rw[this];omega
theorem sumB_le {f g:Ap_→Int}:∀{K:List Ap_},(∀b∈K,f b≤g b)→sumB f K≤sumB g K
 | [],_=>Int.le_refl _
 | b::K,h=>by
  rw[Bs_,Bs_]
  have:=sumB_le fun x hx=>h x (List.mem_cons_of_mem b hx)
  have:=h b (by simp)
  omega
theorem Rw_ (f g:Ap_→Int):∀K:List Ap_,sumB (fun b=>f b+g b) K=sumB f K+sumB g K
 | []=>rfl
 | b::K=>by rw[Bs_,Bs_,Bs_,Rw_ f g K];omega
theorem Qn_ (f g:Int→Int):∀is:List Int,sumI (fun i=>f i+g i) is=sumI f is+sumI g is
 | []=>rfl
 | i::is=>by rw[Av_,Av_,Av_,Qn_ f g is];omega
theorem Np_:∀is:List Int,sumI (fun _=>0) is=0
 | []=>rfl
 | i::is=>by rw[Av_,Np_ is];omega
theorem Q8_ (f:Ap_→Int→Int) (is:List Int):∀K:List Ap_,sumB (fun b=>sumI (f b) is) K=sumI (fun i=>sumB (fun b=>f b i) K) is
 | []=>(Np_ is).symm
 | b::K=>by
  rw[Bs_,Q8_ f is K,←Qn_]
  congr 1
  funext i
  rw[Bs_]
theorem sumB_zero {g:Ap_→Int}:∀{K:List Ap_},(∀b∈K,g b=0)→sumB g K=0
 | [],_=>rfl
 | b::K,h=>by rw[Bs_,sumB_zero fun x hx=>h x (List.mem_cons_of_mem b hx),h b (by simp)];rfl
theorem My_ (c:Cfg) (t:List Int) (l:List Summ):∀K:List Ap_,loSum (K.map (lnOf c t l))=sumB (fun b=>(lineF c t l (bA b)).1) K
 | []=>rfl
 | b::K=>by rw[List.map_cons,Bw_,My_ c t l K,Bs_];rfl
theorem Tb_ {l l':List Ln} (h:l.Perm l'):loSum l=loSum l':=by
 induction h with
 | nil=>rfl
 | cons x _ ih=>rw[Bw_,Bw_,ih]
 | swap x y l=>rw[Bw_,Bw_,Bw_,Bw_];omega
 | trans _ _ ih1 ih2=>exact ih1.trans ih2
section
variable {c:Cfg} {lc:List (Int×Int)} {t:List Int} {lv:Value} {l:List Summ} {w:World}
theorem Mn_ (c:Cfg) (t:List Int) (l:List Summ):keysN (allF c t l)=keysF l:=by
 unfold keysN allF;rw[List.map_map];exact List.map_id'' (fun b=>rfl) _
theorem Oy_ (c:Cfg) (t:List Int) (l:List Summ) :(keysN (sortLn (allF c t l))).Nodup:=by
 have :(keysN (sortLn (allF c t l))).Perm (keysN (allF c t l)):=(Fa_ _).map _;rw[this.nodup_iff,Mn_];exact Fg_ l
theorem Z5_ {ls:List Ln} {un M:Int} (h:∀x∈ls,x.hi≤M) (hu:un≤M):hiMax ls un≤M:=by
 have:∀(ls:List Int) (a:Int),(∀x∈ls,x≤M)→a≤M→ls.foldl max a≤M:=by
  intro ls
  induction ls with
  | nil=>intro a _ h;exact h
  | cons x ls ih=>intro a h ha;simp only[List.foldl_cons];exact ih _ (fun y hy=>h y (List.mem_cons_of_mem x hy)) (by have:=h x (by simp);omega)
 exact this _ _ (fun x hx=>by obtain⟨y,hy,rfl⟩:=List.mem_map.1 hx;exact h y hy) hu
theorem b0_ (ls:List Ln) (un:Int):un≤hiMax ls un∧∀x∈ls,x.hi≤hiMax ls un:=by
 have:∀(ls:List Int) (a:Int),a≤ls.foldl max a∧∀x∈ls,x≤ls.foldl max a:=by
  intro ls
  induction ls with
  | nil=>intro a;exact⟨Int.le_refl _,by simp⟩
  | cons x ls ih=>
   intro a;simp only[List.foldl_cons];obtain⟨h1,h2⟩:=ih (max a x)
   exact⟨by omega,fun y hy=>by
    rcases List.mem_cons.1 hy with rfl|hy
    ·omega
    ·exact h2 y hy⟩
 obtain⟨h1,h2⟩:=this (ls.map (·.hi)) un;exact⟨h1,fun x hx=>h2 _ (List.mem_map.2 ⟨x,hx,rfl⟩)⟩
theorem Mk_ (m:Int) (n:Nat) (l:List Summ):∀k,0≤restI m n l k
 | 0=>Int.le_refl _
 | k+1=>by rw[Eo_];have:=Mk_ m n l k;omega
theorem Wp_ {x:Ln} (h:x∈bLs c t l):x∈allF c t l:=Dl_ (List.mem_of_mem_take h)
theorem e7_ {x:Ln} (h:x∈bOm c t l):x∈allF c t l:=Dl_ (List.mem_of_mem_drop h)
end
end
section
open Go.RowKit Go.Sort
theorem Lq_ {c:Cfg} (hc:A7_ c):∃d:Int,1≤d∧(∀x,limV c.Mode c.Slots x=x/d)∧∀x,(if c.Mode=1 then x/c.Slots else x/(c.Slots+1))=x/d:=by
 have h1:=hc.slots;have h2:=hc.mode;unfold limV
 by_cases hm:c.Mode=1
 ·refine⟨c.Slots,h1.1,fun x=>?_,fun x=>?_⟩
  ·rw[if_neg (by omega),if_pos hm]
  ·rw[if_pos hm]
 ·refine⟨c.Slots+1,by omega,fun x=>?_,fun x=>?_⟩
  ·rw[if_neg (by omega),if_neg hm,if_pos (by omega)]
  ·rw[if_neg hm]
theorem Xo_ (k:ByteArray):Fz_ k=hasK k:=by
 funext e
 unfold Fz_ hasK;exact fi_ _ _
theorem Sy_ {c:Cfg} {X:Ao_} (h:TierOk c X) (k:ByteArray):X.entries.find? (Fz_ k)=X.entry k:=by
 obtain⟨hp,ha⟩:=h.entries;rw[Xo_]
 show getE X.entries k=_
 cases hx:X.entry k with
 | some e=>
  obtain⟨h1,h2⟩:=Mw_ h hx;rw[←h2];exact Dx_ (Kh_ ha) h1
 | none=>
  obtain⟨h1,h2⟩:=Jz_ hx
  refine Bj_.2 fun hk=>?_
  have:k∈keysE (X.T.L.map X.T.fix++X.S):=(hp.map _).mem_iff.1 hk
  simp only[keysE,List.map_append,List.mem_append] at this
  rcases this with h3|h3
  ·exact h2 (by rw[←C6_ X.T];exact h3)
  ·exact h1 h3
structure SumT (c:Cfg) (t:List Int) (h:Hist) (s:Summ):Prop where
 total:s.total=wAll h
 nn:0≤wAll h
 untr:0≤s.untr∧s.untr≤limV c.Mode c.Slots s.total∧s.untr≤s.total
 keys:∀e∈s.es,∃p∈h,p.1=e.key
 bnd:∀k,0≤min (bndE s.es s.untr k).1 (sEstF c t s k)∧min (bndE s.es s.untr k).1 (sEstF c t s k)≤wOf h k∧wOf h k≤min (bndE s.es s.untr k).2 (sEstF c t s k)∧min (bndE s.es s.untr k).2 (sEstF c t s k)-min (bndE s.es s.untr k).1 (sEstF c t s k)≤limV c.Mode c.Slots s.total∧min (bndE s.es s.untr k).2 (sEstF c t s k)≤s.total
 size:∀e∈s.es,0<e.key.size∧e.key.size≤255
theorem Vk_ {h:Hist}:wOf h k≠0→∃p∈h,p.1=k:=by
 induction h with
 | nil=>intro h;exact absurd rfl h
 | cons p h ih=>
  intro hw;simp only[wOf] at hw
  by_cases e:p.1=k
  ·exact⟨p,by simp,e⟩
  ·rw[if_neg e] at hw
   obtain⟨q,hq,e2⟩:=ih (by omega);exact⟨q,by simp[hq],e2⟩
theorem ad_ {h:Hist} (hn:∀p∈h,p.1≠k):wOf h k=0:=by
 by_cases e:wOf h k=0
 ·exact e
 ·obtain⟨p,hp,e2⟩:=Vk_ e
  exact absurd e2 (hn p hp)
theorem sumT {c:Cfg} {t:List Int} {h:Hist} {s:Summ} {o:Option Ao_} (hc:A7_ c) (e:plainS s=sumOf o) (h1:∀X,o=some X→TierKn c t h X) (h2:o=none→h=[]):SumT c t h s:=by
 obtain⟨tot,ve,un,vr,es,vs,rows⟩:=s;obtain⟨d,hd1,hd2,hd3⟩:=Lq_ hc
 cases o with
 | none=>
  have e' :(tot,es,un,rows) =((0:Int),([]:List Ent),(0:Int),([]:List (List Int))):=e;cases e';rw[h2 rfl];refine⟨rfl,by simp[wAll],⟨by simp,by dsimp only;rw[hd2];simp,by simp⟩,by simp,fun k=>?_,by simp⟩;rw[hd2]
  simp[bndE,sEstF,wOf]
 | some X=>
  have e' :(tot,es,un,rows) =(X.sum,X.entries,X.T.base,X.rows):=e;cases e';have H:=h1 X rfl;have hb:=H.ok.tab.base;have hs:=H.ok.sums;have hbase:=H.base hc;rw[hd3,←H.sum] at hbase
  have hrl:X.rows.length≠0:=by have:=H.ok.rows.depth;have:=hc.depth;omega
  refine⟨H.sum,by rw[←H.sum];omega,⟨hb.1,by dsimp only;rw[hd2];exact hbase,by dsimp only;omega⟩,fun x hx=>?_,fun k=>?_,fun x hx=>(H.all x hx).1⟩
  ·have h3:=H.all x hx
   exact Vk_ (by omega)
  ·have hB:=H.bounds hc k
   have heq :(min (bndE X.entries X.T.base k).1 (sEstF c t ⟨X.sum,ve,X.T.base,vr,X.entries,vs,X.rows⟩ k),min (bndE X.entries X.T.base k).2 (sEstF c t ⟨X.sum,ve,X.T.base,vr,X.entries,vs,X.rows⟩ k))=X.bounds c t k:=by
    have hes:sEstF c t ⟨X.sum,ve,X.T.base,vr,X.entries,vs,X.rows⟩ k=estF t c.Seed k X.rows:=if_neg hrl;have he:=K3_ (t:=t) (s:=c.Seed) (k:=k) H.ok.rows (by omega) hc.depth;unfold Ao_.bounds bndE;rw[Sy_ H.ok k,hes]
    cases X.entry k with
    | some x=>rfl
    | none=>dsimp only;rw[Int.min_eq_left he.1]
   have q1:=congrArg Prod.fst heq;have q2:=congrArg Prod.snd heq;dsimp only at q1 q2;rw[q1,q2,hd2];dsimp only
   omega
section
variable {c:Cfg} {t:List Int} {K:CluM} {E:Nat→Int→Hist} {win:Int} {l:List Summ} {r:Rep}
structure De_ (c:Cfg) (t:List Int) (K:CluM) (E:Nat→Int→Hist) (win:Int) (l:List Summ):Prop where
 len:l.length=K.sh.length
 shards :(K.sh.length:Int)=c.Shards
 sums:∀i (hi:i<l.length),SumT c t (E i win) l[i]
 ok:F4_ l
theorem ib_ (hn:CfgNums c) (h:CluKn c t K E) (hS:∀s∈l,SumN s) (e:l.map plainS=sumsK c t K win):De_ c t K E win l:=by
 have hl:l.length=K.sh.length:=by have:=congrArg List.length e;simpa [sumsK] using this
 refine⟨hl,h.len,fun i hi=>?_,⟨fun s hs=>(hS s hs).wf,fun s hs=>(hS s hs).rows,fun s hs=>(hS s hs).len⟩⟩
 have hi2:i<K.sh.length:=by omega
 have e1 :(l.map plainS)[i]? =(sumsK c t K win)[i]?:=by rw[e]
 unfold sumsK at e1;rw[List.getElem?_map,List.getElem?_map,gq_ hi,gq_ hi2] at e1
 have e2:plainS l[i]=sumOf (tierAt (drainS c t K.sh[i] win).ts win):=by simpa using e1
 obtain⟨a,b⟩:=(Qz_ hn.tier.cfg (h.ofSh hi2) win).tier (Ig_ (Int.le_refl win));exact sumT hn.tier.cfg e2 a b
theorem De_.tots (h:De_ c t K E win l):∀i∈rangeI l.length,totAt l i=wAll (E i.toNat win)∧0≤totAt l i:=fun i hi=>by
 have h1:=A6_.1 hi
 have h2:i.toNat<l.length:=by omega
 have h3:=(h.sums _ h2).total;have h4:=(h.sums _ h2).nn;unfold totAt;rw[gq_ h2];simp only[Option.map_some,Option.getD_some]
 omega
theorem De_.total (h:De_ c t K E win l) (hK:CluKn c t K E):totalF l=ldAt K.led win∧totalF l=sumI (totAt l) (rangeI l.length)∧totalF l≤9223372036854775808∧0≤totalF l:=by
 have h1:sumI (totAt l) (rangeI l.length)=ldAt K.led win:=by
  rw[←hK.tot win,←h.len]
  exact B8_ fun i hi=>(h.tots i hi).1
 have h2:=hK.most win;have hm:mostW=9223372036854775808:=rfl
 have h3:=Fm_ (f:=totAt l) (is:=rangeI l.length) fun i hi=>(h.tots i hi).2
 have h4:totalF l=sumI (totAt l) (rangeI l.length):=by
  rw[Mx_,Xv_ (M:=0) (fun i hi=>(h.tots i hi).2) (by omega)];omega
 exact⟨by omega,h4,by omega,by omega⟩
theorem De_.set (h:De_ c t K E win l) (hK:CluKn c t K E) (hn:CfgNums c) {f:Int→Int} (hf:∀i∈rangeI l.length,0≤f i∧f i≤totAt l i) {hm:Int} (h0:0≤hm) (h1:hm<c.Shards) :
  (setN hm c.Shards c.Spread.toNat).foldl (fun a i=>satA a (f i)) 0=sumI f (setN hm c.Shards c.Spread.toNat)∧0≤sumI f (setN hm c.Shards c.Spread.toNat)∧sumI f (setN hm c.Shards c.Spread.toNat)≤totalF l:=by
 have hs:=hn.shards;have hp:=hn.spread;have hl:=h.shards;have hl2:=h.len;have hnd :(setN hm c.Shards c.Spread.toNat).Nodup:=J3_ h0 h1 (by omega) (by omega)
 have hin:∀i∈setN hm c.Shards c.Spread.toNat,i∈rangeI l.length:=fun i hi=>A6_.2 (by have:=Ei_ hs.1 i hi;omega)
 have ha:sumI f (setN hm c.Shards c.Spread.toNat)≤sumI f (rangeI l.length):=ff_ hnd (fun i hi=>A6_.1 (hin i hi)) fun i hi=>(hf i hi).1
 have hb:sumI f (rangeI l.length)≤sumI (totAt l) (rangeI l.length):=Dg_ fun i hi=>(hf i hi).2
 obtain⟨_,h3,h4,_⟩:=h.total hK
 have hp2:∀i∈setN hm c.Shards c.Spread.toNat,0≤f i:=fun i hi=>(hf i (hin i hi)).1
 refine⟨?_,Fm_ hp2,by omega⟩;rw[Xv_ (M:=0) hp2 (by omega)];omega
theorem De_.bps (h:De_ c t K E win l) (k:ByteArray):∀i∈rangeI l.length,0≤(bP c t l k i).1∧(bP c t l k i).1≤wOf (E i.toNat win) k∧wOf (E i.toNat win) k≤(bP c t l k i).2∧(bP c t l k i).2-(bP c t l k i).1≤limV c.Mode c.Slots (totAt l i)∧(bP c t l k i).2≤totAt l i:=fun i hi=>by
 have h1:=A6_.1 hi
 have h2:i.toNat<l.length:=by omega
 have h3:=(h.sums _ h2).bnd k;unfold bP totAt;rw[gq_ h2];exact h3
theorem W7_ {f:Int→Int} {d:Int} (hd:1≤d):∀is:List Int,sumI (fun i=>f i/d) is≤sumI f is/d
 | []=>by simp[sumI]
 | i::is=>by
  rw[Av_,Av_];have h1:=W7_ (f:=f) hd is;refine(Int.le_ediv_iff_mul_le (by omega)).2 ?_;have h2:=Int.ediv_mul_le (f i) (show d≠0 by omega);have h3:=(Int.le_ediv_iff_mul_le (show 0<d by omega)).1 h1;rw[Int.add_mul]
  omega
theorem De_.lim (h:De_ c t K E win l) (hK:CluKn c t K E) (hn:CfgNums c) {f:Int→Int} (hf:∀i∈rangeI l.length,f i≤limV c.Mode c.Slots (totAt l i)) {hm:Int} (h0:0≤hm) (h1:hm<c.Shards) :
  sumI f (setN hm c.Shards c.Spread.toNat)≤limV c.Mode c.Slots (totalF l):=by
 obtain⟨d,hd1,hd2,_⟩:=Lq_ hn.tier.cfg;have hs:=hn.shards;have hl:=h.shards;have hl2:=h.len
 have hin:∀i∈setN hm c.Shards c.Spread.toNat,i∈rangeI l.length:=fun i hi=>A6_.2 (by have:=Ei_ hs.1 i hi;omega)
 have h2:sumI f (setN hm c.Shards c.Spread.toNat)≤sumI (fun i=>totAt l i/d) (setN hm c.Shards c.Spread.toNat):=Dg_ fun i hi=>by rw[←hd2];exact hf i (hin i hi)
 have h3:=W7_ (f:=totAt l) hd1 (setN hm c.Shards c.Spread.toNat);obtain⟨_,_,h4⟩:=h.set hK hn (f:=totAt l) (fun i hi=>⟨(h.tots i hi).2,Int.le_refl _⟩) h0 h1;have h5:sumI (totAt l) (setN hm c.Shards c.Spread.toNat)/d≤totalF l/d:=Int.ediv_le_ediv (by omega) h4;rw[hd2]
 omega
def wtK (K:CluM) (E:Nat→Int→Hist) (win:Int) (k:ByteArray):Int:=allK E win k K.sh.length
theorem De_.line (h:De_ c t K E win l) (hK:CluKn c t K E) (hn:CfgNums c) (k:ByteArray):0≤(lineF c t l k).1∧(lineF c t l k).1≤wtK K E win k∧wtK K E win k≤(lineF c t l k).2∧(lineF c t l k).2-(lineF c t l k).1≤limV c.Mode c.Slots (totalF l)∧(lineF c t l k).2≤totalF l:=by
 have hs:=hn.shards;have hp:=hn.spread
 have hlen :(l.length:Int)=c.Shards:=by have:=h.len;have:=h.shards;omega
 obtain⟨h0,h1⟩:=Q6_ c t k hs.1;have hb:=h.bps k;have hnd :(setF c t k).Nodup:=J3_ h0 h1 (by omega) (by omega)
 have hin:∀i∈setF c t k,i∈rangeI l.length:=fun i hi=>A6_.2 (by have:=Ei_ hs.1 i hi;omega)
 obtain⟨a1,a2,_⟩:=h.set hK hn (f:=fun i=>(bP c t l k i).1) (fun i hi=>by have:=hb i hi;omega) h0 h1;obtain⟨b1,b2,b3⟩:=h.set hK hn (f:=fun i=>(bP c t l k i).2) (fun i hi=>by have:=hb i hi;omega) h0 h1
 have e1 :(lineF c t l k).1=sumI (fun i=>(bP c t l k i).1) (setF c t k):=by
  rw[Nb_ hs.1 hlen,(Wl_ k _).1];exact a1
 have e2 :(lineF c t l k).2=sumI (fun i=>(bP c t l k i).2) (setF c t k):=by
  rw[Nb_ hs.1 hlen,(Wl_ k _).2];exact b1
 have e3:wtK K E win k=sumI (fun i=>wOf (E i.toNat win) k) (setF c t k):=by
  unfold wtK allK;rw[←h.len]
  have hz:∀i∈rangeI l.length,i∉setF c t k→wOf (E i.toNat win) k=0:=fun i hi hns=>ad_ fun p hp he=>hns (by
   have:=(hK.place i.toNat win p hp).1
   rw[he] at this;have hi2:=A6_.1 hi
   rwa [show((i.toNat:Nat):Int)=i by omega] at this)
  have hperm :(rangeI l.length).Perm (setF c t k++(rangeI l.length).filter fun i=>decide (i∉setF c t k)):=by
   refine Ge_ (Cg_ _) (List.nodup_append.2 ⟨hnd,List.Pairwise.filter _ (Cg_ _),fun a ha b hb e=>?_⟩) fun x=>?_
   ·have:=(List.mem_filter.1 hb).2
    simp at this
    exact this (e▸ha)
   ·rw[List.mem_append,List.mem_filter]
    constructor
    ·intro hx
     by_cases hxs:x∈setF c t k
     ·exact .inl hxs
     ·exact .inr ⟨hx,by simpa using hxs⟩
    ·rintro(hx|hx)
     ·exact hin x hx
     ·exact hx.1
  rw[N8_ _ hperm]
  have happ:∀(a b:List Int) (f:Int→Int),sumI f (a++b)=sumI f a+sumI f b:=by
   intro a b f
   induction a with
   | nil=>simp[sumI]
   | cons x a ih=>rw[List.cons_append,Av_,Av_,ih];omega
  rw[happ,Gf_ (is:=(rangeI l.length).filter fun i=>decide (i∉setF c t k)) fun i hi=>by
   have:=List.mem_filter.1 hi
   exact hz i this.1 (by simpa using this.2)]
  omega
 have e4 :(lineF c t l k).2-(lineF c t l k).1=sumI (fun i=>(bP c t l k i).2-(bP c t l k i).1) (setF c t k):=by
  rw[e1,e2]
  have:∀(f g:Int→Int) (is:List Int),sumI (fun i=>f i-g i) is=sumI f is-sumI g is:=by
   intro f g is
   induction is with
   | nil=>rfl
   | cons i is ih=>rw[Av_,Av_,Av_,ih];omega
  rw[this]
 refine⟨by rw[e1];exact a2,?_,?_,?_,by rw[e2];exact b3⟩
 ·rw[e1,e3];exact Dg_ fun i hi=>(hb i (hin i hi)).2.1
 ·rw[e2,e3];exact Dg_ fun i hi=>(hb i (hin i hi)).2.2.1
 ·rw[e4];exact h.lim hK hn (fun i hi=>(hb i hi).2.2.2.1) h0 h1
theorem De_.untr (h:De_ c t K E win l):∀i∈rangeI l.length,0≤uAt l i∧uAt l i≤limV c.Mode c.Slots (totAt l i)∧uAt l i≤totAt l i:=fun i hi=>by
 have h1:=A6_.1 hi
 have h2:i.toNat<l.length:=by omega
 have h3:=(h.sums _ h2).untr;unfold uAt totAt;rw[gq_ h2];exact h3
theorem De_.rest (h:De_ c t K E win l) (hK:CluKn c t K E) (hn:CfgNums c):0≤restF c l∧restF c l≤totalF l∧restF c l≤limV c.Mode c.Slots (totalF l):=by
 obtain⟨d,hd1,hd2,_⟩:=Lq_ hn.tier.cfg;obtain⟨_,_,_,ht⟩:=h.total hK
 have hlim:0≤limV c.Mode c.Slots (totalF l):=by rw[hd2];exact Int.ediv_nonneg ht (by omega)
 have hs:=hn.shards;unfold restF
 split
 ·exact⟨by omega,by omega,hlim⟩
 ·have hu:∀j:Nat,j<c.Shards.toNat→uF l (setN j c.Shards c.Spread.toNat)≤totalF l∧uF l (setN j c.Shards c.Spread.toNat)≤limV c.Mode c.Slots (totalF l):=fun j hj=>by
   obtain⟨a1,_,a3⟩:=h.set hK hn (f:=uAt l) (fun i hi=>by have:=h.untr i hi;omega) (hm:=j) (by omega) (by omega);have a4:=h.lim hK hn (f:=uAt l) (fun i hi=>(h.untr i hi).2.1) (hm:=j) (by omega) (by omega);have e:uF l (setN j c.Shards c.Spread.toNat)=_:=a1;rw[e];exact⟨a3,a4⟩
  exact⟨Mk_ _ _ _ _,K5_ ht _ fun j hj=>(hu j hj).1,K5_ hlim _ fun j hj=>(hu j hj).2⟩
theorem Y7_ {h:Hist} (hp:∀p∈h,1≤p.2) {ks:List Ap_} (hk:ks.Nodup):sumB (fun b=>wOf h (bA b)) ks≤wAll h:=by
 induction h with
 | nil=>exact Int.le_of_eq (sumB_zero fun b _=>rfl)
 | cons p h ih=>
  have h1:=ih fun q hq=>hp q (by simp[hq])
  have h0:=hp p (by simp)
  have e:sumB (fun b=>wOf (p::h) (bA b)) ks=sumB (fun b=>if p.1=bA b then p.2 else 0) ks+sumB (fun b=>wOf h (bA b)) ks:=by
   rw[←Rw_];rfl
  have h2:sumB (fun b=>if p.1=bA b then p.2 else 0) ks≤p.2:=by
   clear e h1 ih
   induction ks with
   | nil=>exact(show(0:Int)≤p.2 by omega)
   | cons b ks ih=>
    rw[List.nodup_cons] at hk;rw[Bs_]
    by_cases hb:p.1=bA b
    ·rw[if_pos hb,sumB_zero fun x hx=>if_neg fun he=>hk.1 (by
      have:bA b=bA x:=hb.symm.trans he
      have:b=x:=by
       have:=congrArg (fun a:ByteArray=>a.data.toList) this
       simpa [bA] using this
      exact this▸hx)]
     omega
    ·rw[if_neg hb]
     have:=ih hk.2
     omega
  rw[e]
  show _≤p.2+wAll h
  omega
theorem De_.los (h:De_ c t K E win l) (hK:CluKn c t K E) (hn:CfgNums c):loSum (allF c t l)≤totalF l:=by
 unfold allF;rw[My_];refine Int.le_trans (sumB_le fun b _=>(h.line hK hn (bA b)).2.1) ?_;obtain⟨_,e,_⟩:=h.total hK;rw[e]
 have e2:sumB (fun b=>wtK K E win (bA b)) (keysF l)=sumI (fun i=>sumB (fun b=>wOf (E i.toNat win) (bA b)) (keysF l)) (rangeI l.length):=by
  unfold wtK allK;rw[←h.len];exact Q8_ (fun b i=>wOf (E i.toNat win) (bA b)) _ _
 rw[e2]
 refine Dg_ fun i hi=>?_
 have h1:=A6_.1 hi
 have h2:i.toNat<K.sh.length:=by have:=h.len;omega
 rw[(h.tots i hi).1];exact Y7_ (fun p hp=>((hK.ofSh h2).good win p hp).2) (Fg_ l)
theorem De_.mem (h:De_ c t K E win l) (hK:CluKn c t K E) (hn:CfgNums c) {x:Ln} (hx:x∈allF c t l) :(x.key.size≠0∧x.key.size≤255)∧splitE x.key=0∧0≤x.lo∧x.lo≤wtK K E win x.key∧wtK K E win x.key≤x.hi∧x.hi≤totalF l∧x.hi-x.lo≤limV c.Mode c.Slots (totalF l):=by
 obtain⟨b,hb,rfl⟩:=List.mem_map.1 hx;obtain⟨s,hs,e,he,rfl⟩:=I3_ hb;obtain⟨i,hi,rfl⟩:=List.getElem_of_mem hs
 have hk:bA (entK e)=e.key:=by unfold bA entK;simp
 have h1:=(h.sums i hi).size e he;obtain⟨p,hp,e2⟩:=(h.sums i hi).keys e he;have h3:=(hK.place i win p hp).2;rw[e2] at h3;have h4:=h.line hK hn (bA (entK e));have e5 :(lnOf c t l (entK e)).key=e.key:=hk;have e6 :(lnOf c t l (entK e)).lo =(lineF c t l (bA (entK e))).1:=rfl;have e7 :(lnOf c t l (entK e)).hi =(lineF c t l (bA (entK e))).2:=rfl;rw[e5,e6,e7];rw[hk] at h4 ⊢;exact⟨by omega,h3,h4.1,h4.2.1,h4.2.2.1,h4.2.2.2.2,h4.2.2.2.1⟩
theorem bi_ (hn:CfgNums c) (hK:CluKn c t K E) (hw:win∈K.led.map (·.1)) (h:RepOf c t K win r):auditE c r=0:=by
 obtain⟨l,hS,hI,hrj,hp,e1,e2,e3,e4,e5,e6,e7⟩:=h;have hT:=ib_ hn hK hS hp;have hwin:=hK.win win hw;obtain⟨_,_,ht1,ht0⟩:=hT.total hK;obtain⟨hr0,hr1,hr2⟩:=hT.rest hK hn;have htop:=hn.top;have hsh:=hn.shards;have hlos:=hT.los hK hn
 have hmem:∀x∈allF c t l,_:=fun x hx=>hT.mem hK hn hx
 have hlo0:∀x∈sortLn (allF c t l),0≤x.lo:=fun x hx=>(hmem x (Dl_ hx)).2.2.1
 have hbl:loSum (bLs c t l)≤totalF l:=by
  have h1:=Lp_ hlo0 (selN c.Top (allF c t l));rw[Tb_ (Fa_ (allF c t l))] at h1;exact Int.le_trans h1 hlos
 have hbl0:0≤loSum (bLs c t l):=loSum_pos fun x hx=>hlo0 x (List.mem_of_mem_take hx)
 have hov:bOver c t l+loSum (bLs c t l)=totalF l∧0≤bOver c t l:=by
  have e:satL (loSum (bLs c t l))=loSum (bLs c t l):=by unfold satL;rw[if_pos (by omega)]
  unfold bOver;rw[e];unfold subF;rw[if_neg (by omega)]
  omega
 have hlen :((bLs c t l).length:Int)=min c.Top (keysF l).length:=by
  unfold bLs selN;rw[lk_,E0_,L7_]
  omega
 have hkf :(keysF l).length≤768:=by
  have h1:=Fx_ l;have h2:=G8_ hS;have h3:=hT.len;have h4:=hT.shards;omega
 have hrest:0≤bRest c t l∧bRest c t l≤totalF l:=by
  have h1:=b0_ (bOm c t l) (restF c l);exact⟨by unfold bRest;omega,Z5_ (fun x hx=>(hmem x (e7_ hx)).2.2.2.2.2.1) hr1⟩
 have hsort:=Kn_ (l:=allF c t l) (by rw[Mn_];exact Fg_ l)
 have hs2 :(bLs c t l).Pairwise fun a b=>befB a b=true:=List.Pairwise.sublist (List.take_sublist _ _) hsort
 have hkn :(keysN (bLs c t l)).Nodup:=by
  have:=Oy_ c t l
  unfold keysN bLs at *;rw[List.map_take];exact List.Nodup.sublist (List.take_sublist _ _) this
 have hln:Cc_ (totalF l) (bLs c t l)=0:=by
  refine K1_ fun i hi=>?_
  unfold lnErrAt;rw[gq_ hi];obtain⟨m1,m2,m3,m4,m5,m6,m7⟩:=hmem _ (Wp_ (mg_ hi))
  show C2_ (totalF l) (Kr_ (bLs c t l) i) (bLs c t l)[i]=0
  unfold C2_;rw[if_neg m1.1,if_neg (by omega),if_neg (by omega)]
  cases i with
  | zero=>rfl
  | succ m=>
   have hm:m<(bLs c t l).length:=by omega
   have:=List.pairwise_iff_getElem.1 hs2 m (m+1) hm hi (by omega)
   simp[Kr_,gq_ hm,this]
 have hrep:repErr r=0:=by
  unfold repErr;rw[e1,e2,e3,e4,e5,e6,e7];rw[if_neg (by omega),if_neg (by omega),if_neg (by rw[hln];simp),if_neg (by simpa using hkn),if_neg (by omega),if_neg (by rw[hK.rej.1,hK.rej.2];simp)]
 have hbad:audBad c r=false:=by
  unfold audBad;rw[e2,e3,e5,e6]
  have h3 :((keysF l).length:Int) =(bLs c t l).length→bRest c t l≤limV c.Mode c.Slots (totalF l):=fun he=>by
   have:bOm c t l=[]:=by
    unfold bOm;refine List.drop_eq_nil_of_le ?_;have h5 :(bLs c t l).length=min (selN c.Top (allF c t l)) (sortLn (allF c t l)).length:=lk_;rw[E0_,L7_] at *
    omega
   unfold bRest;rw[this]
   simpa [hiMax] using hr2
  simp only[Bool.or_eq_false_iff,Bool.and_eq_false_iff,decide_eq_false_iff_not];refine⟨⟨by omega,?_⟩,?_⟩
  ·by_cases h5 :((bLs c t l).length:Int)<c.Top
   ·exact .inr (by omega)
   ·exact .inl h5
  ·by_cases h5 :((keysF l).length:Int) =(bLs c t l).length
   ·exact .inr (by have:=h3 h5;omega)
   ·exact .inl h5
 unfold auditE;rw[if_neg (by omega),if_neg (by rw[hbad];simp),if_neg];rw[Gw_]
 ·simp
 ·intro i hi
  have hx:r.lines[i]∈allF c t l:=by
   have:r.lines[i]∈bLs c t l:=e3▸mg_ hi
   exact Wp_ this
  obtain⟨m1,m2,m3,m4,m5,m6,m7⟩:=hmem _ hx;unfold lineBad;rw[e2];simp only[Bool.or_eq_false_iff,decide_eq_false_iff_not];exact⟨by simpa using m2,by omega⟩
theorem R1_ {rs:List Rep} (hn:CfgNums c) (h:Gg_ c t rs):∀r∈rs,auditE c r=0:=fun r hr=>by
 obtain⟨K,win,h1,_,h3,h2⟩:=h r hr;obtain⟨E,a⟩:=Y8_ hn h1;exact bi_ hn a h3 h2
end
end
section
open Go.RowKit Go.Sort
attribute [local go_sem ↓] Ag_
attribute [local go_sem] Ah_
theorem ap_ (x0:Rep) (dv ov:Value) (xs ys:List Int) (n m:Nat) (at_ nn:Int) (w:World) (hR:RepRd w x0) (hW:RepW x0)
  (hd:Rd w 1 dv n (xs.map (fun x=>Value.int .i64 x))) (ho:Rd w 1 ov m (ys.map (fun x=>Value.int .i64 x))) :
  Calls prog 3 #[repV x0.win x0.tot x0.vl x0.over x0.trk x0.rest x0.vr,dv,ov,.int .i64 at_,.int .u64 nn] w (Cm_ true w):=by
 obtain⟨da,dc,rfl⟩:=hd.shape;obtain⟨oa,oc,rfl⟩:=ho.shape;obtain⟨win0,tot0,vl0,over0,trk0,rest0,vr0,ls0,rj0⟩:=x0;obtain⟨la0,lc0,e1⟩:=hR.lines.shape;obtain⟨ja0,jc0,e2⟩:=hR.rej.shape;dsimp only at *;subst e1 e2;have HR0:=hh_ hR;have HW0:=hh_ hW;have HD:=hh_ hd;have HO:=hh_ ho;clear hR hW hd ho;have B2:=Blk.new w (repA win0 tot0 (.slice la0 ls0.length lc0) over0 trk0 rest0 (.slice ja0 rj0.length jc0)) 26;have G2:=Ad_ (Ab_ w none) (.cells (repA win0 tot0 (.slice la0 ls0.length lc0) over0 trk0 rest0 (.slice ja0 rj0.length jc0)) 26)
 go_enter func3,ntmps3
 go_upto_region 1 with fail
 generalize w.alloc _=w2 at *;have HB2:=hh_ B2;have HG2:=hh_ G2;have b2:=B2.cell;clear B2 G2
 by_cases h90:90<ls0.length
 ·have i1 :(90:Int)<(ls0.length:Int):=by omega
  go_wp2_with (go_at_call 6;refine(Ie_ _).mono ?_;rintro e w6 ⟨rfl,G6⟩)
  go_ret
  exact Be_ rfl (Aa_ HG2.out G6)
 have i1:¬(90:Int)<(ls0.length:Int):=by omega
 by_cases h20:20<rj0.length
 ·have i2 :(20:Int)<(rj0.length:Int):=by omega
  go_wp2_with (go_at_call 6;refine(Ie_ _).mono ?_;rintro e w6 ⟨rfl,G6⟩)
  go_ret
  exact Be_ rfl (Aa_ HG2.out G6)
 have i2:¬(20:Int)<(rj0.length:Int):=by omega
 have CR:=hh_ (V4_ (.slice da n dc) (.slice oa m oc) xs ys n m w2 (Rd.same HD.out HG2.out) (Rd.same HO.out HG2.out))
 go_upto_region 4 with(first
  |(go_at_call 7;refine CR.out.mono ?_;rintro e w3 ⟨c,lc,t,K,vl,vi,rs,rfl,N1,Z1,M1,F1,L1,hrl,R1,RK,CK,I1,O1,G1,T1⟩;have oc1:=M1.one1;have oc2:=M1.one2;obtain⟨la,lcp,rfl⟩:=L1.own.shape;obtain⟨ia,ic,rfl⟩:=I1.shape)
  |(refine Dp_ rfl rfl ?_;intro w4 B3 G3 z3)
  |(refine Dh_ rfl _ _ rfl _ rfl c rfl oc1 oc2 Cfg.zero B3 ?_;intro w5 B5 G5))
 have KW:=Af_ G3 G5 (le_ _);have hl5:=(L1.same repK KW).rdAll;have HL:=hh_ hl5.1;have HR:=hh_ hl5.2;have HW:=hh_ (iq_ N1 R1).w;have HA0:=hh_ (R1_ N1 R1);have HB:=hh_ B5;have K25:=Aa_ G1 KW;have HG:=hh_ (Aa_ HG2.out K25);have HB5:=hh_ (HB2.out.same K25);have HR05:=hh_ (HR0.out.same HG.out)
 have hrl2:rs.length≤9223372036854775807:=by omega
 have C0:=hh_ fun w' (g:w5.grownBy w' none)=>Fq_ c ⟨win0,tot0,.slice la0 ls0.length lc0,over0,trk0,rest0,.slice ja0 rj0.length jc0,ls0,rj0⟩ w' (HR05.out.same g) HW0.out
 have C1:=hh_ fun w' (g:w5.grownBy w' none)=>Ql_ c ⟨win0,tot0,.slice la0 ls0.length lc0,over0,trk0,rest0,.slice ja0 rj0.length jc0,ls0,rj0⟩ w' (HR05.out.same g) HW0.out
 generalize K.items.length=il at *;generalize w3.heap.size=cb at *;generalize w.heap.size=rb0 at *;clear N1 Z1 M1 F1 L1 R1 RK CK I1 O1 T1 G1 G3 G5 B3 B5 z3 hl5 KW CR oc1 oc2 b2 i1 i2 HB2 HD HO HR0 HG2 K25 h90 h20;generalize auditE c ⟨win0,tot0,.slice la0 ls0.length lc0,over0,trk0,rest0,.slice ja0 rj0.length jc0,ls0,rj0⟩=E0 at *;have K6:World.grownBy w5 w5.drew none:=gw_
 (refine rn_ 7 (fun k _ w v w'=>match k with | 2=>v=.int .i64 E0∧World.grownBy w w' none | 5=>v=.int .i64 E0∧World.grownBy w w' none | _=>False) ?_;simp only[ts_])
 generalize w5.drew=wd at *
 ((refine to_ ?_;intro x0 mx0 dx0);clear dx0;have BX:=HB.out.same (Aa_ K6 mx0);go_wp2_with (refine An_ rfl _ rfl _ rfl c BX ?_);refine⟨Ab_ _ _,?_⟩;clear BX)
 ((refine to_ ?_;intro x1 mx1 dx1);clear dx1;go_wp2_with (refine A2_ rfl _ rfl _ rfl (HB5.out.same (Aa_ K6 mx1)) ?_);refine⟨Ab_ _ _,?_⟩)
 ((refine tc_ ?_;intro x2 mx2 dx2;refine⟨?_,?_⟩;· (unfold Rg.callSpec;go_simp;(refine(C0.out x2 (Aa_ K6 mx2)).mono ?_;rintro e w' ⟨rfl,g⟩;exact⟨_,rfl,rfl,g⟩)));clear dx2;rintro v y ⟨rfl,g⟩;refine⟨g,?_⟩;clear g;simp only[pt_])
 ((refine to_ ?_;intro x3 mx3 dx3);clear dx3;have BX:=HB.out.same (Aa_ K6 mx3);go_wp2_with (refine An_ rfl _ rfl _ rfl c BX ?_);refine⟨Ab_ _ _,?_⟩;clear BX)
 ((refine to_ ?_;intro x4 mx4 dx4);clear dx4;go_wp2_with (refine A2_ rfl _ rfl _ rfl (HB5.out.same (Aa_ K6 mx4)) ?_);refine⟨Ab_ _ _,?_⟩)
 ((refine tc_ ?_;intro x5 mx5 dx5;refine⟨?_,?_⟩;· (unfold Rg.callSpec;go_simp;(refine(C1.out x5 (Aa_ K6 mx5)).mono ?_;rintro e w' ⟨rfl,g⟩;exact⟨_,rfl,rfl,g⟩)));clear dx5;rintro v y ⟨rfl,g⟩;refine⟨g,?_⟩;clear g;simp only[pt_])
 (refine tq_ 1 ?_;(repeat(go_big_quiet_step (fail)));refine wn_ ?_)
 (refine Rg.tree_nil ?_;intro x7 mx7 dx7 cx7)
 have K9:=Aa_ K6 mx7;clear dx7 cx7
 go_upto_region 7 with fail
 have HG9:=hh_ (Aa_ HG.out K9);clear K6 mx7
 go_loopw [44] (fun s44 wk=>∃k:Nat,k≤rs.length∧s44=.int .i64 k∧x7.grownBy wk none) (fun s44 _=>rs.length-(RowKit.intOf s44).toNat)
 case atStart=>exact⟨0,zl_ _,rfl,Ab_ _ _⟩
 case round=>
  obtain⟨k,hk,rfl,hg0⟩:=hrel;have hg:=Aa_ K9 hg0
  by_cases hkl:k<rs.length
  ·obtain⟨gx,ox,cx,hv,hgx,hcx⟩:=(HL.out.same hg).at_ I2_ hkl
   cases hv
   have hklt :(k:Int)<(rs.length:Int):=by omega
   have hrr:=(HR.out _ (mg_ hkl)).same hg;obtain⟨hrw,hr64⟩:=HW.out _ (mg_ hkl);have hra:=HA0.out _ (mg_ hkl);have Hcx:=hh_ hcx;clear hcx;generalize rs[k]=r at *;obtain⟨win,tot,vl,over,trk,rest,vr,ls,rj⟩:=r;obtain⟨ra,rc,e1⟩:=hrr.lines.shape;obtain⟨ja,jc,e2⟩:=hrr.rej.shape;dsimp only at *;subst e1 e2;have Hrr:=hh_ hrr;have Hrw:=hh_ hrw;have Hra:=hh_ hra;clear hrr hrw hra
   go_upto_region 9 with(first
    |(refine Pn_ rfl _ rfl _ _ rfl Hcx.out ?_)
    |(refine Im_ rfl rfl ?_;intro w6 A6 G6 z6)
    |(refine A4_ rfl _ _ rfl _ rfl rfl rfl rfl _ rfl A6 ?_;intro w7 A7 G7))
   simp only[pt_];have K7:=Af_ G6 G7 (le_ _);have HSp:=hh_ (Xc_ ⟨win,tot,.slice ra ls.length rc,over,trk,rest,.slice ja rj.length jc,ls,rj⟩ at_ nn w7 (Hrr.out.same K7) Hrw.out (by show ls.length≤_;omega));clear A6 G6 z6 G7 Hcx
   go_upto_region 10 with(first
    |(refine A2_ rfl _ rfl _ rfl A7 ?_)
    |(go_at_call 10;refine HSp.out.mono ?_;rintro e w8 ⟨y,rfl,yr,yw,y1,y2,g8⟩;obtain⟨yw0,yt,yv,yo,yk,ys,yu,yl,yq⟩:=y;obtain⟨ya,yc,e1⟩:=yr.lines.shape;obtain⟨yb,yd,e2⟩:=yr.rej.shape;dsimp only at e1 e2;subst e1 e2;dsimp only)
    |(refine Im_ rfl rfl ?_;intro w9 A9 G9 z9)
    |(refine A4_ rfl _ _ rfl _ rfl rfl rfl rfl _ rfl A9 ?_;intro wa Aa Ga))
   simp only[pt_];have Ka:=Af_ G9 Ga (le_ _);have HK0:=hh_ (Aa_ hg0 (Aa_ K7 (Aa_ g8 Ka)));have HXa:=hh_ (A7.same (Aa_ g8 Ka));have HYa:=hh_ Aa;have HBa:=hh_ (HB.out.same (Aa_ hg (Aa_ K7 (Aa_ g8 Ka))));have Hyr:=hh_ (yr.same Ka);have Hyw:=hh_ yw;have HRa:=hh_ (Hrr.out.same (Aa_ K7 (Aa_ g8 Ka)))
   have CX:=hh_ fun w' (g:wa.grownBy w' none)=>Fq_ c ⟨win,tot,.slice ra ls.length rc,over,trk,rest,.slice ja rj.length jc,ls,rj⟩ w' (HRa.out.same g) Hrw.out
   rw[Hra.out] at CX
   have CY0:=hh_ fun w' (g:wa.grownBy w' none)=>Fq_ c ⟨yw0,yt,.slice ya yl.length yc,yo,yk,ys,.slice yb yq.length yd,yl,yq⟩ w' (Hyr.out.same g) Hyw.out
   have CY1:=hh_ fun w' (g:wa.grownBy w' none)=>Ql_ c ⟨yw0,yt,.slice ya yl.length yc,yo,yk,ys,.slice yb yq.length yd,yl,yq⟩ w' (Hyr.out.same g) Hyw.out
   clear yr yw y1 y2 g8 A9 G9 z9 Ga Ka A7 K7 hg hg0 HSp Hrr Aa;generalize w8.heap.size=yb0 at *;generalize wr.heap.size=xb0 at *;generalize auditE c ⟨yw0,yt,.slice ya yl.length yc,yo,yk,ys,.slice yb yq.length yd,yl,yq⟩=E1 at *;have K6:World.grownBy wa wa.drew none:=gw_
   (refine rn_ 13 (fun k _ w v w'=>match k with | 2=>v=.int .i64 0∧World.grownBy w w' none | 7=>v=.int .i64 E1∧World.grownBy w w' none | 10=>v=.int .i64 E1∧World.grownBy w w' none | _=>False) ?_;simp only[ts_])
   generalize wa.drew=wd2 at *
   ((refine to_ ?_;intro x0 mx0 dx0);clear dx0;have BX:=HBa.out.same (Aa_ K6 mx0);go_wp2_with (refine An_ rfl _ rfl _ rfl c BX ?_);refine⟨Ab_ _ _,?_⟩;clear BX)
   ((refine to_ ?_;intro x1 mx1 dx1);clear dx1;go_wp2_with (refine A2_ rfl _ rfl _ rfl (HXa.out.same (Aa_ K6 mx1)) ?_);refine⟨Ab_ _ _,?_⟩)
   ((refine tc_ ?_;intro x2 mx2 dx2;refine⟨?_,?_⟩;· (unfold Rg.callSpec;go_simp;(refine(CX.out x2 (Aa_ K6 mx2)).mono ?_;rintro e w' ⟨rfl,g⟩;exact⟨_,rfl,rfl,g⟩)));clear dx2;rintro v y ⟨rfl,g⟩;refine⟨g,?_⟩;clear g;simp only[pt_])
   (refine tq_ 2 ?_;(repeat(go_big_quiet_step (fail)));refine wn_ ?_)
   ((refine to_ ?_;intro x5 mx5 dx5);clear dx5;have BX:=HBa.out.same (Aa_ K6 mx5);go_wp2_with (refine Bd_ rfl _ rfl _ rfl c BX ?_);refine⟨Ab_ _ _,?_⟩;clear BX)
   ((refine to_ ?_;intro x6 mx6 dx6);clear dx6;go_wp2_with (refine Gz_ (by rfl) _ rfl _ rfl (HYa.out.same (Aa_ K6 mx6)) ?_);refine⟨Ab_ _ _,?_⟩)
   ((refine Rg.tree_callG rfl rfl rfl ?_;intro xx7 mxx7 dxx7;refine⟨?_,?_⟩;· (unfold Rg.callSpec;go_simp;(refine(CY0.out xx7 (Aa_ K6 mxx7)).mono ?_;rintro e w' ⟨rfl,g⟩;exact⟨_,rfl,rfl,g⟩)));clear dxx7;rintro v y ⟨rfl,g⟩;refine⟨g,?_⟩;clear g;simp only[pt_])
   ((refine to_ ?_;intro x8 mx8 dx8);clear dx8;have BX:=HBa.out.same (Aa_ K6 mx8);go_wp2_with (refine Bd_ rfl _ rfl _ rfl c BX ?_);refine⟨Ab_ _ _,?_⟩;clear BX)
   ((refine to_ ?_;intro x9 mx9 dx9);clear dx9;go_wp2_with (refine Gz_ (by rfl) _ rfl _ rfl (HYa.out.same (Aa_ K6 mx9)) ?_);refine⟨Ab_ _ _,?_⟩)
   ((refine Rg.tree_callG rfl rfl rfl ?_;intro x10 mx10 dx10;refine⟨?_,?_⟩;· (unfold Rg.callSpec;go_simp;(refine(CY1.out x10 (Aa_ K6 mx10)).mono ?_;rintro e w' ⟨rfl,g⟩;exact⟨_,rfl,rfl,g⟩)));clear dx10;rintro v y ⟨rfl,g⟩;refine⟨g,?_⟩;clear g;simp only[pt_])
   (refine tq_ 2 ?_;(repeat(go_big_quiet_step (fail)));refine wn_ ?_)
   (refine Rg.tree_nil ?_;intro x13 mx13 dx13 cx13)
   have K13:=Aa_ HK0.out (Aa_ K6 mx13);clear dx13 cx13
   go_wp2_with fail
   exact⟨⟨k+1,by omega,by go_num,K13⟩,by simp[RowKit.intOf];omega⟩
  ·have HG7:=hh_ (Aa_ HG9.out hg0)
   go_wp2_with (go_at_call 6;refine(Ie_ _).mono ?_;rintro e w6 ⟨rfl,G6⟩)
   go_ret
   exact Be_ rfl (Aa_ HG7.out G6)
end
section
open Go.RowKit
theorem own:ownKnob prog.godebug=none:=by kernel_rfl
theorem Oq_:laidOutB prog=true:=by kernel_rfl
def IsRow (k:IntKind) (w:World) (a:Option Addr) (len cap:Nat) (zs:List Int):Prop:=
 (a=none∧len=0∧cap=0∧zs=[]) ∨
 ∃x,a=some x∧len≤cap∧cap≤maxLen∧zs.length=cap∧(∀i,i<zs.length→w.cell? (x.add i)=some (.int k (zs.getD i 0)))∧∀n∈zs,(Lit.int k n).wf=true
theorem IsRow.rd {k:IntKind} {a:Option Addr} {len cap:Nat} {zs:List Int} (h:IsRow k w a len cap zs):Rd w 1 (.slice a len cap) len ((zs.take len).map (fun x=>Value.int k x)):=by
 rcases h with⟨rfl,rfl,rfl,rfl⟩ |⟨x,rfl,h1,h2,h3,h4,h5⟩
 ·exact⟨by simp,by omega,.inl ⟨rfl,_,_,rfl⟩⟩
 ·have hm:len≤9223372036854775807:=by unfold maxLen at h2;omega
  rcases Nat.eq_zero_or_pos len with rfl|h0
  ·exact⟨by simp,by omega,.inl ⟨rfl,_,_,rfl⟩⟩
  ·obtain⟨b,off,spot⟩:=x
   have hc:=h4 0 (by omega)
   cases spot with
   | some s=>
    exfalso
    unfold Addr.add at hc
    simp[World.cell?] at hc
    split at hc <;> simp_all
   | none=>
    refine⟨by simp;omega,hm,.inr ⟨b,off,cap,rfl,block_lt_of_cell hc,fun j u hu=>?_⟩⟩
    have hj:j<len:=by
     have:=(gs_ hu).1
     simp at this;omega
    have:=h4 j (by omega)
    have ha :(⟨b,off,none⟩:Addr).add j =⟨b,off+j,none⟩:=by unfold Addr.add;split <;> simp_all
    rw[ha] at this;rw[this,←hu]
    simp[hj,gq_ (show j<zs.length by omega)]
end
section
open Go.RowKit Go.WideShapes Go.ChangeShapes Go.Deep
section
variable {H:Type} {enc:TypeId×Value→H} {P:Program} {w:World} {base:Nat} {spare:Nat→Bool} {held:Bool}
theorem Hs_ {t:TypeId} {fs:Array Field} {fuel:Nat} {cs:List Value} {x:DataW H×List MemPlace} (ht:P.underlying t=some (.struct fs)) (hone:oneCellFields P fs=true) (hC:P.cellsOf t=fs.size)
  (h:DataW.trod enc P w base spare held fuel t cs=some x):cs.length=fs.size∧∃n,∀(i:Nat) (f:Field),fs[i]?=some f→∃c y,cs[i]?=some c∧DataW.trod enc P w base spare held n f.type [c]=some y:=by
 obtain⟨xs,n,_,_,hl,hlen,hf⟩:=DataW.trod_struct ht h;refine⟨hl.trans hC,n,fun i f hi=>?_⟩;have hi2:i<fs.size:=(Array.getElem?_eq_some_iff.1 hi).1;obtain⟨o,k⟩:=hone_of hone i f hi;have h1:=hf i f hi
 have hi3:i<cs.length:=by rw[hl,hC];exact hi2
 have hi4:i<xs.length:=by rw[hlen];exact hi2
 rw[o,k,gq_ hi4] at h1
 have e :(cs.drop i).take 1=[cs[i]]:=by
  rw[List.take_one,List.head?_drop,gq_ hi3];rfl
 rw[e] at h1;exact⟨cs[i],xs[i],gq_ hi3,h1⟩
theorem J1_ {α:Type} [Inhabited α] (f:α→List Value) (s:Nat) {t e:TypeId} (ht:P.underlying t=some (.slice e)) (hC:P.cellsOf e=s) (hpos:0<s) (hs:∀x,(f x).length=s) (Ok:α→Prop)
  (hel:∀n cs y,DataW.trod enc P w base spare held n e cs=some y→∃x,cs=f x∧Ok x) {fuel:Nat} {cs:List Value} {x:DataW H×List MemPlace} (h:DataW.trod enc P w base spare held fuel t cs=some x) :
  ∃a len cap,∃l:List α,cs=[.slice a len cap]∧l.length=len∧len≤cap∧RdL f s w (.slice a len cap) l∧∀x∈l,Ok x:=by
 rcases open_slice ht h with⟨rfl,_⟩ |⟨a,len,cap,m,n,D,Pl,rfl,_,hl,hm,hmm,_,hx⟩
 ·exact⟨none,0,0,[],rfl,rfl,le_ _,⟨by simp[cellsOf],by simp,.inl ⟨rfl,none,0,rfl⟩⟩,by simp⟩
 ·have hml:len≤m:=by rw[hmm];split <;> omega
  have hm63:len≤9223372036854775807:=by unfold maxLen at hm;omega
  obtain⟨V,hV⟩:=choose_lt (α:=α) (n:=len) (p:=fun i y=>w.cells? base (a.add (i*P.cellsOf e)) (P.cellsOf e)=some (f y)∧Ok y) (fun i hi=>by
   obtain⟨cs',h1,h2⟩:=hx i (by omega);obtain⟨y,rfl,hy⟩:=hel _ _ _ h2
   exact⟨y,h1,hy⟩)
  have hlen :((List.range len).map V).length=len:=by simp
  refine⟨some a,len,cap,(List.range len).map V,rfl,hlen,hl,?_,fun y hy=>?_⟩
  ·rcases Nat.eq_zero_or_pos len with h0|h0
   ·subst h0
    exact⟨by simp[cellsOf],by simp,.inl ⟨by simp,some a,cap,by simp⟩⟩
   ·obtain⟨b,off,spot⟩:=a
    have hc0:=(World.cells?_some (hV 0 h0).1).2.2 0 (by rw[hC];exact hpos)
    have hf0:0<(f (V 0)).length:=by rw[hs];exact hpos
    rw[gq_ hf0] at hc0
    cases spot with
    | some q=>
     exfalso
     unfold Addr.add at hc0
     simp[World.cell?] at hc0
     split at hc0 <;> simp_all
    | none=>
     have hadd:∀o i,(⟨b,o,none⟩:Addr).add i =⟨b,o+i,none⟩:=fun o i=>by unfold Addr.add;split <;> simp_all
     refine⟨As_ f s hs _,by rw[hlen];exact hm63,.inr ⟨b,off,cap,by rw[hlen],?_,fun j u hu=>?_⟩⟩
     ·rw[hadd,hadd] at hc0
      exact block_lt_of_cell hc0
     ·have hj:j<len*s:=by
       have:=(gs_ hu).1
       rwa [As_ f s hs,hlen] at this
      have hq:j/s<len:=Nat.div_lt_of_lt_mul (by rw[Nat.mul_comm];exact hj);have hr:j%s<s:=Nat.mod_lt _ hpos;have he:j/s*s+j%s=j:=Nat.div_add_mod' j s;have h1:=(World.cells?_some (hV (j/s) hq).1).2.2 (j%s) (by rw[hC];exact hr);rw[hadd,hadd,hC] at h1;have h2:=Fe_ f s hs ((List.range len).map V) (j/s) (j%s) hr (V (j/s)) (by simp[hq]);rw[he] at h2;rw[←he,←Nat.add_assoc,h1,←h2,hu]
  ·obtain⟨i,hi,rfl⟩:=List.mem_map.1 hy
   exact(hV i (List.mem_range.1 hi)).2
theorem Jf_ {k:IntKind} {t e:TypeId} (ht:P.underlying t=some (.slice e)) (he:P.underlying e=some (.int k)) (hC:P.cellsOf e=1) {fuel:Nat} {cs:List Value} {x:DataW H×List MemPlace} (h:DataW.trod enc P w base spare held fuel t cs=some x) :
  ∃a len cap,∃l:List Int,cs=[.slice a len cap]∧l.length=len∧len≤cap∧RdL (fun n=>[Value.int k n]) 1 w (.slice a len cap) l∧∀n∈l,(Lit.int k n).wf=true:=
 J1_ (fun n=>[Value.int k n]) 1 ht hC (by omega) (fun _=>rfl) (fun n=>(Lit.int k n).wf=true) (fun n cs y h=>by obtain⟨m,h1,_,h2⟩:=DataW.trod_int he h;exact⟨m,h1,h2⟩) h
theorem Yp_ {r:Reach} {b0:Nat} {t:TypeId} {fs:Array Field} {v:Value} {d:DataW H} {p:List MemPlace} (ht:P.underlying t=some (.struct fs)) (hone:oneCellFields P fs=true) (hC:P.cellsOf t=fs.size)
  (hv:Value.okWide P w r b0 t v) (h:DataW.Trod enc P w base spare held t v d p) :
  ∃cs:Array Value,v=.agg cs∧cs.size=fs.size∧∃n,∀(i:Nat) (f:Field),fs[i]?=some f→∃c y,cs[i]?=some c∧DataW.trod enc P w base spare held n f.type [c]=some y:=by
 obtain⟨cs,rfl,hsz⟩:=okWide_struct ht hv;obtain⟨fuel,hf⟩:=h;obtain⟨_,n,hh⟩:=Hs_ ht hone hC hf;exact⟨cs,rfl,hsz.trans hC,n,fun i f hi=>by obtain⟨c,y,h1,h2⟩:=hh i f hi;exact⟨c,y,by simpa [Value.cells] using h1,h2⟩⟩
theorem hz_ {α:Type} {cs:Array α} (h:cs.size=7):∃a b c d e f g,cs=#[a,b,c,d,e,f,g]:=by
 obtain⟨l⟩:=cs
 match l,h with
 | [a,b,c,d,e,f,g],_=>exact⟨a,b,c,d,e,f,g,rfl⟩
theorem ic_ {α:Type} {l:List α} (h:l.length=3):∃a b c,l=[a,b,c]:=by
 match l,h with
 | [a,b,c],_=>exact⟨a,b,c,rfl⟩
end
theorem N2_:∃fs,prog.underlying 46=some (.struct fs)∧oneCellFields prog fs=true∧prog.cellsOf 46=fs.size∧fs.size=3∧(fs[0]?).map (·.type)=some 9∧(fs[1]?).map (·.type)=some 22∧(fs[2]?).map (·.type)=some 22:=
 ⟨_,underlying46,by kernel_rfl,by kernel_rfl,rfl,rfl,rfl,rfl⟩
theorem Se_:∃fs,prog.underlying 26=some (.struct fs)∧oneCellFields prog fs=true∧prog.cellsOf 26=fs.size∧fs.size=7∧(fs[0]?).map (·.type)=some 3∧(fs[1]?).map (·.type)=some 22∧(fs[2]?).map (·.type)=some 23 ∧
  (fs[3]?).map (·.type)=some 22∧(fs[4]?).map (·.type)=some 3∧(fs[5]?).map (·.type)=some 22∧(fs[6]?).map (·.type)=some 24:=
 ⟨_,underlying26,by kernel_rfl,by kernel_rfl,rfl,rfl,rfl,rfl,rfl,rfl,rfl,rfl⟩
theorem T4_ {n:Nat} (h:n≤maxLen):n≤9223372036854775807:=by unfold maxLen at h;omega
section
variable {H:Type} {enc:TypeId×Value→H} {w:World} {base:Nat} {spare:Nat→Bool} {held:Bool}
instance:Inhabited Ln:=⟨⟨ByteArray.empty,0,0⟩⟩
theorem Ce_ {α β:Type} {o:Option α} {g:α→β} {b:β} (h:o.map g=some b):∃x,o=some x∧g x=b:=by
 cases o with
 | none=>cases h
 | some x=>exact⟨x,rfl,by simpa using h⟩
theorem Tk_ {n:Nat} {cs:List Value} {y:DataW H×List MemPlace} (h:DataW.trod enc prog w base spare held n 46 cs=some y):∃x:Ln,cs=lnF x∧LnW x:=by
 obtain⟨fs,h1,h2,h3,h4,f0,f1,f2⟩:=N2_;obtain⟨hl,m,hf⟩:=Hs_ h1 h2 h3 h;obtain⟨a,b,c,rfl⟩:=ic_ (hl.trans h4);obtain⟨g0,e0,t0⟩:=Ce_ f0;obtain⟨g1,e1,t1⟩:=Ce_ f1;obtain⟨g2,e2,t2⟩:=Ce_ f2;obtain⟨c0,y0,k0,r0⟩:=hf 0 g0 e0;obtain⟨c1,y1,k1,r1⟩:=hf 1 g1 e1;obtain⟨c2,y2,k2,r2⟩:=hf 2 g2 e2
 simp at k0 k1 k2
 subst k0 k1 k2;rw[t0] at r0;rw[t1] at r1;rw[t2] at r2;obtain⟨s,q0,_,s0⟩:=DataW.trod_string underlying9 r0;obtain⟨lo,q1,_,s1⟩:=DataW.trod_int underlying22 r1;obtain⟨hi,q2,_,s2⟩:=DataW.trod_int underlying22 r2
 simp at q0 q1 q2
 subst q0 q1 q2;exact⟨⟨s,lo,hi⟩,rfl,Kl_ s1,Kl_ s2,T4_ s0⟩
-- A report that came in.
theorem bm_ {r:Reach} {b0:Nat} {v:Value} {d:DataW H} {p:List MemPlace} (hv:Value.okWide prog w r b0 26 v) (h:DataW.Trod enc prog w base spare held 26 v d p) :
  ∃x:Rep,v=repV x.win x.tot x.vl x.over x.trk x.rest x.vr∧RepRd w x∧RepW x:=by
 obtain⟨fs,h1,h2,h3,h4,f0,f1,f2,f3,f4,f5,f6⟩:=Se_;obtain⟨cs,rfl,hl,m,hf⟩:=Yp_ h1 h2 h3 hv h;obtain⟨a0,a1,a2,a3,a4,a5,a6,rfl⟩:=hz_ (hl.trans h4);obtain⟨g0,e0,t0⟩:=Ce_ f0;obtain⟨g1,e1,t1⟩:=Ce_ f1;obtain⟨g2,e2,t2⟩:=Ce_ f2;obtain⟨g3,e3,t3⟩:=Ce_ f3;obtain⟨g4,e4,t4⟩:=Ce_ f4;obtain⟨g5,e5,t5⟩:=Ce_ f5;obtain⟨g6,e6,t6⟩:=Ce_ f6;obtain⟨c0,y0,k0,r0⟩:=hf 0 g0 e0;obtain⟨c1,y1,k1,r1⟩:=hf 1 g1 e1;obtain⟨c2,y2,k2,r2⟩:=hf 2 g2 e2;obtain⟨c3,y3,k3,r3⟩:=hf 3 g3 e3;obtain⟨c4,y4,k4,r4⟩:=hf 4 g4 e4;obtain⟨c5,y5,k5,r5⟩:=hf 5 g5 e5;obtain⟨c6,y6,k6,r6⟩:=hf 6 g6 e6;clear hf
 simp at k0 k1 k2 k3 k4 k5 k6
 subst k0 k1 k2 k3 k4 k5 k6;rw[t0] at r0;rw[t1] at r1;rw[t2] at r2;rw[t3] at r3;rw[t4] at r4;rw[t5] at r5;rw[t6] at r6;obtain⟨win,q0,_,s0⟩:=DataW.trod_int underlying3 r0;obtain⟨tot,q1,_,s1⟩:=DataW.trod_int underlying22 r1;obtain⟨la,ln,lc,ls,q2,hln,hlc,hlr,hlw⟩:=J1_ lnF 3 underlying23 (by kernel_rfl) (by omega) Ay_ LnW (fun n cs y h=>Tk_ h) r2;obtain⟨ov,q3,_,s3⟩:=DataW.trod_int underlying22 r3;obtain⟨trk,q4,_,s4⟩:=DataW.trod_int underlying3 r4;obtain⟨rst,q5,_,s5⟩:=DataW.trod_int underlying22 r5;obtain⟨ra,rn,rc,rj,q6,hrn,hrc,hrr,hrw⟩:=Jf_ (k:=.u64) underlying24 underlying22 (by kernel_rfl) r6
 simp at q0 q1 q2 q3 q4 q5 q6
 subst q0 q1 q2 q3 q4 q5 q6;refine⟨⟨win,tot,_,ov,trk,rst,_,ls,rj⟩,rfl,⟨hlr,hrr,fun a n c e=>by cases e;exact hlc,fun a n c e=>by cases e;exact hrc⟩,?_,Kl_ s1,Kl_ s3,?_,Kl_ s5,hlw,fun n hn=>Kl_ (hrw n hn)⟩
 ·have:=bounds_i64 s0;unfold I64;simp only;omega
 ·have:=bounds_i64 s4;unfold I64;simp only;omega
end
end
end Go.Proofs.YtckmgjmeanloaaaGreat
