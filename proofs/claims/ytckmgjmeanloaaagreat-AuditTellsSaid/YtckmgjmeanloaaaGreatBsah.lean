/- Several texts in one file: contracts of functions of the given program, and plain laws, for the proof of a statement. -/
import Derived.Test.YtckmgjmeanloaaaGreatBsag
import Derived.Test.YtckmgjmeanloaaaGreatBsaf
import Derived.Test.YtckmgjmeanloaaaGreatBsaa
import Derived.Test.YtckmgjmeanloaaaGreatBsab
import Derived.Test.YtckmgjmeanloaaaGreatBsac
import Derived.Test.YtckmgjmeanloaaaGreatBsad
import Derived.Deep.RegionWith
import Derived.Deep.RegionLaw
import Derived.BigRegion
set_option maxHeartbeats 8000000
set_option maxRecDepth 100000
namespace Go.Proofs.YtckmgjmeanloaaaGreat
section
open Go.RowKit Go.Sort
theorem ORows.put {w:World} {v:Value} {vs:List SlR} {rows:List (List Int)} (h:ORows w v vs rows) {j:Nat} {u:SlR} {row:List Int} (hu:vs[j]?=some u) (hr:rows[j]?=some row) {i:Nat} (hi:i<row.length) (x:Int) :
  ∃gb cap,u.v=.slice (some ⟨gb,0,none⟩) row.length cap∧ORows (w.setCell ⟨gb,i,none⟩ (.int .u64 x)) v vs (rows.set j (row.set i x))∧w.grownBy (w.setCell ⟨gb,i,none⟩ (.int .u64 x)) (some gb)∧ownF u.v gb:=by
 have ho:=h.all j u row hu hr;obtain⟨gb,cap,hv,_,_,_,_,_⟩:=ho.at_ A9_ hi;rw[hv] at ho;obtain⟨o1,g1⟩:=ho.stored A9_ hi (j:=0) (by omega) (.int .u64 x) x rfl;rw[Nat.mul_one,Nat.add_zero] at o1 g1
 have hub:ownF u.v gb:=by rw[hv];rfl
 have hS:GrownS (oneF gb) w (w.setCell ⟨gb,i,none⟩ (.int .u64 x)):=GrownS.of g1 fun q e=>by cases e;exact rfl
 refine⟨gb,cap,hv,⟨h.own.offS hS fun q hq e=>?_,by simp[h.len],fun i' u' r hu' hr'=>?_,h.ne,h.apart⟩,g1,hub⟩
 ·have:q=gb:=e
  subst this;exact h.ne u (mo_ hu) q hub hq
 ·by_cases hij:j=i'
  ·subst hij
   rw[hu] at hu';cases hu';rw[List.getElem?_set_self (gs_ hr).1] at hr';cases hr';rw[hv];exact o1
  ·rw[List.getElem?_set_ne hij] at hr'
   refine(h.all i' u' r hu' hr').offS hS fun q hq e=>?_
   have:q=gb:=e
   subst this;exact h.apart j i' u u' hu hu' hij q hub hq
def addTo (t:List Int) (s:Int) (k:ByteArray) (n:Int) (rows:List (List Int)) (j:Nat):List (List Int):=rows.mapIdx fun i row=>if i<j then putRow row (slotR t s k i row) n else row
theorem Pv_ (t:List Int) (s:Int) (k:ByteArray) (n:Int) (rows:List (List Int)):addTo t s k n rows 0=rows:=by
 unfold addTo
 refine List.ext_getElem? fun i=>?_
 rw[List.getElem?_mapIdx];cases rows[i]? <;> simp
theorem R5_ (t:List Int) (s:Int) (k:ByteArray) (n:Int) (rows:List (List Int)):addTo t s k n rows rows.length=Bd_ t s k n rows:=by
 unfold addTo Bd_
 refine List.ext_getElem? fun i=>?_
 rw[List.getElem?_mapIdx,List.getElem?_mapIdx]
 cases hi:rows[i]? with
 | none=>rfl
 | some r=>
  have:=(gs_ hi).1
  simp[this]
theorem Vb_ {t:List Int} {s:Int} {k:ByteArray} {n:Int} {rows:List (List Int)} {j:Nat} {row:List Int} (h:rows[j]?=some row) :(addTo t s k n rows j)[j]?=some row:=by
 unfold addTo;rw[List.getElem?_mapIdx,h];simp
theorem Pr_ {t:List Int} {s:Int} {k:ByteArray} {n:Int} {rows:List (List Int)} {j:Nat} {row:List Int} (h:rows[j]?=some row):addTo t s k n rows (j+1) =(addTo t s k n rows j).set j (putRow row (slotR t s k j row) n):=by
 have hl:=(gs_ h).1
 refine List.ext_getElem? fun i=>?_
 by_cases hij:j=i
 ·subst hij
  rw[List.getElem?_set_self (by unfold addTo;simpa using hl)];unfold addTo;rw[List.getElem?_mapIdx,h];simp
 ·rw[List.getElem?_set_ne hij]
  unfold addTo;rw[List.getElem?_mapIdx,List.getElem?_mapIdx]
  cases rows[i]? with
  | none=>rfl
  | some r=>
   simp only[Option.map_some,Option.some.injEq]
   by_cases h1:i<j
   ·rw[if_pos h1,if_pos (by omega)]
   ·rw[if_neg h1,if_neg (by omega)]
theorem b0_ (g:Nat) (v:Value) (vs:List SlR) (vt:Value) (t:List Int) (seed:Int) (rows:List (List Int)) (sum:Int) (k:ByteArray) (w:World) (h:RSk w g v vs vt t seed rows sum) (ho:RowsOk rows) (hn:0<rows.length) (hn2:rows.length≤1000) (htl:t.length=16) (hs:W64 seed) (hk:k.size≤9223372036854775807) :
  Calls Tryz.prog 180 #[.pointer (some ⟨g,0,none⟩),.string k] w (RetWord (estF t seed k rows) w):=by
 have HE:=hh_ fun y (q:w.grownBy y none)=>Y1_ v (vs.map SlR.v) rows vt t seed k y (h.same q).rows.rd ho hn hn2 (h.same q).tab.rd htl hs hk
 have HB:=hh_ fun y (q:w.grownBy y none)=>(h.same q).blk.cell
 have b0:=h.blk.cell;obtain⟨a,c,hv⟩:=h.rows.own.shape;obtain⟨ta,tc,hv2⟩:=h.tab.shape;rw[htl] at hv2;subst hv hv2;clear h ho hs
 go_enter Tryz.func180,Tryz.ntmps180
 go_upto_region 1 with fail
 have k4:w.grownBy w.drew none:=Am_ (Ab_ w none)
 (refine rn_ 15 (fun i _ w v w'=>match i with | 13=>v=.int .u64 (estF t seed k rows)∧World.grownBy w w' none | _=>False) ?_;simp only[ts_])
 generalize w.drew=wq at *
 (refine tq_ 3 ?_;simp only[ts_,Nat.reduceAdd];(repeat(go_big_quiet_step (fail)));refine wpQuiet_nil ?_)
 (refine Rg.tree_op rfl rfl ?_;intro y3 my3 dy3)
 clear dy3;have ax:=HB.out y3 (Aa_ k4 my3)
 go_wp2_with fail
 refine⟨Ab_ _ _,?_⟩;clear ax my3
 (refine tq_ 3 ?_;simp only[ts_,Nat.reduceAdd];(repeat(go_big_quiet_step (fail)));refine wpQuiet_nil ?_)
 (refine Rg.tree_op rfl rfl ?_;intro y7 my7 dy7)
 clear dy7;have ax:=HB.out y7 (Aa_ k4 my7)
 go_wp2_with fail
 refine⟨Ab_ _ _,?_⟩;clear ax my7
 (refine tq_ 3 ?_;simp only[ts_,Nat.reduceAdd];(repeat(go_big_quiet_step (fail)));refine wpQuiet_nil ?_)
 (refine Rg.tree_op rfl rfl ?_;intro y11 my11 dy11)
 clear dy11;have ax:=HB.out y11 (Aa_ k4 my11)
 go_wp2_with fail
 refine⟨Ab_ _ _,?_⟩;clear ax my11
 (refine tq_ 1 ?_;simp only[ts_,Nat.reduceAdd];(repeat(go_big_quiet_step (fail)));refine wpQuiet_nil ?_)
 (refine Rg.tree_call rfl rfl rfl ?_;intro y13 my13 dy13;refine⟨?_,?_⟩;· (unfold Rg.callSpec;go_simp;(refine(HE.out y13 (Aa_ k4 my13)).mono ?_;rintro e w' ⟨rfl,g'⟩;exact⟨_,rfl,rfl,g'⟩)))
 clear dy13;rintro v6 e6 ⟨rfl,g6⟩;refine⟨g6,?_⟩;simp only[pt_];clear g6 my13
 (refine tq_ 1 ?_;simp only[ts_,Nat.reduceAdd];(repeat(go_big_quiet_step (fail)));refine wpQuiet_nil ?_)
 (refine Rg.tree_nil ?_;intro z mz dz cz)
 go_wp2_with fail
 go_ret
 exact Br_ rfl (Aa_ k4 mz)
theorem av_ {a b:Int} (h1:0≤a∧a≤18446744073709551615) (h2:0≤b∧b≤18446744073709551615):0≤max a b∧max a b≤18446744073709551615:=by omega
theorem Fd_ (g:Nat) (v:Value) (vs:List SlR) (vt:Value) (t:List Int) (seed d n:Int) (rows:List (List Int)) (sum:Int) (k:ByteArray) (x:Int) (w:World) (h:RSk w g v vs vt t seed rows sum) (hG:Grid d n sum rows) (hd:1≤d∧d≤4) (hn:1≤n∧n≤256) (htl:t.length=16) (hs:W64 seed) (hk:0<k.size∧k.size≤255) (hx:1≤x) (h0:0≤sum) (hsx:sum+x≤mostW) :
  Calls Tryz.prog 156 #[.pointer (some ⟨g,0,none⟩),.string k,.int .u64 x] w (fun e w'=>e=.returned (.int .i64 0)∧RSk w' g v vs vt t seed (Bd_ t seed k (estF t seed k rows+x) rows) (sum+x)∧GrownS (rskF g v vs vt) w w'):=by
 have H:=hh_ h;have hmw:mostW=9223372036854775808:=rfl;have hok:=hG.rowsOk hn (show sum≤mostW by omega);have hdl:=hG.depth;have hest:=Q9_ (t:=t) (s:=seed) (k:=k) hG h0 hd.1
 have HE:=hh_ fun y (q:RSk y g v vs vt t seed rows (sum+x))=>b0_ g v vs vt t seed rows (sum+x) k y q hok (by omega) (by omega) htl hs (by omega)
 have HF:=hh_ fun y=>C5_ sum x y ⟨by omega,by omega⟩ ⟨by omega,by omega⟩
 rw[show fitsB sum x=true from decide_eq_true (by omega)] at HF;have hk2:=A7_ k;rw[decide_eq_false (show ¬k.size=0 by omega)] at hk2;have h02 :(x==0)=false:=beq_eq_false_iff_ne.2 (by omega);have hwr:IntKind.u64.wrap (sum+x)=sum+x:=IntWalk.u64_in _ (by omega);have HG:=hh_ hG;have HA:=hh_ (R5_ t seed k (estF t seed k rows+x) rows)
 have HS1:=hh_ fun j row (hr:rows[j]?=some row)=>Pr_ (t:=t) (s:=seed) (k:=k) (n:=estF t seed k rows+x) hr
 have HS2:=hh_ fun j row (hr:rows[j]?=some row)=>Vb_ (t:=t) (s:=seed) (k:=k) (n:=estF t seed k rows+x) hr
 have HS0:=hh_ (Pv_ t seed k (estF t seed k rows+x) rows);have HSl:=hh_ (Uu_ hG hn.1 t seed k);have hvl:vs.length=rows.length:=h.rows.len;have b0:=h.blk.cell;have f0:=h.blk.free;obtain⟨a,c,hv⟩:=h.rows.own.shape;obtain⟨ta,tc,hv2⟩:=h.tab.shape;rw[htl] at hv2;subst hv hv2;have hwr2:IntKind.u64.wrap (estF t seed k rows+x)=estF t seed k rows+x:=IntWalk.u64_in _ (by omega)
 have hb2:0≤estF t seed k rows+x∧estF t seed k rows+x≤18446744073709551615:=by omega
 generalize estF t seed k rows=E at *;clear h hok
 go_enter Tryz.func156,Tryz.ntmps156
 go_upto_region 8 with(go_at_call 118;refine(HF.out _).mono ?_;rintro e w1 ⟨rfl,rfl⟩)
 have g1:w.grownBy (w.setCell ⟨g,3,none⟩ (.int .u64 (sum+x))) (some g):=Ac_ (Ab_ _ _) _ _
 have S1:GrownS (oneF g) w (w.setCell ⟨g,3,none⟩ (.int .u64 (sum+x))):=GrownS.of g1 fun q e=>by cases e;exact rfl
 have B1:=H.out.blk.set_ 3 (.int .u64 (sum+x)) (cs':=#[.slice a vs.length c,.slice ta 16 tc,.int .u64 seed,.int .u64 (sum+x)]) rfl
 have R1:=H.out.rows.keptS S1 fun i hi e=>by
  have:i=g:=e
  subst this;exact H.out.ne.1 hi
 have T1:=H.out.tab.offS S1 fun i hi e=>by
  have:i=g:=e
  subst this;exact H.out.ne.2 hi
 have K1:RSk (w.setCell ⟨g,3,none⟩ (.int .u64 (sum+x))) g (.slice a vs.length c) vs (.slice ta 16 tc) t seed rows (sum+x):=⟨B1,R1,T1,H.out.ne,H.out.off⟩;have HM1:=hh_ (S1.mono (T:=rskF g (.slice a vs.length c) vs (.slice ta 16 tc)) fun i hi _=>.inl hi);clear b0 f0 hwr HF g1 S1 B1 R1 T1;generalize w.setCell ⟨g,3,none⟩ (.int .u64 (sum+x))=w1 at *;have HK1:=hh_ K1;clear K1
 go_upto_region 9 with(go_at_call 180;refine(HE.out _ HK1.out).mono ?_;rintro e w2 ⟨rfl,g2⟩)
 have HK2:=hh_ (HK1.out.same g2);have HM2:=hh_ (HM1.out.trans (GrownS.none_ (S:=fun _=>False) g2) fun i hi _=>hi.elim);have b2:=HK2.out.blk.cell;clear HK1 HM1 g2 H HE
 go_upto_region 10 with fail
 clear b2
 go_loopw [40] (fun s40 wk=>∃j:Nat,j≤rows.length∧s40=.int .i64 j∧RSk wk g (.slice a vs.length c) vs (.slice ta 16 tc) t seed (addTo t seed k (E+x) rows j) (sum+x)∧GrownS (rskF g (.slice a vs.length c) vs (.slice ta 16 tc)) w2 wk) (fun s40 _=>rows.length-(RowKit.intOf s40).toNat)
 case atStart=>exact⟨0,Nat.zero_le _,rfl,by rw[HS0.out];exact HK2.out,GrownS.refl _ _⟩
 case round=>
  obtain⟨j,hj,rfl,hK,hM⟩:=hrel
  by_cases hjl:j<rows.length
  ·have hr:=gq_ hjl
   have h1:=HS1.out j _ hr;have h2:=HS2.out j _ hr;have h3:=HSl.out j _ hr;have hw:=HG.out.width _ (mg_ hjl);have hnum:=HG.out.num _ (mg_ hjl);have hslot:=hh_ (show slotR t seed k j rows[j] =(slotF (hashF t (seedF seed j) k) rows[j].length).toNat from rfl)
   have hjv:j<vs.length:=by omega
   have hu:=gq_ hjv;obtain⟨gb,cap,hv,_⟩:=hK.rows.put hu h2 h3 0
   have HPUT:=hh_ fun y (R:RSk y g (.slice a vs.length c) vs (.slice ta 16 tc) t seed (addTo t seed k (E+x) rows j) (sum+x))=>R.rows.put hu h2 h3 (max (rows[j].getD (slotR t seed k j rows[j]) 0) (E+x))
   have hca:=(hK.rows.all j _ _ hu h2).rd.one B7_ h3;obtain⟨gv,offv,capv,hvv,hgv,cv⟩:=hK.rows.own.rd.one dm_ hjv;cases hvv;obtain⟨gw,offw,capw,hww,hgw,cw⟩:=hca
   have hwl:0<rows[j].length:=by omega
   have hwl2:rows[j].length≤256:=by omega
   have hgd:rows[j].getD (slotR t seed k j rows[j]) 0=rows[j][slotR t seed k j rows[j]]:=by rw[List.getD_eq_getElem?_getD,gq_ h3];rfl
   have hmem:=hnum _ (mg_ h3);rw[←hgd] at cw hmem;have hmb:=av_ (a:=rows[j].getD (slotR t seed k j rows[j]) 0) (b:=E+x) ⟨by omega,by omega⟩ hb2;have Hput:=hh_ (show putRow rows[j] (slotR t seed k j rows[j]) (E+x)=rows[j].set (slotR t seed k j rows[j]) (max (rows[j].getD (slotR t seed k j rows[j]) 0) (E+x)) from rfl);have hhash:=Jf_ t (seedF seed j) k
   have HRow:=hh_ fun y (R:RSk y g (.slice (some ⟨gv,offv,none⟩) vs.length c) vs (.slice ta 16 tc) t seed (addTo t seed k (E+x) rows j) (sum+x))=>Yt_ (.slice ta 16 tc) t seed j k y R.tab.rd htl hs (by omega) (by omega) (by omega)
   have HSlo:=hh_ fun y=>Nd_ (hashF t (seedF seed j) k) rows[j].length y hhash (by omega) (by omega)
   have hslotb:=Fs_ (hashF t (seedF seed j) k) rows[j].length (by omega);have hsl:=hslot.out;generalize rows[j].getD (slotR t seed k j rows[j]) 0=cj at *;generalize slotR t seed k j rows[j]=sj at *;generalize rows[j]=rj at *;generalize hashF t (seedF seed j) k=hh at *
   have hsj:slotF hh rj.length =(sj:Int):=by omega
   rw[hsj] at HSlo hslotb;generalize vs[j]=u at *;rw[hww] at hv cv;obtain⟨e1,_,e2⟩:=Value.slice.inj hv;cases e1;subst e2;simp only[Nat.zero_add] at cw;have HK:=hh_ hK;have HU:=hh_ (show ownF u.v gb by rw[hww];rfl);have HV:=hh_ hww;have HUm:=hh_ (mo_ hu);have HM:=hh_ hM;have H1:=hh_ h1;have b3:=hK.blk.cell;have f3:=(hK.rows.all j _ _ hu h2);rw[hww] at f3;obtain⟨_,_,e3,_,_,_,_,hfz⟩:=f3.at_ A9_ h3;cases e3;have hfz1:=hh_ (hfz sj)
   have hjr :(j:Int)<(rows.length:Int):=by omega
   have hjr0 :(0:Int)≤(j:Int):=by omega
   clear hK hM h1 h2 hr hu hw hnum hgd hslot hsl hhash hmem hsj hfz
   go_upto_region 12 with fail
   have k4:wr.grownBy wr.drew none:=Am_ (Ab_ wr none)
   (refine rn_ 15 (fun i _ w v w'=>match i with | 10=>v=.int .u64 hh∧World.grownBy w w' none | 13=>v=.int .i64 sj∧World.grownBy w w' none | _=>False) ?_;simp only[ts_])
   have HK4:=hh_ (HK.out.same k4);generalize wr.drew=wq at *
   (refine tq_ 3 ?_;simp only[ts_,Nat.reduceAdd];(repeat(go_big_quiet_step (fail)));refine wpQuiet_nil ?_)
   (refine Rg.tree_op rfl rfl ?_;intro y3 my3 dy3)
   clear dy3;have ax:=(HK4.out.same my3).blk.cell
   go_wp2_with fail
   refine⟨Ab_ _ _,?_⟩;clear ax my3
   (refine tq_ 3 ?_;simp only[ts_,Nat.reduceAdd];(repeat(go_big_quiet_step (fail)));refine wpQuiet_nil ?_)
   (refine Rg.tree_op rfl rfl ?_;intro y7 my7 dy7)
   clear dy7;have ax:=(HK4.out.same my7).blk.cell
   go_wp2_with fail
   refine⟨Ab_ _ _,?_⟩;clear ax my7
   (refine tq_ 2 ?_;simp only[ts_,Nat.reduceAdd];(repeat(go_big_quiet_step (fail)));refine wpQuiet_nil ?_)
   (refine Rg.tree_call rfl rfl rfl ?_;intro y10 my10 dy10;refine⟨?_,?_⟩;· (unfold Rg.callSpec;go_simp;(refine(HRow.out y10 (HK4.out.same my10)).mono ?_;rintro e w' ⟨rfl,g'⟩;exact⟨_,rfl,rfl,g'⟩)))
   clear dy10;rintro v6 e6 ⟨rfl,g6⟩;refine⟨g6,?_⟩;simp only[pt_];clear g6 my10
   (refine tq_ 2 ?_;simp only[ts_,Nat.reduceAdd];(repeat(go_big_quiet_step (fail)));refine wpQuiet_nil ?_)
   (refine Rg.tree_call rfl rfl rfl ?_;intro y13 my13 dy13;refine⟨?_,?_⟩;· (unfold Rg.callSpec;go_simp;(refine(HSlo.out y13).mono ?_;rintro e w' ⟨rfl,rfl⟩;exact⟨_,rfl,rfl,Ab_ _ _⟩)))
   clear dy13;rintro v7 e7 ⟨rfl,g7⟩;refine⟨g7,?_⟩;simp only[pt_];clear g7 my13
   (refine tq_ 1 ?_;simp only[ts_,Nat.reduceAdd];(repeat(go_big_quiet_step (fail)));refine wpQuiet_nil ?_)
   (refine Rg.tree_nil ?_;intro z mz dz cz)
   have K5:=HK4.out.same mz;have hblk:=(Aa_ k4 mz).block gb hgw (by simp);have cz1:z.cell? ⟨gb,sj,none⟩=some (.int .u64 cj):=(World.cell?_of_block (a:=⟨gb,sj,none⟩) hblk).trans cw;have fz1:z.frozen? ⟨gb,sj,none⟩=false:=(World.frozen?_of_block (a:=⟨gb,sj,none⟩) hblk).trans hfz1.out;obtain⟨gb',cap',hv',R6,g6,hu6⟩:=HPUT.out z K5;rw[HV.out] at hv';cases hv'
   have hsj0 :(0:Int)≤(sj:Int):=by omega
   have hsj1 :(sj:Int)<(rj.length:Int):=by omega
   go_wp2_with fail
   have hS6:GrownS (oneF gb) z (z.setCell ⟨gb,sj,none⟩ (.int .u64 (max cj (E+x)))):=GrownS.of g6 fun q e=>by cases e;exact rfl
   have hgbF:rowsF (.slice (some ⟨gv,offv,none⟩) vs.length c) vs gb:=.inr ⟨u,HUm.out,HU.out⟩
   have hgne:g≠gb:=fun e=>by rw[e] at K5;exact K5.ne.1 hgbF
   refine⟨⟨j+1,by omega,by go_num,?_,?_⟩,by simp[RowKit.intOf];omega⟩
   ·rw[H1.out,Hput.out]
    exact⟨K5.blk.kept g6 (by simp;omega),R6,K5.tab.offS hS6 fun i hi e=>by rw[show i=gb from e] at hi;exact K5.off gb hi hgbF,K5.ne,K5.off⟩
   ·exact(HM.out.trans (GrownS.none_ (S:=fun _=>False) (Aa_ k4 mz)) fun i hi _=>hi.elim).trans hS6 fun i hi _=>.inr (.inl (by rw[show i=gb from hi];exact hgbF))
  ·obtain rfl:j=rows.length:=by omega
   rw[HA.out] at hK
   go_wp2_with fail
   go_ret
   exact⟨rfl,hK,HM2.out.trans hM fun i hi _=>hi⟩
end
section
open Go.RowKit Go.Sort
attribute [local go_sem ↓] Ag_
attribute [local go_sem] Ah_
structure RtG where
 (g gT:Nat) (vT:Value) (gS:Nat) (vS:Value) (gK:Nat) (vr:Value) (vs:List SlR) (vt:Value)
abbrev R4_ (c:Cfg) (gT gS gK:Nat):Array Value:=#[.int .i64 c.Length,.int .i64 c.Lateness,.int .i64 c.Windows,.int .i64 c.Shards,.int .i64 c.Spread,.int .i64 c.Queue,.int .i64 c.Mode,.int .i64 c.Slots,.int .i64 c.Exact,.int .u64 c.Promote,.int .i64 c.Depth,.int .i64 c.Width,.int .i64 c.Top,.int .i64 c.Key,c.Classes,c.Table,.int .u64 c.Seed,.pointer (some ⟨gT,0,none⟩),.pointer (some ⟨gS,0,none⟩),.pointer (some ⟨gK,0,none⟩)]
def RtG.F (G:RtG):Fp:=fun i=>i=G.g∨rtF G.gT G.vT i∨rtF G.gS G.vS i∨rskF G.gK G.vr G.vs G.vt i
structure RTier (w:World) (G:RtG) (c:Cfg) (t:List Int) (X:Aq_):Prop where
 blk:Blk w G.g (R4_ c G.gT G.gS G.gK)
 tab:RTab w G.gT G.vT X.T
 sto:RSto w G.gS G.vS c.Exact X.S
 sk:RSk w G.gK G.vr G.vs G.vt t c.Seed X.rows X.sum
 g1:¬rtF G.gT G.vT G.g
 g2:¬rtF G.gS G.vS G.g
 g3:¬rskF G.gK G.vr G.vs G.vt G.g
 o1:Off (rtF G.gT G.vT) (rtF G.gS G.vS)
 o2:Off (rtF G.gT G.vT) (rskF G.gK G.vr G.vs G.vt)
 o3:Off (rtF G.gS G.vS) (rskF G.gK G.vr G.vs G.vt)
theorem RTier.low {w:World} {G:RtG} {c:Cfg} {t:List Int} {X:Aq_} (h:RTier w G c t X):Low w G.F:=fun i hi=>by
 rcases hi with rfl|hi|hi|hi
 ·exact h.blk.lt
 ·exact h.tab.low i hi
 ·exact h.sto.low i hi
 ·exact h.sk.low i hi
theorem RTier.keptS {w w':World} {G:RtG} {c:Cfg} {t:List Int} {X:Aq_} {S:Fp} (h:RTier w G c t X) (k:GrownS S w w') (ho:Off G.F S):RTier w' G c t X:=
 ⟨h.blk.keptS k (ho G.g (.inl rfl)),h.tab.keptS k (ho.left fun i hi=>.inr (.inl hi)),h.sto.keptS k (ho.left fun i hi=>.inr (.inr (.inl hi))),h.sk.keptS k (ho.left fun i hi=>.inr (.inr (.inr hi))),h.g1,h.g2,h.g3,h.o1,h.o2,h.o3⟩
theorem RTier.same {w w':World} {G:RtG} {c:Cfg} {t:List Int} {X:Aq_} (h:RTier w G c t X) (k:w.grownBy w' none):RTier w' G c t X:=h.keptS (GrownS.none_ (S:=fun _=>False) k) fun _ _=>id
theorem RTier.setTab {w w':World} {G:RtG} {c:Cfg} {t:List Int} {X:Aq_} (h:RTier w G c t X) {v':Value} {T':TabM} (hT:RTab w' G.gT v' T') (m:Mov (rtF G.gT G.vT) (rtF G.gT v') w w'):RTier w' { G with vT:=v' } c t { X with T:=T' }∧Mov G.F { G with vT:=v' }.F w w':=by
 have hg:GrownS (rtF G.gT G.vT) w w':=m.grown;refine⟨⟨h.blk.keptS hg h.g1,hT,h.sto.keptS hg h.o1.symm,h.sk.keptS hg h.o2.symm,?_,h.g2,h.g3,?_,?_,h.o3⟩,m.wide (fun i hi=>.inr (.inl hi)) fun i hi=>?_⟩
 ·exact fun hi=>(m.off (G:=fun i=>i=G.g) (fun i e=>by rw[e];exact h.blk.lt) (fun i e hi=>h.g1 (by rw[←show i=G.g from e];exact hi))) G.g rfl hi
 ·exact(m.off h.sto.low h.o1.symm).symm
 ·exact(m.off h.sk.low h.o2.symm).symm
 ·rcases hi with hi|hi|hi
  ·exact .inl (.inl hi)
  ·exact .inr hi
  ·exact .inl (.inr (.inr hi))
theorem RTier.setSto {w w':World} {G:RtG} {c:Cfg} {t:List Int} {X:Aq_} (h:RTier w G c t X) {v':Value} {S':List Ent} (hT:RSto w' G.gS v' c.Exact S') (m:Mov (rtF G.gS G.vS) (rtF G.gS v') w w'):RTier w' { G with vS:=v' } c t { X with S:=S' }∧Mov G.F { G with vS:=v' }.F w w':=by
 have hg:GrownS (rtF G.gS G.vS) w w':=m.grown;refine⟨⟨h.blk.keptS hg h.g2,h.tab.keptS hg h.o1,hT,h.sk.keptS hg h.o3.symm,h.g1,?_,h.g3,?_,h.o2,?_⟩,m.wide (fun i hi=>.inr (.inr (.inl hi))) fun i hi=>?_⟩
 ·exact fun hi=>(m.off (G:=fun i=>i=G.g) (fun i e=>by rw[e];exact h.blk.lt) (fun i e hi=>h.g2 (by rw[←show i=G.g from e];exact hi))) G.g rfl hi
 ·exact m.off h.tab.low h.o1
 ·exact(m.off h.sk.low h.o3.symm).symm
 ·rcases hi with hi|hi|hi|hi
  ·exact .inl (.inl hi)
  ·exact .inl (.inr (.inl hi))
  ·exact .inr hi
  ·exact .inl (.inr (.inr (.inr hi)))
theorem RTier.setSk {w w':World} {G:RtG} {c:Cfg} {t:List Int} {X:Aq_} (h:RTier w G c t X) {rows':List (List Int)} {sum':Int} (hT:RSk w' G.gK G.vr G.vs G.vt t c.Seed rows' sum') (m:GrownS (rskF G.gK G.vr G.vs G.vt) w w'):RTier w' G c t { X with rows:=rows',sum:=sum' }∧Mov G.F G.F w w':=
 ⟨⟨h.blk.keptS m h.g3,h.tab.keptS m h.o2,h.sto.keptS m h.o3,hT,h.g1,h.g2,h.g3,h.o1,h.o2,h.o3⟩,⟨m.mono fun i hi _=>.inr (.inr (.inr hi)),fun i hi=>.inl hi⟩⟩
structure A8_ (c:Cfg):Prop where
 mode:c.Mode=1∨c.Mode=2
 slots:1≤c.Slots∧c.Slots≤64
 exact:0≤c.Exact∧c.Exact≤32
 promote:0≤c.Promote∧c.Promote<18446744073709551616
 depth:1≤c.Depth∧c.Depth≤4
 width:1≤c.Width∧c.Width≤256
 seed:0≤c.Seed∧c.Seed<18446744073709551616
theorem CfgNums.tier {c:Cfg} (h:CfgNums c):A8_ c:=⟨h.mode,h.slots,h.exact,h.promote,h.depth,h.width,h.seed⟩
theorem A8_.cfg {c:Cfg} (h:A8_ c):Bs_ c:=⟨h.mode,h.slots,h.exact.1,h.depth.1,h.width⟩
theorem P7_ (c:Cfg) (t:List Int) (w:World) (hn:A8_ c) (ht:RdL wordF 1 w c.Table t) (htl:t.length=16) :
  Calls Tryz.prog 122 #[c.val] w (fun e w'=>∃G,e=.returned (.tuple #[.pointer (some ⟨G.g,0,none⟩),.int .i64 0])∧RTier w' G c t (tier0 c)∧(∀i,G.F i→w.heap.size≤i)∧w.grownBy w' none):=by
 have HT:=hh_ fun y (q:w.grownBy y none)=>a3_ c.Depth c.Width c.Table t c.Seed y hn.depth hn.width (RdL.same ht q) htl
 have HN:=hh_ fun y=>az_ c.Mode c.Slots y hn.mode hn.slots
 have HS:=hh_ fun y=>ak_ c.Exact y hn.exact
 obtain⟨ta,tc,htv⟩:=ht.shape;rw[htl] at htv;clear hn ht
 go_enter Tryz.func122,Tryz.ntmps122
 go_upto_region 1 with(refine As_ rfl _ rfl c rfl ?_;intro w1 B1 G1 z1)
 have b1:=B1.cell;simp only[Cfg.arr] at b1
 go_upto_region 4 with(go_at_call 153;refine(HN.out _).mono ?_;rintro e w2 ⟨gT,rfl,R2,hz2,g2⟩)
 have G2:=Aa_ G1 g2;have B2:=B1.same g2
 have hT0:∀i,rtF gT (.slice none 0 0) i→w.heap.size≤i:=fun i hi=>by
  rcases hi with rfl|hi
  ·exact lt_ G1.size hz2
  ·exact absurd hi (Ax_ i)
 have HR2:=hh_ R2;have b2:=B2.cell;simp only[Cfg.arr] at b2;clear b1 B1 g2 R2
 go_upto_region 7 with(go_at_call 154;refine(HS.out _).mono ?_;rintro e w3 ⟨gS,rfl,R3,hz3,g3⟩)
 have G3:=Aa_ G2 g3;have B3:=B2.same g3;have HR3:=hh_ R3;have HT3:=hh_ (HR2.out.same g3)
 have hS0:∀i,rtF gS (.slice none 0 0) i→w2.heap.size≤i:=fun i hi=>by
  rcases hi with rfl|hi
  ·exact hz3
  ·exact absurd hi (Ax_ i)
 have b3:=B3.cell;simp only[Cfg.arr] at b3;rw[htv] at b3;have HT4:=hh_ (HT.out _ G3);rw[htv] at HT4;have hz23:=g3.size;clear b2 B2 g3 R3
 go_upto_region 10 with(go_at_call 155;refine HT4.out.mono ?_;rintro e w4 ⟨gK,vr,vs,vt,rfl,R4,hK0,g4⟩)
 have G4:=Aa_ G3 g4;have B4:=B3.same g4;have HR4:=hh_ R4;have HS5:=hh_ (HR3.out.same g4);have HT5:=hh_ (HT3.out.same g4);have hlT:=HR2.out.low;have hlS:=HR3.out.low;have hz4:=G2.size;clear b3 B3 g4 R4 HT4 htv
 go_wp2_with (refine Al_ rfl _ rfl _ rfl c B4 ?_)
 go_ret2
 have HB:=hh_ (Blk.new w4 (R4_ c gT gS gK) 216);have g5:=ga_ w4 (.cells (R4_ c gT gS gK) 216) none;have k4:=G4.size;have k3:=G3.size;have l4:=HR4.out.low;have l3:=HS5.out.low;have l2:=HT5.out.low;refine⟨⟨w4.heap.size,gT,.slice none 0 0,gS,.slice none 0 0,gK,vr,vs,vt⟩,rfl,⟨HB.out,HT5.out.same g5,HS5.out.same g5,HR4.out.same g5,fun h=>Nat.lt_irrefl _ (l2 _ h),fun h=>Nat.lt_irrefl _ (l3 _ h),fun h=>Nat.lt_irrefl _ (l4 _ h),fun i h h'=>by have:=hlT i h;have:=hS0 i h';omega,fun i h h'=>?_,fun i h h'=>?_⟩,fun i hi=>?_,Aa_ G4 g5⟩
 ·have:=hlT i h;have:=hK0 i h';have:=G3.size;omega
 ·have:=hlS i h;have:=hK0 i h';omega
 ·rcases hi with hi|hi|hi|hi
  ·exact lt_ k4 (Nat.le_of_eq (Eq.symm hi))
  ·exact hT0 i hi
  ·have:=hS0 i hi;omega
  ·have:=hK0 i hi;omega
end
section
open Go.RowKit Go.Sort
theorem Rj_ (g:Nat) (v:Value) (vs:List SlR) (vt:Value) (t:List Int) (seed:Int) (rows:List (List Int)) (sum:Int) (k:ByteArray) (x:Int) (w:World) (h:RSk w g v vs vt t seed rows sum) (hT:W64 sum) (hx:W64 x) (he:addErr sum k x≠0) :
  Calls Tryz.prog 156 #[.pointer (some ⟨g,0,none⟩),.string k,.int .u64 x] w (RetInt (addErr sum k x) w):=by
 have HF:=hh_ fun y=>C5_ sum x y hT hx
 have b0:=h.blk.cell
 have R:∀w' e,e=addErr sum k x→w.grownBy w' none→RetInt (addErr sum k x) w (.returned (.int .i64 e)) w':=fun w' e he' hg=>⟨by rw[he'],hg⟩
 clear h;unfold addErr at R he ⊢
 by_cases hk:k.size=0
 ·rw[if_pos hk] at R ⊢
  have hk2:=A7_ k;rw[decide_eq_true hk] at hk2
  go_enter Tryz.func156,Tryz.ntmps156
  go_wp2_with fail
  go_ret
  exact R _ _ rfl (Ab_ _ _)
 ·rw[if_neg hk] at R he ⊢
  have hk2:=A7_ k;rw[decide_eq_false hk] at hk2
  by_cases h0:x=0
  ·rw[if_pos h0] at R ⊢
   subst h0
   go_enter Tryz.func156,Tryz.ntmps156
   go_wp2_with fail
   go_ret
   exact R _ _ rfl (Ab_ _ _)
  ·rw[if_neg h0] at R he ⊢
   have h02 :(x==0)=false:=beq_eq_false_iff_ne.2 h0
   have hm:mostW<sum+x:=Decidable.byContradiction fun h=>he (if_neg h)
   rw[if_pos hm] at R ⊢;have hF:fitsB sum x=false:=decide_eq_false (by unfold mostW at hm;omega);rw[hF] at HF
   go_enter Tryz.func156,Tryz.ntmps156
   go_wp2_with (go_at_call 118;refine(HF.out _).mono ?_;rintro e w1 ⟨rfl,rfl⟩)
   go_ret
   exact R _ _ rfl (Ab_ _ _)
def RTAdd (G:RtG) (c:Cfg) (t:List Int) (X:Aq_) (k:ByteArray) (x:Int) (w:World) (e:Ending) (w':World):Prop:=
 e=.returned (.int .i64 (X.err k x))∧∃G',RTier w' G' c t (if X.err k x=0 then X.add c t k x else X)∧Mov G.F G'.F w w'∧G'.g=G.g
theorem S5_ (G:RtG) (c:Cfg) (t:List Int) (X:Aq_) (k:ByteArray) (x:Int) (w:World) (h:RTier w G c t X) (hok:TierOk c X) (hx:W64 x) (he:X.err k x≠0) :
  Calls Tryz.prog 123 #[.pointer (some ⟨G.g,0,none⟩),.string k,.int .u64 x] w (RTAdd G c t X k x w):=by
 have H:=hh_ h;have hs:=hok.sums;have hb:=hok.tab.base
 have R:∀w' e,e=X.err k x→w.grownBy w' none→RTAdd G c t X k x w (.returned (.int .i64 e)) w':=fun w' e he' hg=>⟨by rw[he'],G,by rw[if_neg he];exact H.out.same hg,Mov.same hg,rfl⟩
 have b0:=h.blk.cell;unfold Aq_.err at R he
 by_cases hk:k.size=0
 ·rw[if_pos hk] at R
  have hk2:=A7_ k;rw[decide_eq_true hk] at hk2;clear h hok
  go_enter Tryz.func123,Tryz.ntmps123
  go_wp2_with fail
  go_ret
  exact R _ _ rfl (Ab_ _ _)
 ·rw[if_neg hk] at R he
  have hk2:=A7_ k;rw[decide_eq_false hk] at hk2
  by_cases hl:255<k.size
  ·rw[if_pos hl] at R
   have hl2 :(255:Int)<(k.size:Int):=by omega
   clear h hok
   go_enter Tryz.func123,Tryz.ntmps123
   go_wp2_with fail
   go_ret
   exact R _ _ rfl (Ab_ _ _)
  ·rw[if_neg hl] at R he
   have hl2:¬(255:Int)<(k.size:Int):=by omega
   have hE:addErr X.sum k x=if x=0 then 1 else if mostW<X.sum+x then 12 else 0:=by unfold addErr;rw[if_neg hk]
   rw[←hE] at R he
   have HA:=hh_ fun y (q:w.grownBy y none)=>Rj_ G.gK G.vr G.vs G.vt t c.Seed X.rows X.sum k x y (h.same q).sk (Hd_ (by omega) hs.2) hx he
   have he2 :(addErr X.sum k x != 0)=true:=bne_iff_ne.2 he;clear h hok hE;generalize addErr X.sum k x=E at *;obtain⟨g,gT,vT,gS,vS,gK,vr,vs,vt⟩:=G;dsimp only at *
   go_enter Tryz.func123,Tryz.ntmps123
   go_wp2_with (go_at_call 156;refine(HA.out _ (Ab_ _ _)).mono ?_;rintro e w1 ⟨rfl,g1⟩)
   go_ret
   exact R _ _ rfl g1
end
section
open Go.RowKit Go.Sort
theorem Aq_.err_ok {X:Aq_} {k:ByteArray} {x:Int} (hk:0<k.size∧k.size≤255) (hx:1≤x) (hs:X.sum+x≤mostW):X.err k x=0:=by
 unfold Aq_.err;rw[if_neg (by omega),if_neg (by omega),if_neg (by omega),if_neg (by omega)]
theorem Aq_.add_ex {c:Cfg} {t:List Int} {X:Aq_} {k:ByteArray} {x:Int} {en:Ent} (hg:getE X.S k=some en):X.add c t k x={ X with S:=G0_ X.S k x,rows:=Bd_ t c.Seed k (estF t c.Seed k X.rows+x) X.rows,sum:=X.sum+x }:=by
 unfold Aq_.add;rw[hg]
theorem Aq_.add_tab {c:Cfg} {t:List Int} {X:Aq_} {k:ByteArray} {x:Int} (hg:getE X.S k=none):X.add c t k x={ X with T:=(promo c.Exact c.Promote (X.T.add k x) X.S k).1,S:=(promo c.Exact c.Promote (X.T.add k x) X.S k).2,rows:=Bd_ t c.Seed k (estF t c.Seed k X.rows+x) X.rows,sum:=X.sum+x }:=by
 unfold Aq_.add;rw[hg]
theorem Yr_ (G:RtG) (c:Cfg) (t:List Int) (X:Aq_) (k:ByteArray) (x:Int) (w:World) (h:RTier w G c t X) (hok:TierOk c X) (hn:A8_ c) (htl:t.length=16) (hk:0<k.size∧k.size≤255) (hx:1≤x) (hs:X.sum+x≤mostW) (en:Ent) (hg:getE X.S k=some en) :
  Calls Tryz.prog 123 #[.pointer (some ⟨G.g,0,none⟩),.string k,.int .u64 x] w (RTAdd G c t X k x w):=by
 have hcn:=hok.cnt en (A4_ hg).1;have hE:=hok.ents;have H:=hh_ h;have hss:=hok.sums;have hbb:=hok.tab.base;have hmw:mostW=9223372036854775808:=rfl;have hgr:=hok.rows
 have HSK:=hh_ fun y (q:RTier y G c t X)=>Fd_ G.gK G.vr G.vs G.vt t c.Seed c.Depth c.Width X.rows X.sum k x y q.sk hgr hn.depth hn.width htl ⟨hn.seed.1,by have:=hn.seed.2;omega⟩ hk hx (by omega) hs
 obtain⟨X1,hX1⟩:∃X1:Aq_,X1={ X with rows:=Bd_ t c.Seed k (estF t c.Seed k X.rows+x) X.rows,sum:=X.sum+x }:=⟨_,rfl⟩;have HX1:=hh_ hX1
 have HK1:=hh_ fun y (q:RTier y G c t X1)=>Im_ G.gS G.vS c.Exact X1.S k en y q.sto (by rw[hX1];exact hg)
 have hk2:=A7_ k;rw[decide_eq_false (show ¬k.size=0 by omega)] at hk2
 have hl2:¬(255:Int)<(k.size:Int):=by omega
 have b0:=h.blk.cell;obtain⟨g,gT,vT,gS,vS,gK,vr,vs,vt⟩:=G;dsimp only at *
 have HA:=hh_ fun y (q:RTier y ⟨g,gT,vT,gS,vS,gK,vr,vs,vt⟩ c t X1)=>ag_ gS vS c.Exact X1.S k x en y q.sto (by rw[hX1];exact hE) (by rw[hX1];exact hg) hx (by unfold Ent.cnt at hcn;omega)
 have HE:=hh_ (Aq_.err_ok (X:=X) hk hx hs);have HR:=hh_ (show(if X.err k x=0 then X.add c t k x else X)={ X1 with S:=G0_ X1.S k x } by rw[if_pos (Aq_.err_ok hk hx hs),Aq_.add_ex hg,hX1]);clear h hok hgr hE hcn hg hX1
 go_enter Tryz.func123,Tryz.ntmps123
 go_upto_region 8 with(go_at_call 156;refine(HSK.out _ H.out).mono ?_;rintro e w1 ⟨rfl,K1,M1⟩)
 have P1:=H.out.setSk K1 M1;rw[←HX1.out] at P1;have HR1:=hh_ P1.1;have HM1:=hh_ P1.2;have b1:=HR1.out.blk.cell;clear b0 K1 M1 P1 HSK
 go_upto_region 9 with(go_at_call 157;refine(HK1.out _ HR1.out).mono ?_;rintro e w2 ⟨rfl,g2⟩)
 have b2:=(HR1.out.same g2).blk.cell
 (have A3:=Blk.new w2 #[.string en.key,.int .u64 en.own,.int .u64 en.slack] 224);(have G3:=ga_ w2 (.cells #[.string en.key,.int .u64 en.own,.int .u64 en.slack] 224) none);generalize w2.alloc (.cells #[.string en.key,.int .u64 en.own,.int .u64 en.slack] 224)=w3 at *;generalize hgc:w2.heap.size=gc at *
 have R3:=(HR1.out.same g2).same G3;have M3:=HM1.out.trans (Mov.same (Aa_ g2 G3));have b3:=R3.blk.cell;have HR3:=hh_ R3;clear b1 b2 A3 R3 HR1 HM1 g2 G3
 go_wp2_with (go_at_call 158;refine(HA.out _ HR3.out).mono ?_;rintro e w4 ⟨rfl,S4,m4⟩)
 go_ret
 obtain⟨R5,M5⟩:=HR3.out.setSto S4 m4;exact⟨by rw[HE.out];rfl,_,by rw[HR.out];exact R5,M3.trans M5,rfl⟩
end
section
open Go.RowKit Go.Sort
def Aq_.mid (c:Cfg) (t:List Int) (X:Aq_) (k:ByteArray) (x:Int):Aq_:={ X with T:=X.T.add k x,rows:=Bd_ t c.Seed k (estF t c.Seed k X.rows+x) X.rows,sum:=X.sum+x }
theorem Aq_.add_mid {c:Cfg} {t:List Int} {X:Aq_} {k:ByteArray} {x:Int} (hk:0<k.size∧k.size≤255) (hx:1≤x) (hs:X.sum+x≤mostW) (hg:getE X.S k=none) {p:TabM×List Ent} (hp:promo c.Exact c.Promote (X.T.add k x) X.S k=p) :(if X.err k x=0 then X.add c t k x else X)={ X.mid c t k x with T:=p.1,S:=p.2 }:=by
 rw[if_pos (Aq_.err_ok hk hx hs),Aq_.add_tab hg,hp];rfl
theorem bi_ {ex pr:Int} {T:TabM} {S:List Ent} {k:ByteArray} (h:T.get k=none):promo ex pr T S k =(T,S):=by unfold promo;rw[h]
theorem a5_ {ex pr:Int} {T:TabM} {S:List Ent} {k:ByteArray} {e:Ent} (h:T.get k=some e) (h2:ex=0∨e.own<pr):promo ex pr T S k =(T,S):=by unfold promo;rw[h];dsimp only;rw[if_pos h2]
theorem bd_ {ex pr:Int} {T:TabM} {S:List Ent} {k:ByteArray} {e:Ent} (h:T.get k=some e) (h2:¬(ex=0∨e.own<pr)) (h3 :(S.length:Int)≠ex):promo ex pr T S k =(T.take k,insE S e):=by unfold promo;rw[h];dsimp only;rw[if_neg h2,if_pos h3]
theorem ay_ {ex pr:Int} {T:TabM} {S:List Ent} {k:ByteArray} {e x:Ent} (h:T.get k=some e) (h2:¬(ex=0∨e.own<pr)) (h3 :(S.length:Int)=ex) (h4:lastMin S=some x) (h5:e.own≤x.cnt):promo ex pr T S k =(T,S):=by unfold promo;rw[h];dsimp only;rw[if_neg h2,if_neg (by omega),h4];dsimp only;rw[if_pos h5]
theorem ac_ {ex pr:Int} {T:TabM} {S:List Ent} {k:ByteArray} {e x:Ent} (h:T.get k=some e) (h2:¬(ex=0∨e.own<pr)) (h3 :(S.length:Int)=ex) (h4:lastMin S=some x) (h5:¬e.own≤x.cnt):promo ex pr T S k =(T.swap k x,insE (delE S x.key) e):=by unfold promo;rw[h];dsimp only;rw[if_neg h2,if_neg (by omega),h4];dsimp only;rw[if_neg h5]
theorem Dg_ {w w':World} {G:RtG} {c:Cfg} {t:List Int} {X X1:Aq_} {k:ByteArray} {x:Int} {e:Ending} (h:RTier w G c t X1) (h1:X1={ X with rows:=Bd_ t c.Seed k (estF t c.Seed k X.rows+x) X.rows,sum:=X.sum+x }) (hA:addErr X.T.sum k x=0) (hr:RAdd G.gT G.vT X1.T k x w e w') :
  e=.returned (.int .i64 0)∧∃v',RTier w' { G with vT:=v' } c t (X.mid c t k x)∧Mov G.F { G with vT:=v' }.F w w':=by
 obtain⟨he,v',hT,hm⟩:=hr
 have hA':addErr X1.T.sum k x=0:=by rw[h1];exact hA
 rw[hA'] at he;rw[if_pos hA'] at hT;obtain⟨a,b⟩:=h.setTab hT hm;refine⟨he,v',?_,b⟩
 have :(X.mid c t k x)={ X1 with T:=X1.T.add k x }:=by rw[h1];rfl
 rw[this];exact a
theorem Wv_ (G:RtG) (c:Cfg) (t:List Int) (X:Aq_) (k:ByteArray) (x:Int) (w:World) (h:RTier w G c t X) (hok:TierOk c X) (hn:A8_ c) (htl:t.length=16) (hk:0<k.size∧k.size≤255) (hx:1≤x) (hs:X.sum+x≤mostW) (hg:getE X.S k=none) (hget :(X.T.add k x).get k=none) :
  Calls Tryz.prog 123 #[.pointer (some ⟨G.g,0,none⟩),.string k,.int .u64 x] w (RTAdd G c t X k x w):=by
 have HR:=hh_ (Aq_.add_mid (t:=t) hk hx hs hg (bi_ (ex:=c.Exact) (pr:=c.Promote) (S:=X.S) hget));have HE:=hh_ (Aq_.err_ok (X:=X) hk hx hs);have H:=hh_ h;have hss:=hok.sums;have hbb:=hok.tab.base;have hmw:mostW=9223372036854775808:=rfl;have hgr:=hok.rows
 have HSK:=hh_ fun y (q:RTier y G c t X)=>Fd_ G.gK G.vr G.vs G.vt t c.Seed c.Depth c.Width X.rows X.sum k x y q.sk hgr hn.depth hn.width htl ⟨hn.seed.1,by have:=hn.seed.2;omega⟩ hk hx (by omega) hs
 obtain⟨X1,hX1⟩:∃X1:Aq_,X1={ X with rows:=Bd_ t c.Seed k (estF t c.Seed k X.rows+x) X.rows,sum:=X.sum+x }:=⟨_,rfl⟩;have HX1:=hh_ hX1
 have HK1:=hh_ fun y (q:RTier y G c t X1)=>Cv_ G.gS G.vS c.Exact X1.S k y q.sto (by rw[hX1];exact hg)
 have hk2:=A7_ k;rw[decide_eq_false (show ¬k.size=0 by omega)] at hk2
 have hl2:¬(255:Int)<(k.size:Int):=by omega
 have b0:=h.blk.cell;obtain⟨g,gT,vT,gS,vS,gK,vr,vs,vt⟩:=G;dsimp only at *;have hA1:addErr X.T.sum k x=0:=(Fr_.mk hk hx (show X.T.sum+x≤mostW by omega)).err
 have HT:=hh_ fun y (q:RTier y ⟨g,gT,vT,gS,vS,gK,vr,vs,vt⟩ c t X1)=>(Hi_ gT vT X1.T k x y q.tab (by rw[hX1];exact hok.tab) hk.2 ⟨by omega,by omega⟩).mono fun e w' hr=>Dg_ q hX1 hA1 hr
 have HG:=hh_ fun v4 y (q:RTier y ⟨g,gT,v4,gS,vS,gK,vr,vs,vt⟩ c t (X.mid c t k x))=>T6_ gT v4 (X.T.add k x) k y q.tab hget
 clear h hok hgr hg hX1 hget hA1
 go_enter Tryz.func123,Tryz.ntmps123
 go_upto_region 8 with(go_at_call 156;refine(HSK.out _ H.out).mono ?_;rintro e w1 ⟨rfl,K1,M1⟩)
 have P1:=H.out.setSk K1 M1;rw[←HX1.out] at P1;have HR1:=hh_ P1.1;have HM1:=hh_ P1.2;have b1:=HR1.out.blk.cell;clear b0 K1 M1 P1 HSK
 go_upto_region 9 with(go_at_call 157;refine(HK1.out _ HR1.out).mono ?_;rintro e w2 ⟨rfl,g2⟩)
 (have A3:=Blk.new w2 #[.string ⟨#[]⟩,.int .u64 0,.int .u64 0] 224);(have G3:=ga_ w2 (.cells #[.string ⟨#[]⟩,.int .u64 0,.int .u64 0] 224) none);generalize w2.alloc (.cells #[.string ⟨#[]⟩,.int .u64 0,.int .u64 0] 224)=w3 at *;generalize hgc:w2.heap.size=gc at *
 have R3:=(HR1.out.same g2).same G3;have M3:=HM1.out.trans (Mov.same (Aa_ g2 G3));have b3:=R3.blk.cell;have HR3:=hh_ R3;clear b1 A3 R3 HR1 HM1 g2 G3
 go_upto_region 13 with(go_at_call 159;refine(HT.out _ HR3.out).mono ?_;rintro e w4 ⟨rfl,v4,R4,M4⟩)
 have HR4:=hh_ R4;have b4:=R4.blk.cell;have M5:=M3.trans M4;clear b3 R4 M3 M4 HR3
 go_upto_region 14 with(go_at_call 160;refine(HG.out _ _ HR4.out).mono ?_;rintro e w6 ⟨rfl,g6⟩)
 (have A7:=Blk.new w6 #[.string ⟨#[]⟩,.int .u64 0,.int .u64 0] 224);(have G7:=ga_ w6 (.cells #[.string ⟨#[]⟩,.int .u64 0,.int .u64 0] 224) none);generalize w6.alloc (.cells #[.string ⟨#[]⟩,.int .u64 0,.int .u64 0] 224)=w7 at *;generalize hgd:w6.heap.size=gd at *
 have R7:=(HR4.out.same g6).same G7;have M7:=M5.trans (Mov.same (Aa_ g6 G7));have b7:=R7.blk.cell;have a7:=A7.cell;clear b4 A7 M5 g6 G7 HR4
 go_quiet (fail)
 go_wp2_with fail
 go_ret
 exact⟨by rw[HE.out];rfl,_,by rw[HR.out];exact R7.same (Ae_ (Ab_ w7 none) _),M7.trans (Mov.same (Ae_ (Ab_ w7 none) _)),rfl⟩
end
section
open Go.RowKit Go.Sort
theorem Qk_ (G:RtG) (c:Cfg) (t:List Int) (X:Aq_) (k:ByteArray) (x:Int) (w:World) (h:RTier w G c t X) (hok:TierOk c X) (hn:A8_ c) (htl:t.length=16) (hk:0<k.size∧k.size≤255) (hx:1≤x) (hs:X.sum+x≤mostW) (hg:getE X.S k=none) (e:Ent) (hget :(X.T.add k x).get k=some e) (hst:c.Exact=0∨e.own<c.Promote) :
  Calls Tryz.prog 123 #[.pointer (some ⟨G.g,0,none⟩),.string k,.int .u64 x] w (RTAdd G c t X k x w):=by
 have HR:=hh_ (Aq_.add_mid (t:=t) hk hx hs hg (a5_ (S:=X.S) hget hst));have HE:=hh_ (Aq_.err_ok (X:=X) hk hx hs);have hTok:=hok.tab.add hk hx (show X.T.sum+x≤mostW by have:=hok.sums;omega);have hPair:=hok.pair hk hx hs hg;have H:=hh_ h;have hss:=hok.sums;have hbb:=hok.tab.base;have hmw:mostW=9223372036854775808:=rfl;have hgr:=hok.rows
 have HSK:=hh_ fun y (q:RTier y G c t X)=>Fd_ G.gK G.vr G.vs G.vt t c.Seed c.Depth c.Width X.rows X.sum k x y q.sk hgr hn.depth hn.width htl ⟨hn.seed.1,by have:=hn.seed.2;omega⟩ hk hx (by omega) hs
 obtain⟨X1,hX1⟩:∃X1:Aq_,X1={ X with rows:=Bd_ t c.Seed k (estF t c.Seed k X.rows+x) X.rows,sum:=X.sum+x }:=⟨_,rfl⟩;have HX1:=hh_ hX1
 have HK1:=hh_ fun y (q:RTier y G c t X1)=>Cv_ G.gS G.vS c.Exact X1.S k y q.sto (by rw[hX1];exact hg)
 have hk2:=A7_ k;rw[decide_eq_false (show ¬k.size=0 by omega)] at hk2
 have hl2:¬(255:Int)<(k.size:Int):=by omega
 have b0:=h.blk.cell;obtain⟨g,gT,vT,gS,vS,gK,vr,vs,vt⟩:=G;dsimp only at *;have hA1:addErr X.T.sum k x=0:=(Fr_.mk hk hx (show X.T.sum+x≤mostW by omega)).err
 have HT:=hh_ fun y (q:RTier y ⟨g,gT,vT,gS,vS,gK,vr,vs,vt⟩ c t X1)=>(Hi_ gT vT X1.T k x y q.tab (by rw[hX1];exact hok.tab) hk.2 ⟨by omega,by omega⟩).mono fun e w' hr=>Dg_ q hX1 hA1 hr
 have HG:=hh_ fun v4 y (q:RTier y ⟨g,gT,v4,gS,vS,gK,vr,vs,vt⟩ c t (X.mid c t k x))=>Ce_ gT v4 (X.T.add k x) k e y q.tab hget
 by_cases h0:c.Exact=0
 ·have h0d :(c.Exact==0)=true:=beq_iff_eq.2 h0
  clear h hok hgr hg hX1 hget hA1 hst hTok hPair
  go_enter Tryz.func123,Tryz.ntmps123
  go_upto_region 8 with(go_at_call 156;refine(HSK.out _ H.out).mono ?_;rintro e w1 ⟨rfl,K1,M1⟩)
  have P1:=H.out.setSk K1 M1;rw[←HX1.out] at P1;have HR1:=hh_ P1.1;have HM1:=hh_ P1.2;have b1:=HR1.out.blk.cell;clear b0 K1 M1 P1 HSK
  go_upto_region 9 with(go_at_call 157;refine(HK1.out _ HR1.out).mono ?_;rintro e w2 ⟨rfl,g2⟩)
  (have A3:=Blk.new w2 #[.string ⟨#[]⟩,.int .u64 0,.int .u64 0] 224);(have G3:=ga_ w2 (.cells #[.string ⟨#[]⟩,.int .u64 0,.int .u64 0] 224) none);generalize w2.alloc (.cells #[.string ⟨#[]⟩,.int .u64 0,.int .u64 0] 224)=w3 at *;generalize hgc:w2.heap.size=gc at *
  have R3:=(HR1.out.same g2).same G3;have M3:=HM1.out.trans (Mov.same (Aa_ g2 G3));have b3:=R3.blk.cell;have HR3:=hh_ R3;clear b1 A3 R3 HR1 HM1 g2 G3
  go_upto_region 13 with(go_at_call 159;refine(HT.out _ HR3.out).mono ?_;rintro e w4 ⟨rfl,v4,R4,M4⟩)
  have HR4:=hh_ R4;have b4:=R4.blk.cell;have M5:=M3.trans M4;clear b3 R4 M3 M4 HR3
  go_upto_region 14 with(go_at_call 160;refine(HG.out _ _ HR4.out).mono ?_;rintro e w6 ⟨rfl,g6⟩)
  have hFl:∀i,RtG.F ⟨g,gT,v4,gS,vS,gK,vr,vs,vt⟩ i→i<w6.heap.size:=(HR4.out.same g6).low
  (have A7:=Blk.new w6 #[.string e.key,.int .u64 e.own,.int .u64 e.slack] 224);(have G7:=ga_ w6 (.cells #[.string e.key,.int .u64 e.own,.int .u64 e.slack] 224) none);generalize w6.alloc (.cells #[.string e.key,.int .u64 e.own,.int .u64 e.slack] 224)=w7 at *;generalize hgd:w6.heap.size=gd at *
  have HFl:=hh_ hFl;clear hFl
  have hgdw:w.heap.size≤gd:=by have h1:=M5.size;have h2:=g6.size;omega
  have R7:=(HR4.out.same g6).same G7;have M7:=M5.trans (Mov.same (Aa_ g6 G7));have b7:=R7.blk.cell;have a7:=A7.cell;clear b4 M5 g6 G7 HR4
  go_quiet (fail)
  have k8:w7.grownBy (w7.drewN nq) none:=Ae_ (Ab_ w7 none) _;have R8:=R7.same k8;have A8:=A7.same k8;have M8:=M7.trans (Mov.same k8);clear b7 a7 R7 A7 M7 k8;generalize w7.drewN nq=w8 at *;have b8:=R8.blk.cell;have HR8:=hh_ R8;have HM8:=hh_ M8;clear R8 M8
  go_wp2_with fail
  go_ret
  exact⟨by rw[HE.out];rfl,_,by rw[HR.out];exact HR8.out,HM8.out,rfl⟩
 ·have h0d :(c.Exact==0)=false:=beq_eq_false_iff_ne.2 h0
  have hpd:decide (e.own<c.Promote)=true:=decide_eq_true (by omega);clear h hok hgr hg hX1 hget hA1 hst hTok hPair
  go_enter Tryz.func123,Tryz.ntmps123
  go_upto_region 8 with(go_at_call 156;refine(HSK.out _ H.out).mono ?_;rintro e w1 ⟨rfl,K1,M1⟩)
  have P1:=H.out.setSk K1 M1;rw[←HX1.out] at P1;have HR1:=hh_ P1.1;have HM1:=hh_ P1.2;have b1:=HR1.out.blk.cell;clear b0 K1 M1 P1 HSK
  go_upto_region 9 with(go_at_call 157;refine(HK1.out _ HR1.out).mono ?_;rintro e w2 ⟨rfl,g2⟩)
  (have A3:=Blk.new w2 #[.string ⟨#[]⟩,.int .u64 0,.int .u64 0] 224);(have G3:=ga_ w2 (.cells #[.string ⟨#[]⟩,.int .u64 0,.int .u64 0] 224) none);generalize w2.alloc (.cells #[.string ⟨#[]⟩,.int .u64 0,.int .u64 0] 224)=w3 at *;generalize hgc:w2.heap.size=gc at *
  have R3:=(HR1.out.same g2).same G3;have M3:=HM1.out.trans (Mov.same (Aa_ g2 G3));have b3:=R3.blk.cell;have HR3:=hh_ R3;clear b1 A3 R3 HR1 HM1 g2 G3
  go_upto_region 13 with(go_at_call 159;refine(HT.out _ HR3.out).mono ?_;rintro e w4 ⟨rfl,v4,R4,M4⟩)
  have HR4:=hh_ R4;have b4:=R4.blk.cell;have M5:=M3.trans M4;clear b3 R4 M3 M4 HR3
  go_upto_region 14 with(go_at_call 160;refine(HG.out _ _ HR4.out).mono ?_;rintro e w6 ⟨rfl,g6⟩)
  have hFl:∀i,RtG.F ⟨g,gT,v4,gS,vS,gK,vr,vs,vt⟩ i→i<w6.heap.size:=(HR4.out.same g6).low
  (have A7:=Blk.new w6 #[.string e.key,.int .u64 e.own,.int .u64 e.slack] 224);(have G7:=ga_ w6 (.cells #[.string e.key,.int .u64 e.own,.int .u64 e.slack] 224) none);generalize w6.alloc (.cells #[.string e.key,.int .u64 e.own,.int .u64 e.slack] 224)=w7 at *;generalize hgd:w6.heap.size=gd at *
  have HFl:=hh_ hFl;clear hFl
  have hgdw:w.heap.size≤gd:=by have h1:=M5.size;have h2:=g6.size;omega
  have R7:=(HR4.out.same g6).same G7;have M7:=M5.trans (Mov.same (Aa_ g6 G7));have b7:=R7.blk.cell;have a7:=A7.cell;clear b4 M5 g6 G7 HR4
  go_quiet (fail)
  have k8:w7.grownBy (w7.drewN nq) none:=Ae_ (Ab_ w7 none) _;have R8:=R7.same k8;have A8:=A7.same k8;have M8:=M7.trans (Mov.same k8);clear b7 a7 R7 A7 M7 k8;generalize w7.drewN nq=w8 at *;have b8:=R8.blk.cell;have HR8:=hh_ R8;have HM8:=hh_ M8;clear R8 M8
  go_wp2_with fail
  go_ret
  exact⟨by rw[HE.out];rfl,_,by rw[HR.out];exact HR8.out,HM8.out,rfl⟩
theorem V3_ (G:RtG) (c:Cfg) (t:List Int) (X:Aq_) (k:ByteArray) (x:Int) (w:World) (h:RTier w G c t X) (hok:TierOk c X) (hn:A8_ c) (htl:t.length=16) (hk:0<k.size∧k.size≤255) (hx:1≤x) (hs:X.sum+x≤mostW) (hg:getE X.S k=none) (e:Ent) (hget :(X.T.add k x).get k=some e) (hst:¬(c.Exact=0∨e.own<c.Promote)) (hl :(X.S.length:Int)≠c.Exact) :
  Calls Tryz.prog 123 #[.pointer (some ⟨G.g,0,none⟩),.string k,.int .u64 x] w (RTAdd G c t X k x w):=by
 have HR:=hh_ (Aq_.add_mid (t:=t) hk hx hs hg (bd_ (S:=X.S) hget hst hl));have HE:=hh_ (Aq_.err_ok (X:=X) hk hx hs);have hTok:=hok.tab.add hk hx (show X.T.sum+x≤mostW by have:=hok.sums;omega);have hPair:=hok.pair hk hx hs hg;have H:=hh_ h;have hss:=hok.sums;have hbb:=hok.tab.base;have hmw:mostW=9223372036854775808:=rfl;have hgr:=hok.rows
 have HSK:=hh_ fun y (q:RTier y G c t X)=>Fd_ G.gK G.vr G.vs G.vt t c.Seed c.Depth c.Width X.rows X.sum k x y q.sk hgr hn.depth hn.width htl ⟨hn.seed.1,by have:=hn.seed.2;omega⟩ hk hx (by omega) hs
 obtain⟨X1,hX1⟩:∃X1:Aq_,X1={ X with rows:=Bd_ t c.Seed k (estF t c.Seed k X.rows+x) X.rows,sum:=X.sum+x }:=⟨_,rfl⟩;have HX1:=hh_ hX1
 have HK1:=hh_ fun y (q:RTier y G c t X1)=>Cv_ G.gS G.vS c.Exact X1.S k y q.sto (by rw[hX1];exact hg)
 have hk2:=A7_ k;rw[decide_eq_false (show ¬k.size=0 by omega)] at hk2
 have hl2:¬(255:Int)<(k.size:Int):=by omega
 have b0:=h.blk.cell;obtain⟨g,gT,vT,gS,vS,gK,vr,vs,vt⟩:=G;dsimp only at *;have hA1:addErr X.T.sum k x=0:=(Fr_.mk hk hx (show X.T.sum+x≤mostW by omega)).err
 have HT:=hh_ fun y (q:RTier y ⟨g,gT,vT,gS,vS,gK,vr,vs,vt⟩ c t X1)=>(Hi_ gT vT X1.T k x y q.tab (by rw[hX1];exact hok.tab) hk.2 ⟨by omega,by omega⟩).mono fun e w' hr=>Dg_ q hX1 hA1 hr
 have HG:=hh_ fun v4 y (q:RTier y ⟨g,gT,v4,gS,vS,gK,vr,vs,vt⟩ c t (X.mid c t k x))=>Ce_ gT v4 (X.T.add k x) k e y q.tab hget
 have h0d :(c.Exact==0)=false:=beq_eq_false_iff_ne.2 (by omega);have hpd:decide (e.own<c.Promote)=false:=decide_eq_false (by omega);obtain⟨y,hy,hfe,hek⟩:=El_ hget;have hym:=(A4_ hy).1
 have hlT :(X.T.add k x).L.length≤64:=by have:=hTok.len;have:=hTok.m;omega
 have HFu:=hh_ fun z (q:RSto z gS vS c.Exact X.S)=>F3_ gS vS c.Exact X.S z q
 rw[decide_eq_false hl] at HFu
 have HTk:=hh_ fun v4 z (q:RTab z gT v4 (X.T.add k x))=>bs_ gT v4 (X.T.add k x) k y z q hlT hy
 have hfs:=C1_ hTok hym;have hfo:=Dt_ (X.T.add k x) y;have hfc:=hTok.cnt y hym;have hyo:=hTok.ents.own y hym;have hkS:=Cs_.1 hg;rw[←hfe] at hfs hfo hfc;have hle:=hok.len;have hex:=hn.exact;have hsum3:=hTok.sum
 have HPu:=hh_ fun z (q:RSto z gS vS c.Exact X.S)=>Si_ gS vS c.Exact X.S e z q hok.asc (by omega) hl (by rw[hek];exact hkS) (by rw[hek];exact hk.1) (by omega) hfs.1 (by unfold Ent.cnt at hfc;omega)
 have he2:=hh_ hek;clear h hok hgr hg hX1 hget hA1 hst hTok hPair hl hy hym hfs hfo hfc hyo hkS hek hfe hlT hle hex
 go_enter Tryz.func123,Tryz.ntmps123
 go_upto_region 8 with(go_at_call 156;refine(HSK.out _ H.out).mono ?_;rintro e w1 ⟨rfl,K1,M1⟩)
 have P1:=H.out.setSk K1 M1;rw[←HX1.out] at P1;have HR1:=hh_ P1.1;have HM1:=hh_ P1.2;have b1:=HR1.out.blk.cell;clear b0 K1 M1 P1 HSK
 go_upto_region 9 with(go_at_call 157;refine(HK1.out _ HR1.out).mono ?_;rintro e w2 ⟨rfl,g2⟩)
 (have A3:=Blk.new w2 #[.string ⟨#[]⟩,.int .u64 0,.int .u64 0] 224);(have G3:=ga_ w2 (.cells #[.string ⟨#[]⟩,.int .u64 0,.int .u64 0] 224) none);generalize w2.alloc (.cells #[.string ⟨#[]⟩,.int .u64 0,.int .u64 0] 224)=w3 at *;generalize hgc:w2.heap.size=gc at *
 have R3:=(HR1.out.same g2).same G3;have M3:=HM1.out.trans (Mov.same (Aa_ g2 G3));have b3:=R3.blk.cell;have HR3:=hh_ R3;clear b1 A3 R3 HR1 HM1 g2 G3
 go_upto_region 13 with(go_at_call 159;refine(HT.out _ HR3.out).mono ?_;rintro e w4 ⟨rfl,v4,R4,M4⟩)
 have HR4:=hh_ R4;have b4:=R4.blk.cell;have M5:=M3.trans M4;clear b3 R4 M3 M4 HR3
 go_upto_region 14 with(go_at_call 160;refine(HG.out _ _ HR4.out).mono ?_;rintro e w6 ⟨rfl,g6⟩)
 have hFl:∀i,RtG.F ⟨g,gT,v4,gS,vS,gK,vr,vs,vt⟩ i→i<w6.heap.size:=(HR4.out.same g6).low
 (have A7:=Blk.new w6 #[.string e.key,.int .u64 e.own,.int .u64 e.slack] 224);(have G7:=ga_ w6 (.cells #[.string e.key,.int .u64 e.own,.int .u64 e.slack] 224) none);generalize w6.alloc (.cells #[.string e.key,.int .u64 e.own,.int .u64 e.slack] 224)=w7 at *;generalize hgd:w6.heap.size=gd at *
 have HFl:=hh_ hFl;clear hFl
 have hgdw:w.heap.size≤gd:=by have h1:=M5.size;have h2:=g6.size;omega
 have R7:=(HR4.out.same g6).same G7;have M7:=M5.trans (Mov.same (Aa_ g6 G7));have b7:=R7.blk.cell;have a7:=A7.cell;clear b4 M5 g6 G7 HR4
 go_quiet (fail)
 have k8:w7.grownBy (w7.drewN nq) none:=Ae_ (Ab_ w7 none) _;have R8:=R7.same k8;have A8:=A7.same k8;have M8:=M7.trans (Mov.same k8);clear b7 a7 R7 A7 M7 k8;generalize w7.drewN nq=w8 at *;have b8:=R8.blk.cell;have HR8:=hh_ R8;have HM8:=hh_ M8;clear R8 M8
 go_upto_region 17 with(go_at_call 161;refine(HFu.out _ HR8.out.sto).mono ?_;rintro e' w9 ⟨rfl,g9⟩)
 have R9:=HR8.out.same g9;have M9:=HM8.out.trans (Mov.same g9);have A9:=A8.same g9;have b9:=R9.blk.cell;have HR9:=hh_ R9;clear b8 R9 A8 HR8 HM8 g9
 go_upto_region 18 with(go_at_call 162;refine(HTk.out _ _ HR9.out.tab).mono ?_;rintro e' w10 ⟨rfl,v10,T10,m10⟩)
 obtain⟨R10,M10⟩:=HR9.out.setTab T10 m10
 have A10:=A9.keptS m10.grown fun hi=>Nat.lt_irrefl _ (HFl.out gd (.inr (.inl hi)))
 have M11:=M9.trans M10;have HR10:=hh_ R10;clear b9 A9 T10 m10 R10 M9 M10 HR9
 (refine rn_ 5 (fun _ _ _ _ _=>False) ?_;simp only[ts_])
 have k11:w10.grownBy w10.drew none:=Am_ (Ab_ w10 none);have A11:=hh_ A10.drew1;have HR11:=hh_ (HR10.out.same k11);have HM11:=hh_ (M11.trans (Mov.same k11));clear A10 M11 k11 HR10;generalize w10.drew=wq at *
 (refine tq_ 3 ?_;simp only[ts_,Nat.reduceAdd];(repeat(go_big_quiet_step (fail)));refine wpQuiet_nil ?_)
 (refine Rg.tree_op rfl rfl ?_;intro y3 my3 dy3)
 clear dy3;have ax:=(HR11.out.same my3).blk.cell
 go_wp2_with fail
 refine⟨Ab_ _ _,?_⟩;clear ax my3
 (refine Rg.tree_op rfl rfl ?_;intro y4 my4 dy4)
 clear dy4;have ax:=(A11.out.same my4).cell
 go_wp2_with fail
 refine⟨Ab_ _ _,?_⟩;clear ax my4
 (refine Rg.tree_nil ?_;intro z mz dz cz)
 have R12:=HR11.out.same mz;have HS12:=hh_ R12.sto
 go_wp2_with (go_at_call 163;refine(HPu.out _ HS12.out).mono ?_;rintro e' w13 ⟨rfl,v13,S13,m13⟩)
 go_ret
 obtain⟨R13,M13⟩:=R12.setSto S13 m13;exact⟨by rw[HE.out];rfl,_,by rw[HR.out];exact R13,(HM11.out.trans (Mov.same mz)).trans M13,rfl⟩
end
section
open Go.RowKit Go.Sort
theorem E0_ {c:Cfg} {X:Aq_} (hok:TierOk c X):∀e∈X.S,W64 e.own∧W64 e.slack∧e.own+e.slack≤mostW:=fun e he=>by
 have h1:=hok.ents.own e he;have h2:=hok.ents.slack e he;have h3:=hok.cnt e he;have h4:=hok.sums;unfold Ent.cnt at h3;exact⟨Hd_ (by omega) (by omega),Hd_ h2 (by omega),by omega⟩
theorem Nt_ (G:RtG) (c:Cfg) (t:List Int) (X:Aq_) (k:ByteArray) (x:Int) (w:World) (h:RTier w G c t X) (hok:TierOk c X) (hn:A8_ c) (htl:t.length=16) (hk:0<k.size∧k.size≤255) (hx:1≤x) (hs:X.sum+x≤mostW) (hg:getE X.S k=none) (e:Ent) (hget :(X.T.add k x).get k=some e) (hst:¬(c.Exact=0∨e.own<c.Promote)) (hl :(X.S.length:Int)=c.Exact) (y:Ent) (hy:lastMin X.S=some y) (hle:e.own≤y.cnt) :
  Calls Tryz.prog 123 #[.pointer (some ⟨G.g,0,none⟩),.string k,.int .u64 x] w (RTAdd G c t X k x w):=by
 have HR:=hh_ (Aq_.add_mid (t:=t) hk hx hs hg (ay_ (S:=X.S) hget hst hl hy hle));have HE:=hh_ (Aq_.err_ok (X:=X) hk hx hs);have hTok:=hok.tab.add hk hx (show X.T.sum+x≤mostW by have:=hok.sums;omega);have hPair:=hok.pair hk hx hs hg;have H:=hh_ h;have hss:=hok.sums;have hbb:=hok.tab.base;have hmw:mostW=9223372036854775808:=rfl;have hgr:=hok.rows
 have HSK:=hh_ fun y (q:RTier y G c t X)=>Fd_ G.gK G.vr G.vs G.vt t c.Seed c.Depth c.Width X.rows X.sum k x y q.sk hgr hn.depth hn.width htl ⟨hn.seed.1,by have:=hn.seed.2;omega⟩ hk hx (by omega) hs
 obtain⟨X1,hX1⟩:∃X1:Aq_,X1={ X with rows:=Bd_ t c.Seed k (estF t c.Seed k X.rows+x) X.rows,sum:=X.sum+x }:=⟨_,rfl⟩;have HX1:=hh_ hX1
 have HK1:=hh_ fun y (q:RTier y G c t X1)=>Cv_ G.gS G.vS c.Exact X1.S k y q.sto (by rw[hX1];exact hg)
 have hk2:=A7_ k;rw[decide_eq_false (show ¬k.size=0 by omega)] at hk2
 have hl2:¬(255:Int)<(k.size:Int):=by omega
 have b0:=h.blk.cell;obtain⟨g,gT,vT,gS,vS,gK,vr,vs,vt⟩:=G;dsimp only at *;have hA1:addErr X.T.sum k x=0:=(Fr_.mk hk hx (show X.T.sum+x≤mostW by omega)).err
 have HT:=hh_ fun y (q:RTier y ⟨g,gT,vT,gS,vS,gK,vr,vs,vt⟩ c t X1)=>(Hi_ gT vT X1.T k x y q.tab (by rw[hX1];exact hok.tab) hk.2 ⟨by omega,by omega⟩).mono fun e w' hr=>Dg_ q hX1 hA1 hr
 have HG:=hh_ fun v4 y (q:RTier y ⟨g,gT,v4,gS,vS,gK,vr,vs,vt⟩ c t (X.mid c t k x))=>Ce_ gT v4 (X.T.add k x) k e y q.tab hget
 have h0d :(c.Exact==0)=false:=beq_eq_false_iff_ne.2 (by omega);have hpd:decide (e.own<c.Promote)=false:=decide_eq_false (by omega)
 have HFu:=hh_ fun z (q:RSto z gS vS c.Exact X.S)=>F3_ gS vS c.Exact X.S z q
 rw[decide_eq_true hl] at HFu;have hex:=hn.exact
 have HL:=hh_ fun z (q:RSto z gS vS c.Exact X.S)=>K3_ gS vS c.Exact X.S y z q (by omega) hy (E0_ hok)
 obtain⟨⟨y1,y2⟩,⟨y3,y4⟩,y5⟩:=E0_ hok y (Cc_ hy);unfold Ent.cnt at hle;have hled:decide (y.own+y.slack<e.own)=false:=decide_eq_false (by omega);have hwy:IntKind.u64.wrap (y.own+y.slack)=y.own+y.slack:=IntWalk.u64_in _ (by omega);clear h hok hgr hg hX1 hget hA1 hst hTok hPair hl hy hex hle
 go_enter Tryz.func123,Tryz.ntmps123
 go_upto_region 8 with(go_at_call 156;refine(HSK.out _ H.out).mono ?_;rintro e w1 ⟨rfl,K1,M1⟩)
 have P1:=H.out.setSk K1 M1;rw[←HX1.out] at P1;have HR1:=hh_ P1.1;have HM1:=hh_ P1.2;have b1:=HR1.out.blk.cell;clear b0 K1 M1 P1 HSK
 go_upto_region 9 with(go_at_call 157;refine(HK1.out _ HR1.out).mono ?_;rintro e w2 ⟨rfl,g2⟩)
 (have A3:=Blk.new w2 #[.string ⟨#[]⟩,.int .u64 0,.int .u64 0] 224);(have G3:=ga_ w2 (.cells #[.string ⟨#[]⟩,.int .u64 0,.int .u64 0] 224) none);generalize w2.alloc (.cells #[.string ⟨#[]⟩,.int .u64 0,.int .u64 0] 224)=w3 at *;generalize hgc:w2.heap.size=gc at *
 have R3:=(HR1.out.same g2).same G3;have M3:=HM1.out.trans (Mov.same (Aa_ g2 G3));have b3:=R3.blk.cell;have HR3:=hh_ R3;clear b1 A3 R3 HR1 HM1 g2 G3
 go_upto_region 13 with(go_at_call 159;refine(HT.out _ HR3.out).mono ?_;rintro e w4 ⟨rfl,v4,R4,M4⟩)
 have HR4:=hh_ R4;have b4:=R4.blk.cell;have M5:=M3.trans M4;clear b3 R4 M3 M4 HR3
 go_upto_region 14 with(go_at_call 160;refine(HG.out _ _ HR4.out).mono ?_;rintro e w6 ⟨rfl,g6⟩)
 have hFl:∀i,RtG.F ⟨g,gT,v4,gS,vS,gK,vr,vs,vt⟩ i→i<w6.heap.size:=(HR4.out.same g6).low
 (have A7:=Blk.new w6 #[.string e.key,.int .u64 e.own,.int .u64 e.slack] 224);(have G7:=ga_ w6 (.cells #[.string e.key,.int .u64 e.own,.int .u64 e.slack] 224) none);generalize w6.alloc (.cells #[.string e.key,.int .u64 e.own,.int .u64 e.slack] 224)=w7 at *;generalize hgd:w6.heap.size=gd at *
 have HFl:=hh_ hFl;clear hFl
 have hgdw:w.heap.size≤gd:=by have h1:=M5.size;have h2:=g6.size;omega
 have R7:=(HR4.out.same g6).same G7;have M7:=M5.trans (Mov.same (Aa_ g6 G7));have b7:=R7.blk.cell;have a7:=A7.cell;clear b4 M5 g6 G7 HR4
 go_quiet (fail)
 have k8:w7.grownBy (w7.drewN nq) none:=Ae_ (Ab_ w7 none) _;have R8:=R7.same k8;have A8:=A7.same k8;have M8:=M7.trans (Mov.same k8);clear b7 a7 R7 A7 M7 k8;generalize w7.drewN nq=w8 at *;have b8:=R8.blk.cell;have HR8:=hh_ R8;have HM8:=hh_ M8;clear R8 M8
 go_upto_region 20 with(go_at_call 161;refine(HFu.out _ HR8.out.sto).mono ?_;rintro e' w9 ⟨rfl,g9⟩)
 have R9:=HR8.out.same g9;have M9:=HM8.out.trans (Mov.same g9);have A9:=A8.same g9;have b9:=R9.blk.cell;have HR9:=hh_ R9;clear b8 R9 A8 HR8 HM8 g9
 go_upto_region 21 with(go_at_call 164;refine(HL.out _ HR9.out.sto).mono ?_;rintro e' w10 ⟨rfl,g10⟩)
 (have A11:=Blk.new w10 #[.string y.key,.int .u64 y.own,.int .u64 y.slack] 224);(have G11:=ga_ w10 (.cells #[.string y.key,.int .u64 y.own,.int .u64 y.slack] 224) none);generalize w10.alloc (.cells #[.string y.key,.int .u64 y.own,.int .u64 y.slack] 224)=w11 at *;generalize hge:w10.heap.size=ge at *
 have k11:=Aa_ g10 G11;have R11:=HR9.out.same k11;have M11:=M9.trans (Mov.same k11);have A12:=A9.same k11;have a11:=A11.cell;have a12:=A12.cell;clear b9 A9 HR9 M9 g10 G11
 go_wp2_with fail
 go_ret
 exact⟨by rw[HE.out];rfl,_,by rw[HR.out];exact R11,M11,rfl⟩
theorem Px_ (G:RtG) (c:Cfg) (t:List Int) (X:Aq_) (k:ByteArray) (x:Int) (w:World) (h:RTier w G c t X) (hok:TierOk c X) (hn:A8_ c) (htl:t.length=16) (hk:0<k.size∧k.size≤255) (hx:1≤x) (hs:X.sum+x≤mostW) (hg:getE X.S k=none) (e:Ent) (hget :(X.T.add k x).get k=some e) (hst:¬(c.Exact=0∨e.own<c.Promote)) (hl :(X.S.length:Int)=c.Exact) (y:Ent) (hy:lastMin X.S=some y) (hle:¬e.own≤y.cnt) :
  Calls Tryz.prog 123 #[.pointer (some ⟨G.g,0,none⟩),.string k,.int .u64 x] w (RTAdd G c t X k x w):=by
 have HR:=hh_ (Aq_.add_mid (t:=t) hk hx hs hg (ac_ (S:=X.S) hget hst hl hy hle));have HE:=hh_ (Aq_.err_ok (X:=X) hk hx hs);have hTok:=hok.tab.add hk hx (show X.T.sum+x≤mostW by have:=hok.sums;omega);have hPair:=hok.pair hk hx hs hg;have H:=hh_ h;have hss:=hok.sums;have hbb:=hok.tab.base;have hmw:mostW=9223372036854775808:=rfl;have hgr:=hok.rows
 have HSK:=hh_ fun y (q:RTier y G c t X)=>Fd_ G.gK G.vr G.vs G.vt t c.Seed c.Depth c.Width X.rows X.sum k x y q.sk hgr hn.depth hn.width htl ⟨hn.seed.1,by have:=hn.seed.2;omega⟩ hk hx (by omega) hs
 obtain⟨X1,hX1⟩:∃X1:Aq_,X1={ X with rows:=Bd_ t c.Seed k (estF t c.Seed k X.rows+x) X.rows,sum:=X.sum+x }:=⟨_,rfl⟩;have HX1:=hh_ hX1
 have HK1:=hh_ fun y (q:RTier y G c t X1)=>Cv_ G.gS G.vS c.Exact X1.S k y q.sto (by rw[hX1];exact hg)
 have hk2:=A7_ k;rw[decide_eq_false (show ¬k.size=0 by omega)] at hk2
 have hl2:¬(255:Int)<(k.size:Int):=by omega
 have b0:=h.blk.cell;obtain⟨g,gT,vT,gS,vS,gK,vr,vs,vt⟩:=G;dsimp only at *;have hA1:addErr X.T.sum k x=0:=(Fr_.mk hk hx (show X.T.sum+x≤mostW by omega)).err
 have HT:=hh_ fun y (q:RTier y ⟨g,gT,vT,gS,vS,gK,vr,vs,vt⟩ c t X1)=>(Hi_ gT vT X1.T k x y q.tab (by rw[hX1];exact hok.tab) hk.2 ⟨by omega,by omega⟩).mono fun e w' hr=>Dg_ q hX1 hA1 hr
 have HG:=hh_ fun v4 y (q:RTier y ⟨g,gT,v4,gS,vS,gK,vr,vs,vt⟩ c t (X.mid c t k x))=>Ce_ gT v4 (X.T.add k x) k e y q.tab hget
 have h0d :(c.Exact==0)=false:=beq_eq_false_iff_ne.2 (by omega);have hpd:decide (e.own<c.Promote)=false:=decide_eq_false (by omega)
 have HFu:=hh_ fun z (q:RSto z gS vS c.Exact X.S)=>F3_ gS vS c.Exact X.S z q
 rw[decide_eq_true hl] at HFu;have hex:=hn.exact;have hym:=Cc_ hy
 have HL:=hh_ fun z (q:RSto z gS vS c.Exact X.S)=>K3_ gS vS c.Exact X.S y z q (by omega) hy (E0_ hok)
 obtain⟨⟨y1,y2⟩,⟨y3,y4⟩,y5⟩:=E0_ hok y hym;have hsw:=U1_ hPair hget hy (by omega);obtain⟨z0,hz0,hfe,hek⟩:=El_ hget;have hzm:=(A4_ hz0).1;have hyk:=hok.ents.key y hym;have hyo:=hok.ents.own y hym;have hys:=hok.ents.slack y hym;have hyg:=Ga_ hok.ents.nodup hym;have hyT:=hPair.apart _ (Dz_ hym)
 have hsw' :(X.T.add k x).swapOk z0 y:=by
  unfold TabM.swapOk at hsw ⊢;rw[hfe] at hsw
  by_cases h2 :(X.T.add k x).mode=2
  ·rw[if_pos h2,fix2 h2] at hsw;rw[if_pos h2];exact hsw
  ·rw[if_neg h2,fix1 h2] at hsw;rw[if_neg h2];exact hsw
 have hdl:=C7_ hyg
 have HTk:=hh_ fun z (q:RSto z gS vS c.Exact X.S)=>Ya_ gS vS c.Exact X.S y.key y z q (by omega) hyg
 have HSw:=hh_ fun v4 z (q:RTab z gT v4 (X.T.add k x))=>b3_ gT v4 (X.T.add k x) k z0 y z q hTok hz0 hyk.1 hyo hys hyT hsw'
 have hfs:=C1_ hTok hzm;have hfo:=Dt_ (X.T.add k x) z0;have hfc:=hTok.cnt z0 hzm;have hzo:=hTok.ents.own z0 hzm;have hkS:=Cs_.1 hg;rw[←hfe] at hfs hfo hfc;rw[←hfe] at HSw;have hsum3:=hTok.sum
 have HPu:=hh_ fun v5 z (q:RSto z gS v5 c.Exact (delE X.S y.key))=>Si_ gS v5 c.Exact (delE X.S y.key) e z q (hok.asc.sublist (C4_ _ _)) (by omega) (by omega) (by rw[hek];exact fun hz=>hkS ((Bq_ hok.ents.nodup).1 hz).1) (by rw[hek];exact hk.1) (by omega) hfs.1 (by unfold Ent.cnt at hfc;omega)
 unfold Ent.cnt at hle;have hled:decide (y.own+y.slack<e.own)=true:=decide_eq_true (by omega);have hwy:IntKind.u64.wrap (y.own+y.slack)=y.own+y.slack:=IntWalk.u64_in _ (by omega);clear h hok hgr hg hX1 hget hA1 hst hTok hPair hl hy hex hle hym hsw hz0 hfe hek hzm hyk hyo hys hyg hyT hsw' hdl hfs hfo hfc hzo hkS hsum3
 go_enter Tryz.func123,Tryz.ntmps123
 go_upto_region 8 with(go_at_call 156;refine(HSK.out _ H.out).mono ?_;rintro e w1 ⟨rfl,K1,M1⟩)
 have P1:=H.out.setSk K1 M1;rw[←HX1.out] at P1;have HR1:=hh_ P1.1;have HM1:=hh_ P1.2;have b1:=HR1.out.blk.cell;clear b0 K1 M1 P1 HSK
 go_upto_region 9 with(go_at_call 157;refine(HK1.out _ HR1.out).mono ?_;rintro e w2 ⟨rfl,g2⟩)
 (have A3:=Blk.new w2 #[.string ⟨#[]⟩,.int .u64 0,.int .u64 0] 224);(have G3:=ga_ w2 (.cells #[.string ⟨#[]⟩,.int .u64 0,.int .u64 0] 224) none);generalize w2.alloc (.cells #[.string ⟨#[]⟩,.int .u64 0,.int .u64 0] 224)=w3 at *;generalize hgc:w2.heap.size=gc at *
 have R3:=(HR1.out.same g2).same G3;have M3:=HM1.out.trans (Mov.same (Aa_ g2 G3));have b3:=R3.blk.cell;have HR3:=hh_ R3;clear b1 A3 R3 HR1 HM1 g2 G3
 go_upto_region 13 with(go_at_call 159;refine(HT.out _ HR3.out).mono ?_;rintro e w4 ⟨rfl,v4,R4,M4⟩)
 have HR4:=hh_ R4;have b4:=R4.blk.cell;have M5:=M3.trans M4;clear b3 R4 M3 M4 HR3
 go_upto_region 14 with(go_at_call 160;refine(HG.out _ _ HR4.out).mono ?_;rintro e w6 ⟨rfl,g6⟩)
 have hFl:∀i,RtG.F ⟨g,gT,v4,gS,vS,gK,vr,vs,vt⟩ i→i<w6.heap.size:=(HR4.out.same g6).low
 (have A7:=Blk.new w6 #[.string e.key,.int .u64 e.own,.int .u64 e.slack] 224);(have G7:=ga_ w6 (.cells #[.string e.key,.int .u64 e.own,.int .u64 e.slack] 224) none);generalize w6.alloc (.cells #[.string e.key,.int .u64 e.own,.int .u64 e.slack] 224)=w7 at *;generalize hgd:w6.heap.size=gd at *
 have HFl:=hh_ hFl;clear hFl
 have hgdw:w.heap.size≤gd:=by have h1:=M5.size;have h2:=g6.size;omega
 have R7:=(HR4.out.same g6).same G7;have M7:=M5.trans (Mov.same (Aa_ g6 G7));have b7:=R7.blk.cell;have a7:=A7.cell;clear b4 M5 g6 G7 HR4
 go_quiet (fail)
 have k8:w7.grownBy (w7.drewN nq) none:=Ae_ (Ab_ w7 none) _;have R8:=R7.same k8;have A8:=A7.same k8;have M8:=M7.trans (Mov.same k8);clear b7 a7 R7 A7 M7 k8;generalize w7.drewN nq=w8 at *;have b8:=R8.blk.cell;have HR8:=hh_ R8;have HM8:=hh_ M8;clear R8 M8
 go_upto_region 20 with(go_at_call 161;refine(HFu.out _ HR8.out.sto).mono ?_;rintro e' w9 ⟨rfl,g9⟩)
 have R9:=HR8.out.same g9;have M9:=HM8.out.trans (Mov.same g9);have A9:=A8.same g9;have b9:=R9.blk.cell;have HR9:=hh_ R9;clear b8 R9 A8 HR8 HM8 g9
 go_upto_region 21 with(go_at_call 164;refine(HL.out _ HR9.out.sto).mono ?_;rintro e' w10 ⟨rfl,g10⟩)
 have hFl2:∀i,RtG.F ⟨g,gT,v4,gS,vS,gK,vr,vs,vt⟩ i→i<w10.heap.size:=(HR9.out.same g10).low
 (have A11:=Blk.new w10 #[.string y.key,.int .u64 y.own,.int .u64 y.slack] 224);(have G11:=ga_ w10 (.cells #[.string y.key,.int .u64 y.own,.int .u64 y.slack] 224) none);generalize w10.alloc (.cells #[.string y.key,.int .u64 y.own,.int .u64 y.slack] 224)=w11 at *;generalize hge:w10.heap.size=ge at *
 have k11:=Aa_ g10 G11;have R11:=HR9.out.same k11;have M11:=M9.trans (Mov.same k11);have A12:=A9.same k11;have HFl2:=hh_ hFl2
 have hde:gd<ge:=by have:=(A9.same g10).lt;omega
 have a11:=A11.cell;have a12:=A12.cell;clear b9 A9 HR9 M9 g10 G11 hFl2
 go_upto_region 22 with fail
 clear a11 a12
 (refine rn_ 6 (fun _ _ _ _ _=>False) ?_;simp only[ts_])
 have k13:w11.grownBy w11.drew none:=Am_ (Ab_ w11 none);have A13:=hh_ A11.drew1;have A14:=hh_ A12.drew1;have HR13:=hh_ (R11.same k13);have HM13:=hh_ (M11.trans (Mov.same k13));clear A11 A12 M11 k13 R11 k11;generalize w11.drew=wq at *
 (refine tq_ 3 ?_;simp only[ts_,Nat.reduceAdd];(repeat(go_big_quiet_step (fail)));refine wpQuiet_nil ?_)
 (refine Rg.tree_op rfl rfl ?_;intro y3 my3 dy3)
 clear dy3;have ax:=(HR13.out.same my3).blk.cell
 go_wp2_with fail
 refine⟨Ab_ _ _,?_⟩;clear ax my3
 (refine tq_ 1 ?_;simp only[ts_,Nat.reduceAdd];(repeat(go_big_quiet_step (fail)));refine wpQuiet_nil ?_)
 (refine Rg.tree_op rfl rfl ?_;intro y5 my5 dy5)
 clear dy5;have ax:=(A13.out.same my5).cell
 go_wp2_with fail
 refine⟨Ab_ _ _,?_⟩;clear ax my5
 (refine Rg.tree_nil ?_;intro z mz dz cz)
 have R14:=HR13.out.same mz;have HS14:=hh_ R14.sto
 go_upto_region 23 with(go_at_call 165;refine(HTk.out _ HS14.out).mono ?_;rintro e' w15 ⟨rfl,v15,S15,m15⟩)
 obtain⟨R15,M15⟩:=R14.setSto S15 m15
 have A15:=(A13.out.same mz).keptS m15.grown fun hi=>Nat.lt_irrefl _ (HFl2.out ge (.inr (.inr (.inl hi))))
 have A16:=(A14.out.same mz).keptS m15.grown fun hi=>Nat.lt_irrefl _ (HFl.out gd (.inr (.inr (.inl hi))))
 have M16:=(HM13.out.trans (Mov.same mz)).trans M15;have hgz:gd<z.heap.size:=(A14.out.same mz).lt;have HN15:=hh_ (show ¬RtG.F ⟨g,gT,v4,gS,v15,gK,vr,vs,vt⟩ gd from fun hi=>(M15.new gd hi).elim (fun h=>Nat.lt_irrefl _ (HFl.out gd h)) fun h=>by omega);have k16:w15.grownBy w15.drew none:=Am_ (Ab_ w15 none);have HR16:=hh_ (R15.same k16);have HM16:=hh_ (M16.trans (Mov.same k16));have b16:=(R15.same k16).blk.cell;have a15:=A15.drew1.cell;have HA16:=hh_ A16.drew1;have hdw:gd<w15.drew.heap.size:=A16.drew1.lt;clear R14 HS14 S15 m15 R15 M15 A15 A16 M16 k16 A13 A14 HR13 HM13 mz dz cz
 go_region_with (go_at_call 166;refine(HSw.out _ _ HR16.out.tab).mono ?_;rintro e' w17 ⟨rfl,v17,T17,m17⟩;have A17:=HA16.out.keptS m17.grown (fun hi=>Nat.lt_irrefl _ (HFl.out gd (.inr (.inl hi))));have a17:=A17.cell;have f17:=A17.free)
 all_goals
  obtain⟨R17,M17⟩:=HR16.out.setTab T17 m17
  (have g18:World.grownBy w17 (((w17.setCell ⟨gd,0,none⟩ (.string e.key)).setCell ⟨gd,1,none⟩ (.int .u64 e.own)).setCell ⟨gd,2,none⟩ (.int .u64 e.slack)) (some gd):=Ac_ (Ac_ (Ac_ (Ab_ _ _) _ _) _ _) _ _);(have A18:Blk (((w17.setCell ⟨gd,0,none⟩ (.string e.key)).setCell ⟨gd,1,none⟩ (.int .u64 e.own)).setCell ⟨gd,2,none⟩ (.int .u64 e.slack)) gd #[.string e.key,.int .u64 e.own,.int .u64 e.slack]:=((Blk.set_ (by assumption) 0 _ rfl).set_ 1 _ rfl).set_ 2 _ rfl);generalize ((w17.setCell ⟨gd,0,none⟩ (.string e.key)).setCell ⟨gd,1,none⟩ (.int .u64 e.own)).setCell ⟨gd,2,none⟩ (.int .u64 e.slack)=w18 at *
  have HN17:¬RtG.F ⟨g,gT,v17,gS,v15,gK,vr,vs,vt⟩ gd:=fun hi=>(M17.new gd hi).elim HN15.out fun h=>by omega
  have S18:GrownS (oneF gd) w17 w18:=GrownS.of g18 fun q e=>by cases e;exact rfl
  have R18:=R17.keptS S18 fun i hi e=>HN17 (by rw[show i=gd from e] at hi;exact hi)
  have HM18:=hh_ (show GrownS (fun i=>RtG.F ⟨g,gT,vT,gS,vS,gK,vr,vs,vt⟩ i∨i=gd) w w18∧∀i,RtG.F ⟨g,gT,v17,gS,v15,gK,vr,vs,vt⟩ i→RtG.F ⟨g,gT,vT,gS,vS,gK,vr,vs,vt⟩ i∨w.heap.size≤i from⟨((HM16.out.trans M17).grown.mono fun i hi _=>.inl hi).trans S18 fun i hi _=>.inr hi,(HM16.out.trans M17).new⟩);have k19:w18.grownBy w18.drew none:=Am_ (Ab_ w18 none);have A19:=hh_ A18.drew1;have HR19:=hh_ (R18.same k19);clear T17 m17 A17 a17 f17 R17 M17 g18 A18 S18 HR16 HM16 b16 a15 HA16 HSw
  go_upto_region 24 with fail
  (refine rn_ 5 (fun _ _ _ _ _=>False) ?_;simp only[ts_])
  generalize w18.drew=wq at *
  (refine tq_ 3 ?_;simp only[ts_,Nat.reduceAdd];(repeat(go_big_quiet_step (fail)));refine wpQuiet_nil ?_)
  (refine Rg.tree_op rfl rfl ?_;intro y3 my3 dy3)
  clear dy3;have ax:=(HR19.out.same my3).blk.cell
  go_wp2_with fail
  refine⟨Ab_ _ _,?_⟩;clear ax my3
  (refine Rg.tree_op rfl rfl ?_;intro y4 my4 dy4)
  clear dy4;have ax:=(A19.out.same my4).cell
  go_wp2_with fail
  refine⟨Ab_ _ _,?_⟩;clear ax my4
  (refine Rg.tree_nil ?_;intro z5 mz5 dz5 cz5)
  have R20:=HR19.out.same mz5;have HS20:=hh_ R20.sto
  go_wp2_with (go_at_call 163;refine(HPu.out _ _ HS20.out).mono ?_;rintro e' w21 ⟨rfl,v21,S21,m21⟩)
  go_ret
  obtain⟨R21,M21⟩:=R20.setSto S21 m21;refine⟨by rw[HE.out];rfl,⟨g,gT,v17,gS,v21,gK,vr,vs,vt⟩,by rw[HR.out];exact R21,⟨?_,fun i hi=>?_⟩,rfl⟩
  ·have q1:GrownS (RtG.F ⟨g,gT,vT,gS,vS,gK,vr,vs,vt⟩) w w18:=HM18.out.1.mono fun i hi hlt=>hi.elim id fun e=>by omega
   have q2:=(q1.trans (GrownS.none_ (S:=fun _=>False) (Aa_ k19 mz5)) fun i hi _=>hi.elim)
   exact q2.trans M21.grown fun i hi hlt=>(HM18.out.2 i hi).elim id fun h=>absurd hlt (by omega)
  ·rcases M21.new i hi with h|h
   ·exact HM18.out.2 i h
   ·exact .inr (lt_ HM18.out.1.size (lt_ (Aa_ k19 mz5).size h))
theorem Ij_ (G:RtG) (c:Cfg) (t:List Int) (X:Aq_) (k:ByteArray) (x:Int) (w:World) (h:RTier w G c t X) (hok:TierOk c X) (hn:A8_ c) (htl:t.length=16) (hx:W64 x) :
  Calls Tryz.prog 123 #[.pointer (some ⟨G.g,0,none⟩),.string k,.int .u64 x] w (RTAdd G c t X k x w):=by
 by_cases he:X.err k x=0
 ·obtain⟨hk,hx1,hs⟩ :(0<k.size∧k.size≤255)∧1≤x∧X.sum+x≤mostW:=by
   have:=hx.1
   unfold Aq_.err at he
   split at he
   ·omega
   ·split at he
    ·omega
    ·split at he
     ·omega
     ·split at he
      ·omega
      ·exact⟨by omega,by omega,by omega⟩
  cases hg:getE X.S k with
  | some en=>exact Yr_ G c t X k x w h hok hn htl hk hx1 hs en hg
  | none=>
   cases hget :(X.T.add k x).get k with
   | none=>exact Wv_ G c t X k x w h hok hn htl hk hx1 hs hg hget
   | some e=>
    by_cases hst:c.Exact=0∨e.own<c.Promote
    ·exact Qk_ G c t X k x w h hok hn htl hk hx1 hs hg e hget hst
    ·by_cases hl :(X.S.length:Int)=c.Exact
     ·cases hy:lastMin X.S with
      | none=>
       have:=Kj_.1 hy
       rw[this] at hl
       have:=hn.exact
       simp at hl;omega
      | some y=>
       by_cases hle:e.own≤y.cnt
       ·exact Nt_ G c t X k x w h hok hn htl hk hx1 hs hg e hget hst hl y hy hle
       ·exact Px_ G c t X k x w h hok hn htl hk hx1 hs hg e hget hst hl y hy hle
     ·exact V3_ G c t X k x w h hok hn htl hk hx1 hs hg e hget hst hl
 ·exact S5_ G c t X k x w h hok hx he
end
section
open Go.RowKit Go.Sort
theorem br_ (g:Nat) (v:Value) (T:TabM) (w:World) (h:RTab w g v T):Calls Tryz.prog 124 #[.pointer (some ⟨g,0,none⟩)] w (fun e w'=>e=.returned (.int .u64 T.base)∧w=w'):=by
 have b0:=h.blk.cell;clear h
 go_enter Tryz.func124,Tryz.ntmps124
 go_wp2_with fail
 go_ret
 exact⟨rfl,rfl⟩
end
section
open Go.RowKit Go.Sort
section
variable {α:Type} {f:α→List Value} {st e:TypeId} {z:Value} {size bytes:Nat} {w:World} {B:Nat} {g:Nat} {l2:List α} {A:Option Addr} {m c:Nat}
variable {o:Oper} {a:Act} {ops:Array Oper} {rest:List Oper} {Q:Exit→Act→World→Prop}
end
structure OSum (B:Nat) (w:World) (ve vr:Value) (vs:List SlR) (es:List Ent) (rows:List (List Int)):Prop where
 es:Own entF 3 224 B w ve es
 rows:ORows w vr vs rows
 base:∀i,rowsF vr vs i→B≤i
def e6_ (c:Cfg) (X:Aq_) (w:World) (e:Ending) (w':World):Prop:=
 ∃ve vr vs,e=.returned (.agg #[.int .u64 X.sum,ve,.int .u64 X.T.base,vr])∧OSum w.heap.size w' ve vr vs X.entries X.rows∧w.grownBy w' none
theorem Mw_ (T:TabM):T.entries.length=T.L.length:=by unfold TabM.entries;rw[Fb_,List.length_map]
theorem b4_ (G:RtG) (c:Cfg) (t:List Int) (X:Aq_) (w:World) (h:RTier w G c t X) (hok:TierOk c X) (hn:A8_ c) :
  Calls Tryz.prog 94 #[.pointer (some ⟨G.g,0,none⟩)] w (e6_ c X w):=by
 have H:=hh_ h;have b0:=h.blk.cell
 have HU:=hh_ fun y (q:w.grownBy y none)=>br_ G.gT G.vT X.T y (h.same q).tab
 have HEn:=hh_ fun y (R:RTab y G.gT G.vT X.T)=>P9_ G.gT G.vT X.T y R hok.tab
 have hlT:=Mw_ X.T
 have hlT2:X.T.L.length≤64:=by have:=hok.tab.len;have:=hok.tab.m;omega
 have hlS:X.S.length≤32:=by have:=hok.len;have:=hn.exact;omega
 have hd:=hok.rows.depth;have hnd:=hn.depth;have hRw:=hh_ hok.rows.width;have hnw:=hn.width;obtain⟨a,cS,hvS⟩:=h.sto.own.shape;obtain⟨ar,cr,hvr⟩:=h.sk.rows.own.shape;have hvl:G.vs.length=X.rows.length:=h.sk.rows.len;have HZ1:=hh_ (show sortEn (X.T.entries++X.S)=X.entries from rfl);have HZl:=hh_ (show(X.entries).length=X.T.entries.length+X.S.length by unfold Aq_.entries;rw[Fb_,List.length_append])
 have HZ2:=hh_ (show cellsOf entF (X.entries.take X.T.entries.length)=cellsOf entF X.T.entries→X.entries=X.T.entries++X.S by
  intro hc;have h1:=I2_ (by rw[List.length_take,HZl.out];omega) hc
  have h2:X.entries=X.T.entries++X.entries.drop X.T.entries.length:=by conv=>lhs;rw[←List.take_append_drop X.T.entries.length X.entries,h1]
  have hp:=hok.entries;have hpT:X.T.entries.Perm (X.T.L.map X.T.fix):=(Dv_ (by rw[Dh_];exact hok.tab.ents.nodup)).2
  have h3 :(X.entries.drop X.T.entries.length).Perm X.S:=by
   have h4 :(X.T.entries++X.entries.drop X.T.entries.length).Perm (X.T.entries++X.S):=by rw[←h2];exact hp.1.trans (hpT.symm.append_right X.S)
   exact(List.perm_append_left_iff _).1 h4
  rw[h2,Ed_ ((hp.2).sublist (List.drop_sublist _ _)) hok.asc h3])
 obtain⟨g,gT,vT,gS,vS,gK,vr,vs,vt⟩:=G;dsimp only at *;subst hvS hvr;generalize X.T.entries=ET at *;have HEZ:=hh_ (show X.entries=X.entries from rfl);obtain⟨EZ,hEZ⟩:∃EZ,EZ=X.entries:=⟨_,rfl⟩;rw[←hEZ] at HZ1 HZl HZ2;replace HEZ:=hh_ hEZ;clear hEZ;clear h hok
 go_enter Tryz.func94,Tryz.ntmps94
 go_upto_region 1 with fail
 have A1:=Blk.new w #[.int .u64 0,.slice none 0 0,.int .u64 0,.slice none 0 0] 129;have G1:=ga_ w (.cells #[.int .u64 0,.slice none 0 0,.int .u64 0,.slice none 0 0] 129) none;generalize w.alloc (.cells #[.int .u64 0,.slice none 0 0,.int .u64 0,.slice none 0 0] 129)=w1 at *;generalize hgb:w.heap.size=gb at *;have k2:=Am_ G1;have HA1:=hh_ A1.drew1
 (refine rn_ 14 (fun i _ w v w'=>match i with | 11=>v=.int .u64 X.T.base∧World.grownBy w w' none | _=>False) ?_;simp only[ts_])
 clear A1 G1;generalize w1.drew=wq at *
 (refine tq_ 3 ?_;simp only[ts_,Nat.reduceAdd];(repeat(go_big_quiet_step (fail)));refine wpQuiet_nil ?_)
 (refine Rg.tree_op rfl rfl ?_;intro y3 my3 dy3)
 clear dy3;have ax:=(H.out.same (Aa_ k2 my3)).blk.cell
 go_wp2_with fail
 refine⟨Ab_ _ _,?_⟩;clear ax my3
 (refine tq_ 2 ?_;simp only[ts_,Nat.reduceAdd];(repeat(go_big_quiet_step (fail)));refine wpQuiet_nil ?_)
 (refine Rg.tree_op rfl rfl ?_;intro y6 my6 dy6)
 clear dy6;have ax:=(H.out.same (Aa_ k2 my6)).sk.blk.cell
 go_wp2_with fail
 refine⟨Ab_ _ _,?_⟩;clear ax my6
 (refine tq_ 3 ?_;simp only[ts_,Nat.reduceAdd];(repeat(go_big_quiet_step (fail)));refine wpQuiet_nil ?_)
 (refine Rg.tree_op rfl rfl ?_;intro y10 my10 dy10)
 clear dy10;have ax:=(H.out.same (Aa_ k2 my10)).blk.cell
 go_wp2_with fail
 refine⟨Ab_ _ _,?_⟩;clear ax my10
 (refine Rg.tree_call rfl rfl rfl ?_;intro y11 my11 dy11;refine⟨?_,?_⟩;· (unfold Rg.callSpec;go_simp;(refine(HU.out y11 (Aa_ k2 my11)).mono ?_;rintro e w' ⟨rfl,rfl⟩;exact⟨_,rfl,rfl,Ab_ _ _⟩)))
 clear dy11;rintro v7 e7 ⟨rfl,g7⟩;refine⟨g7,?_⟩;simp only[pt_];clear g7 my11
 (refine tq_ 1 ?_;simp only[ts_,Nat.reduceAdd];(repeat(go_big_quiet_step (fail)));refine wpQuiet_nil ?_)
 (refine Rg.tree_op rfl rfl ?_;intro y13 my13 dy13)
 clear dy13
 go_wp2_with fail
 refine⟨ga_ _ _ _,?_⟩;have A13:=Blk.new y13 #[.int .u64 0,.slice none 0 0,.int .u64 0,.slice none 0 0] 129;have hyq:=my13.size;generalize y13.alloc (.cells #[.int .u64 0,.slice none 0 0,.int .u64 0,.slice none 0 0] 129)=e13 at *;generalize hgc:y13.heap.size=gc at *
 (refine Rg.tree_nil ?_;intro z mz dz cz)
 have AZ:=A13.same (dz.out 13 (by omega));have BZ:=HA1.out.same mz
 have hbc:gb<gc:=by have:=HA1.out.lt;omega
 have KZ:=Aa_ k2 mz;clear dz cz mz my13 A13 hyq;have az:=AZ.cell;have fz:=AZ.free
 go_upto_region 2 with fail
 have GS:World.grownBy z ((((z.setCell ⟨gc,0,none⟩ (.int .u64 X.sum)).setCell ⟨gc,1,none⟩ (.slice none 0 0)).setCell ⟨gc,2,none⟩ (.int .u64 X.T.base)).setCell ⟨gc,3,none⟩ (.slice none 0 0)) (some gc):=Ac_ (Ac_ (Ac_ (Ac_ (Ab_ _ _) _ _) _ _) _ _) _ _;have BS:Blk ((((z.setCell ⟨gc,0,none⟩ (.int .u64 X.sum)).setCell ⟨gc,1,none⟩ (.slice none 0 0)).setCell ⟨gc,2,none⟩ (.int .u64 X.T.base)).setCell ⟨gc,3,none⟩ (.slice none 0 0)) gc #[.int .u64 X.sum,.slice none 0 0,.int .u64 X.T.base,.slice none 0 0]:=(((AZ.set_ 0 _ rfl).set_ 1 _ rfl).set_ 2 _ rfl).set_ 3 _ rfl;have BB:=BZ.kept GS (fun e=>by cases e;omega);have KS:=Af_ KZ GS (by omega);clear GS AZ BZ KZ az fz;generalize (((z.setCell ⟨gc,0,none⟩ (.int .u64 X.sum)).setCell ⟨gc,1,none⟩ (.slice none 0 0)).setCell ⟨gc,2,none⟩ (.int .u64 X.T.base)).setCell ⟨gc,3,none⟩ (.slice none 0 0)=zs at *;have hN0:=KS.size;have hgN:=Nat.lt_of_lt_of_le H.out.blk.lt hN0;have hgS:=Nat.lt_of_lt_of_le H.out.sto.blk.lt hN0
 have HoT:=hh_ fun i (hi:rtF gT vT i)=>Nat.lt_of_lt_of_le (H.out.tab.low i hi) hN0
 have hvN:=hh_ fun q (hq :(Value.slice a X.S.length cS).ownBlock=some q)=>Nat.lt_of_lt_of_le (H.out.sto.own.lt q hq).2 hN0
 have hbN:=BB.lt;have hcN:=BS.lt;have KD:=Am_ KS;have HBB:=hh_ BB.drew1;have HBS:=hh_ BS.drew1;obtain⟨N,HN⟩:∃N:Nat,N=zs.heap.size:=⟨_,rfl⟩
 have hND:N≤zs.drew.heap.size:=by rw[HN];exact(World.grownBy.size (Am_ (Ab_ zs none)))
 rw[←HN] at hN0 hgN hgS HoT hvN hbN hcN;obtain⟨P,hP⟩:∃P:List Ent→Prop,P=fun T=>T=ET∨T=ET++X.S∨T=EZ:=⟨_,rfl⟩;have HP0:=hh_ (show P ET by rw[hP];exact .inl rfl);have HP1:=hh_ (show P (ET++X.S) by rw[hP];exact .inr (.inl rfl));have HPZ:=hh_ (show P EZ by rw[hP];exact .inr (.inr rfl))
 have HP2:=hh_ (show ∀Q,P Q→(Q.length≤ET.length∨Q <+: ET++X.S∨ET++X.S <+: Q)∨(ET.length≤Q.length∧cellsOf entF (Q.take ET.length)≠cellsOf entF ET) by
  intro Q hQ;rw[hP] at hQ
  rcases hQ with rfl|rfl|rfl
  ·exact .inl (.inl (Nat.le_refl _))
  ·exact .inl (.inr (.inl (List.prefix_refl _)))
  ·by_cases hc:cellsOf entF (Q.take ET.length)=cellsOf entF ET
   ·left;right;left
    rw[HZ2.out hc];exact List.prefix_refl _
   ·exact .inr ⟨by rw[HZl.out];omega,hc⟩)
 have hb4 :(ET.length+X.S.length)*32≤140737488355328:=by omega
 have hb5:ET.length+X.S.length≤9223372036854775807:=by omega
 have hbZ :(ET++X.S).length≤1000000:=by rw[List.length_append];omega
 clear hP HN BB BS
 (refine Rg.wp_region_rgZ 15 #[] (Keep entF 3 224 N P) (fun k _ w v w'=>match k with | 4=>Own entF 3 224 N w' v ET∧World.grownBy w w' none | 13=>Own entF 3 224 N w' v EZ∧World.grownBy w w' none | _=>False) (by kernel_rfl) (by kernel_rfl) (Keep.refl _ _ _ _ _) (fun _ _ _ h k=>h.trans k) (fun _ _ _ _ _ h=>h) ?_;simp only[List.take,List.drop])
 generalize zs.drew=wd at *;have Hd:=hh_ (H.out.same KD)
 (refine tq_ 3 ?_;simp only[ts_,Nat.reduceAdd];(repeat(go_big_quiet_step (fail)));refine wpQuiet_nil ?_)
 (refine Rg.tree_op rfl rfl ?_;intro y3 my3 dy3)
 clear dy3;have ax:=(my3.blk Hd.out.blk hgN).cell
 go_wp2_with fail
 refine⟨Keep.refl _ _ _ _ _ _,?_⟩;clear ax my3
 (refine Rg.tree_call rfl rfl rfl ?_;intro y4 my4 dy4;refine⟨?_,?_⟩;· (unfold Rg.callSpec;go_simp;(refine(HEn.out y4 (Hd.out.tab.keptS my4.grown (fun i hi h2=>by have:=HoT.out i hi;omega))).mono ?_;rintro e w' ⟨v',rfl,o',g'⟩;exact⟨_,rfl,o'.base (fun q hq=>lt_ (lt_ hND my4.grown.size) (o'.lt q hq).1),g'⟩)))
 clear dy4;rintro v4 e4 ⟨o4,g4⟩;refine⟨Keep.of g4,?_⟩;simp only[pt_];clear g4 my4
 (refine tq_ 3 ?_;simp only[ts_,Nat.reduceAdd];(repeat(go_big_quiet_step (fail)));refine wpQuiet_nil ?_)
 (refine Rg.tree_op rfl rfl ?_;intro y8 my8 dy8)
 clear dy8;have ax:=(my8.blk Hd.out.blk hgN).cell
 go_wp2_with fail
 refine⟨Keep.refl _ _ _ _ _ _,?_⟩;clear ax my8
 (refine tq_ 2 ?_;simp only[ts_,Nat.reduceAdd];(repeat(go_big_quiet_step (fail)));refine wpQuiet_nil ?_)
 (refine Rg.tree_op rfl rfl ?_;intro y11 my11 dy11)
 clear dy11;have ax:=(my11.blk Hd.out.sto.blk hgS).cell
 go_wp2_with fail
 refine⟨Keep.refl _ _ _ _ _ _,?_⟩;clear ax my11
 (refine Rg.tree_op rfl rfl ?_;intro y12 my12 dy12)
 have N12:=(dy12.out 4 (by omega) (by kernel_rfl)).own _ _ HP0.out o4;have R12:=my12.rd Hd.out.sto.own.rd (fun _ a n c e=>by cases e;exact hvN.out _ rfl);have z12:=lt_ hND my12.grown.size;clear dy12
 go_wp2_with (at_builtin;refine Lm_ Bi_ Bh_ Ay_ N12 R12 rfl hb4 hb5 z12 HP2.out (by rfl) _ _ (by rfl) (by rfl) (by rfl) ?_;intro v12 e12 o12 k12;have Hk12:=hh_ k12;clear k12)
 refine⟨Hk12.out,?_⟩;clear N12 R12 z12 my12 o4
 have HSo:=hh_ fun y (R:Own entF 3 224 N y v12 (ET++X.S))=>Hf_ _ _ y R.rd hbZ
 rw[HZ1.out] at HSo
 (refine Rg.tree_call rfl rfl rfl ?_;intro y13 my13 dy13;refine⟨?_,?_⟩;· (unfold Rg.callSpec;go_simp;(refine(HSo.out y13 ((dy13.out 12 (by omega) (by kernel_rfl)).own _ _ HP1.out o12)).mono ?_;rintro e w' ⟨v',rfl,o',g'⟩;exact⟨_,rfl,o'.base (fun q hq=>lt_ (lt_ hND my13.grown.size) (o'.lt q hq).1),g'⟩)))
 clear dy13;rintro v13 e13 ⟨o13,g13⟩;refine⟨Keep.of g13,?_⟩;simp only[pt_];clear g13 my13
 (refine tq_ 1 ?_;simp only[ts_,Nat.reduceAdd];(repeat(go_big_quiet_step (fail)));refine wpQuiet_nil ?_)
 (refine Rg.tree_nil ?_;intro zz mzz dzz czz)
 have oz:=(dzz.out 13 (by omega)).own _ _ HPZ.out o13;have BZ:=mzz.blk HBB.out hbN;have AZ:=mzz.blk HBS.out hcN;have GZ:=mzz.grown;clear dzz czz o12 o13 mzz Hk12 HSo;obtain⟨az,cz2,hvz⟩:=oz.shape;subst hvz;have bc:=AZ.cell;have fc:=AZ.free
 go_upto_region 3 with fail
 have GS:World.grownBy zz (zz.setCell ⟨gc,1,none⟩ (.slice az EZ.length cz2)) (some gc):=Ac_ (Ab_ _ _) _ _;have AS:=AZ.set_ 1 (.slice az EZ.length cz2) (cs':=#[.int .u64 X.sum,.slice az EZ.length cz2,.int .u64 X.T.base,.slice none 0 0]) rfl;have BS:=BZ.kept GS (fun e=>by cases e;omega)
 have KZ:=((GrownS.none_ (S:=fun i=>N≤i) KD).trans GZ (fun i hi _=>hi)).back fun i hi h2=>by omega
 have hwc:w.heap.size≤gc:=by omega
 have KS:=Af_ KZ GS hwc
 have hza:∀q,(Value.slice az EZ.length cz2).ownBlock=some q→N≤q∧q<zz.heap.size:=fun q hq=>oz.lt q hq
 have os:=(oz.kept GS (fun q hq e=>by cases e;have:=(hza _ hq).1;omega)).base (B':=w.heap.size) (fun q hq=>by have:=(hza q hq).1;omega);have hzs:zz.heap.size≤(zz.setCell ⟨gc,1,none⟩ (.slice az EZ.length cz2)).heap.size:=GS.size;have hcz:=AZ.lt;have hbz:=BZ.lt;clear oz AZ BZ GZ bc fc GS KZ KD Hd HBB HBS HP0 HP1 HPZ HP2 HZ1 HZ2 HZl HEn HU HoT hvN hgN hgS HA1 k2;generalize zz.setCell ⟨gc,1,none⟩ (.slice az EZ.length cz2)=w4 at *;obtain⟨N2,hN2⟩:∃N2:Nat,N2=w4.heap.size:=⟨_,rfl⟩;have HQ:=hh_ H;have bg:=(H.out.same KS).blk.cell;have bk:=(H.out.same KS).sk.blk.cell
 go_wp2_with fail
 clear bg bk
 go_loopw [42] (fun s42 wk=>∃(k:Nat) (v:Value) (us:List SlR),k≤vs.length∧s42=.int .i64 k∧Blk wk gc #[.int .u64 X.sum,.slice az EZ.length cz2,.int .u64 X.T.base,v]∧Blk wk gb #[.int .u64 0,.slice none 0 0,.int .u64 0,.slice none 0 0]∧Own entF 3 224 w.heap.size wk (.slice az EZ.length cz2) EZ∧ORows wk v us (X.rows.take k)∧(∀i,rowsF v us i→N2≤i)∧w.grownBy wk none∧N2≤wk.heap.size) (fun s42 _=>vs.length-(RowKit.intOf s42).toNat)
 case atStart=>exact⟨0,_,[],Nat.zero_le _,rfl,AS,BS,os,ORows.nil _,fun i hi=>by rcases hi with hi |⟨u,hu,_⟩;exact absurd hi (Ax_ i);simp at hu,KS,Nat.le_of_eq hN2⟩
 case round=>
  obtain⟨k,v,us,hk,rfl,A,B,E,R,hF,hg,hz⟩:=hrel;clear AS BS os KS
  by_cases hkD:k<vs.length
  ·have hkd :(k:Int)<c.Depth:=by omega
   have hkr:k<X.rows.length:=by omega
   have RS:=(H.out.same hg).sk.rows;obtain⟨gx,cx,hvx,_,_,_,hcx,_⟩:=RS.own.at_ Nm_ hkD;cases hvx;have c0:=hcx 0 (SlR.v vs[k]) rfl;rw[Nat.mul_one,Nat.add_zero] at c0;have OR:=RS.all k vs[k] X.rows[k] (gq_ hkD) (gq_ hkr)
   have hrw:X.rows[k].length≤256:=by have:=hRw.out X.rows[k] (mg_ hkr);omega
   have HTK:=hh_ (show X.rows.take (k+1)=X.rows.take k++[X.rows[k]] by rw[tg_ hkr]);obtain⟨xa,xc,hxv⟩:=OR.shape;rw[hxv] at c0 OR;generalize X.rows[k]=row at *
   have hRT :(X.rows.take k).length=k:=by rw[List.length_take];omega
   generalize X.rows.take k=RT at *;generalize vs[k]=sx at *;clear hxv hcx RS
   go_upto_region 6 with fail
   have k0:wr.grownBy wr.drew none:=Am_ (Ab_ wr none);have HA:=hh_ A;have HRw:=hh_ OR.rd;have HR:=hh_ R;obtain⟨oa,oc,hov⟩:=R.own.shape;subst hov
   have hb1:row.length*8≤140737488355328:=by omega
   have hb2:row.length≤9223372036854775807:=by omega
   have hul:us.length≤vs.length:=by have h1:=R.len;omega
   clear OR
   (refine rn_ 6 (fun _ _ _ _ _=>False) ?_;simp only[ts_])
   (refine tq_ 1 ?_;simp only[ts_,Nat.reduceAdd];(repeat(go_big_quiet_step (fail)));refine wpQuiet_nil ?_)
   (refine Rg.tree_op rfl rfl ?_;intro y1 my1 dy1)
   clear dy1;have ax:=(A.same (Aa_ k0 my1)).cell
   go_wp2_with fail
   refine⟨Ab_ _ _,?_⟩;clear ax my1
   (refine Rg.tree_op rfl rfl ?_;intro y2 my2 dy2)
   clear dy2;have hz2:=(Aa_ k0 my2).size
   go_wp2_with fail
   refine⟨ga_ _ _ _,?_⟩;have N2':=Aw_ (e:=22) wordF 1 hz2;generalize y2.alloc (.cells #[] 22)=e2 at *;generalize y2.heap.size=g2 at *
   (refine tq_ 1 ?_;simp only[ts_,Nat.reduceAdd];(repeat(go_big_quiet_step (fail)));refine wpQuiet_nil ?_)
   (refine Rg.tree_op rfl rfl ?_;intro y4 my4 dy4)
   have N4:=N2'.same (dy4.out 2 (by omega) (by kernel_rfl));have R4:=HRw.out.same (Aa_ k0 my4);have z4:=(Aa_ k0 my4).size;clear dy4
   go_wp2_with (at_builtin;refine A2_ Y6_ Zj_ N4 R4 rfl hb1 hb2 z4 (by rfl) _ _ (by rfl) (by rfl) (by rfl) ?_;intro v4' e4' o4' k4' l4';have Hk4:=hh_ k4';clear k4' l4';(obtain⟨a4,c4,hv4⟩:=o4'.shape);subst hv4)
   refine⟨Hk4.out,?_⟩;clear N4 R4 z4 my4 N2' my2 hz2 Hk4
   (refine Rg.tree_op rfl rfl ?_;intro y5 my5 dy5)
   have X5:=o4'.same (dy5.out 4 (by omega) (by kernel_rfl));clear dy5;have hz5:=(Aa_ k0 my5).size
   go_wp2_with fail
   refine⟨ga_ _ _ _,?_⟩;have S5:=Gi_ (size:=1) Nm_ y5 ⟨a4,row.length,c4⟩ #[.slice a4 row.length c4] 24 rfl;have g5:=ga_ y5 (.cells #[.slice a4 row.length c4] 24) none;generalize y5.alloc (.cells #[.slice a4 row.length c4] 24)=e5 at *;generalize y5.heap.size=gn at *
   (refine Rg.tree_nil ?_;intro zq mzq dzq czq)
   have kq:=Aa_ k0 mzq;have Aq:=HA.out.same kq;have Sq:=S5.same (dzq.out 5 (by omega));have Xq:=X5.same (Aa_ g5 (dzq.out 5 (by omega)));have Oq:=HR.out.own.same kq
   have hbx1 :(us.length+[(⟨a4,row.length,c4⟩:SlR)].length)*24≤140737488355328:=by simp;omega
   have hbx3:us.length+[(⟨a4,row.length,c4⟩:SlR)].length≤9223372036854775807:=by simp;omega
   have hgF:∀i,rowsF (.slice oa us.length oc) us i→gc<i∧gb<i:=fun i hi=>by have:=hF i hi;omega
   have Hkq:=hh_ kq;clear dzq czq mzq X5 S5 g5 k0 hz5 o4' my5 c0 kq A R
   go_upto_region 7 with(at_builtin;refine app (l:=us) Oz_ Y7_ Oq Sq rfl hbx1 hbx3 (Nat.zero_le _) (by rfl) _ _ (by rfl) (by rfl) (by rfl) ?_;intro v8 w8 o8 g8 l8;have A8:=Aq.kept g8 (fun e=>by have:=(hgF gc (.inl e)).1;omega);have b8:=A8.cell;have f8:=A8.free;(obtain⟨va8,vc8,hv8⟩:=o8.shape);rw[List.length_append,List.length_singleton] at hv8;subst hv8;have Hg8:=hh_ g8;clear g8)
   have kq:=Hkq.out;have Gw:wr.grownBy w8 (Value.slice oa us.length oc).ownBlock:=Aa_ (Eu_ kq) Hg8.out
   have hvlo:=fun q hq=>(HR.out.own.lt q hq).2
   have hxlo:=fun q hq=>(Xq.lt q hq)
   have hsq:=kq.size;have hx8:=Xq.kept Hg8.out (fun q hq e=>by have h1:=hvlo q e;have h2:=(hxlo q hq).1;omega)
   have hl8:Lies (.slice oa us.length oc) (.slice va8 (us.length+1) vc8) wr.heap.size:=l8.imp id fun⟨q,h1,h2⟩=>⟨q,h1,lt_ hsq h2⟩
   have hne8:Off (ownF (SlR.v ⟨a4,row.length,c4⟩)) (ownF (.slice va8 (us.length+1) vc8)):=fun q hq hq'=>by
    have hq2:=hxlo q hq
    rcases l8 with l8 |⟨y,h1,h2⟩
    ·have:=hvlo q (l8.symm.trans hq');omega
    ·rw[show Value.ownBlock _=some q from hq'] at h1
     cases h1;omega
   have R8:=HR.out.snoc Gw o8 hl8 (x:=⟨a4,row.length,c4⟩) hx8 hne8;have B8:=B.kept Gw (fun e=>by have:=(hgF gb (.inl e)).2;omega);have E8:=E.kept Gw (fun q hq e=>by have h1:=hza q hq;have h2:=hF q (.inl e);omega)
   have hF8:∀i,rowsF (.slice va8 (us.length+1) vc8) (us++[⟨a4,row.length,c4⟩]) i→N2≤i:=fun i hi=>by
    rcases hi with hi |⟨u,hu,hi⟩
    ·rcases lies_new hl8 i hi with h1|h1
     ·exact hF i (.inl h1)
     ·omega
    ·rcases ma_ hu with hu|hu
     ·exact hF i (.inr ⟨u,hu,hi⟩)
     ·rw[ms_ hu] at hi
      have hq2:=(hxlo i hi).1
      omega
   have hg9:w8.grownBy (w8.setCell ⟨gc,3,none⟩ (.slice va8 (us.length+1) vc8)) (some gc):=Ac_ (Ab_ _ _) _ _;have A9:=A8.set_ 3 (.slice va8 (us.length+1) vc8) (cs':=#[.int .u64 X.sum,.slice az EZ.length cz2,.int .u64 X.T.base,.slice va8 (us.length+1) vc8]) rfl;have B9:=B8.kept hg9 (fun e=>by cases e;omega);have E9:=E8.kept hg9 (fun q hq e=>by cases e;have:=(hza gc hq).1;omega)
   have R9:=R8.keptS (GrownS.of (S:=oneF gc) hg9 fun q e=>by cases e;exact rfl) fun i hi hig=>by have:=hF8 i hi;have:i=gc:=hig;omega
   have hgw:w.grownBy w8 none:=by
    cases hv :(Value.slice oa us.length oc).ownBlock with
    | none=>rw[hv] at Gw;exact Aa_ hg Gw
    | some q=>rw[hv] at Gw;exact Af_ hg Gw (by have:=hF q (.inl hv);omega)
   have hsz8:=Gw.size;have hsz9:=hg9.size;have hF9:=hh_ (And.intro A9 (And.intro B9 (And.intro E9 (And.intro R9 (And.intro hF8 (And.intro (Af_ hgw hg9 hwc) (show N2≤(w8.setCell ⟨gc,3,none⟩ (.slice va8 (us.length+1) vc8)).heap.size by omega)))))));clear A9 B9 E9 R9 hF8 hgw hg9 R8 B8 E8 hne8 hx8 hl8 Gw A8 b8 f8 hsz8 hsz9 Aq Sq Xq Oq kq HA HR Hkq Hg8 hvlo hxlo;generalize w8.setCell ⟨gc,3,none⟩ (.slice va8 (us.length+1) vc8)=w9 at *
   go_wp2_with fail
   exact⟨⟨k+1,_,_,by omega,by go_num,hF9.out.1,hF9.out.2.1,hF9.out.2.2.1,by rw[HTK.out];exact hF9.out.2.2.2.1,hF9.out.2.2.2.2.1,hF9.out.2.2.2.2.2.1,hF9.out.2.2.2.2.2.2⟩,by simp[RowKit.intOf];omega⟩
  ·obtain rfl:k=vs.length:=by omega
   have hkd:¬(((vs.length:Nat):Int)<c.Depth):=by omega
   have hke:X.rows.take vs.length=X.rows:=tk_ (by omega);rw[hke] at R;have HF:=hh_ (And.intro E (And.intro R (And.intro hF (And.intro hg hz))));obtain⟨oa,oc,hov⟩:=R.own.shape;subst hov;have ca:=A.cell;have cb:=B.cell;have fb:=B.free;have hgb9:wr.grownBy ((((wr.setCell ⟨gb,0,none⟩ (.int .u64 X.sum)).setCell ⟨gb,1,none⟩ (.slice az EZ.length cz2)).setCell ⟨gb,2,none⟩ (.int .u64 X.T.base)).setCell ⟨gb,3,none⟩ (.slice oa us.length oc)) (some gb):=Ac_ (Ac_ (Ac_ (Ac_ (Ab_ _ _) _ _) _ _) _ _) _ _;have hB9:Blk ((((wr.setCell ⟨gb,0,none⟩ (.int .u64 X.sum)).setCell ⟨gb,1,none⟩ (.slice az EZ.length cz2)).setCell ⟨gb,2,none⟩ (.int .u64 X.T.base)).setCell ⟨gb,3,none⟩ (.slice oa us.length oc)) gb #[.int .u64 X.sum,.slice az EZ.length cz2,.int .u64 X.T.base,.slice oa us.length oc]:=(((B.set_ 0 _ rfl).set_ 1 _ rfl).set_ 2 _ rfl).set_ 3 _ rfl;clear E R hF hg hz A B hke
   go_wp2_with fail
   generalize (((wr.setCell ⟨gb,0,none⟩ (.int .u64 X.sum)).setCell ⟨gb,1,none⟩ (.slice az EZ.length cz2)).setCell ⟨gb,2,none⟩ (.int .u64 X.T.base)).setCell ⟨gb,3,none⟩ (.slice oa us.length oc)=wz at *;have rc:=hB9.cell;refine bodyPost_ret (v:=.agg #[.int .u64 X.sum,.slice az EZ.length cz2,.int .u64 X.T.base,.slice oa us.length oc]) (by simp[results,Tryz.results94,go_sem,rc]) rfl ?_;obtain⟨E,R,hF,hg,hz⟩:=HF.out;refine⟨_,_,us,rfl,⟨by rw[←HEZ.out];exact E.kept hgb9 (fun q hq e=>by cases e;have:=(hza gb hq).1;omega),R.keptS (GrownS.of (S:=oneF gb) hgb9 fun q e=>by cases e;exact rfl) (fun i hi hig=>by have:=hF i hi;have:i=gb:=hig;omega),fun i hi=>by have:=hF i hi;omega⟩,Af_ hg hgb9 (by omega)⟩
end
section
open Go.RowKit Go.Sort
theorem Kk_ (B g:Nat) (l:List UInt8) (e:Int) (w:World) (h:Rdr B w g l e) :
  Calls Tryz.prog 116 #[.pointer (some ⟨g,0,none⟩)] w (NumP B g w (weiF l e)):=by
 obtain⟨a,c,hb,hr,hlc,hab⟩:=h.ex;have hgB:=h.hg;have hbl:=hb.cell
 by_cases he:e≠0
 ·have hF:=hh_ (show weiF l e =(0,l,e) from if_pos he)
  have he2 :(e != 0)=true:=by simp[he]
  have H:=hh_ h;clear h hr he hb
  go_enter Tryz.func116,Tryz.ntmps116
  go_wp2
  go_ret
  exact⟨by rw[hF.out];rfl,by rw[hF.out];exact H.out,Ab_ _ _⟩
 ·obtain rfl:e=0:=by omega
  have C:=hh_ (M2_ _ l w hr);have hu:=E5_ l;have hw:=Ei_ l;have HE:=hh_ (La_ l);have HN:=hh_ (show weiF l 0=if (readF l).2.2≠0 then (0,l,(readF l).2.2) else if 18446744073709551615<(readF l).1 then (0,l.drop (readF l).2.1,1) else ((readF l).1,l.drop (readF l).2.1,0) from if_neg he);have HR:=hh_ hr;have HB:=hh_ hb;have HA:=hh_ hab;have H:=hh_ h;clear h hr he hb hab;obtain⟨n,u,f,hF⟩:∃n u f,readF l =(n,u,f):=⟨_,_,_,rfl⟩;rw[hF] at C hu hw HE HN;clear hF;dsimp only at hu hw
  have hu0 :(0:Int)≤(u:Int):=by omega
  have hu1 :(u:Int)≤(c:Int):=by omega
  have hu2 :(u:Int)≤(l.length:Int):=by omega
  have hl2 :(l.length:Int)≤(c:Int):=by omega
  go_enter Tryz.func116,Tryz.ntmps116
  go_upto_region 4 with(go_at_call 81;refine C.out.mono ?_;rintro en w1 ⟨rfl,g1⟩)
  clear hbl;have HB1:=HB.out.same g1;have H1:=H.out.same g1;have hfr:=HB1.free;have hbl:=HB1.cell;obtain⟨R2,g2⟩:=Rdr.setB HB1 (HR.out.same g1) hlc HA.out hgB hu;have R3:=hh_ (H1.setE f);have R4:=hh_ R2;have KW:=hh_ (Aa_ (Ak_ g1 (some g)) g2);have G1:=hh_ g1;clear HB1 H1 H HB HR HA R2 g2 g1
  by_cases hf:f=0
  ·subst hf
   have HF:=hh_ (HN.out.trans ((if_neg (by simp)).trans (if_neg (by omega))));clear HN HE C R3
   go_wp2_with fail
   ·go_ret
    have r4:=R4.out;have kw:=KW.out;rw[if_pos h,show c-u=0 by omega] at r4 kw;exact⟨by rw[HF.out];rfl,by rw[HF.out];exact r4,kw⟩
   ·go_ret
    have r4:=R4.out;have kw:=KW.out;rw[if_neg h] at r4 kw;exact⟨by rw[HF.out];rfl,by rw[HF.out];exact r4,kw⟩
  ·have hf1 :(f != 0)=true:=by simp[hf]
   have HF:=hh_ (HN.out.trans (if_pos hf));clear HN HE hf C R4 KW
   go_wp2_with fail
   go_ret
   exact⟨by rw[HF.out];rfl,by rw[HF.out];exact R3.out.1,Aa_ (Ak_ G1.out (some g)) R3.out.2⟩
def UpP (B g:Nat) (w:World) (F:Nat×List UInt8×Int) (en:Ending) (w':World):Prop:=
 en=.returned (.int .i64 F.1)∧Rdr B w' g F.2.1 F.2.2∧w.grownBy w' (some g)
theorem Ve_ {most:Nat} {over:Int} {l:List UInt8} {e:Int}:numF most over l e=if (weiF l e).2.2≠0 then (0,(weiF l e).2.1,(weiF l e).2.2) else if most<(weiF l e).1 then (0,(weiF l e).2.1,over) else weiF l e:=by
 have hw:=Ei_ l;unfold weiF numF
 by_cases h1:e≠0
 ·rw[if_pos h1,if_pos h1];simp[h1]
 rw[if_neg h1,if_neg h1]
 by_cases h2 :(readF l).2.2≠0
 ·rw[if_pos h2,if_pos h2];simp[h2]
 rw[if_neg h2,if_neg h2,if_neg (show ¬18446744073709551615<(readF l).1 by omega)]
 simp
theorem L6_ (B g most:Nat) (over:Int) (l:List UInt8) (e:Int) (w:World) (h:Rdr B w g l e) (hm:most<9223372036854775808) (ho:0<over) :
  Calls Tryz.prog 115 #[.pointer (some ⟨g,0,none⟩),.int .u64 most,.int .i64 over] w (UpP B g w (numF most over l e)):=by
 have C:=hh_ (Kk_ B g l e w h);have HN:=hh_ (Ve_ (most:=most) (over:=over) (l:=l) (e:=e));clear h;obtain⟨n,r,f,hF⟩:∃n r f,weiF l e =(n,r,f):=⟨_,_,_,rfl⟩;rw[hF] at C HN;clear hF
 go_enter Tryz.func115,Tryz.ntmps115
 go_upto_region 2 with(go_at_call 116;refine C.out.mono ?_;rintro en w1 ⟨rfl,R,g1⟩)
 have R3:=hh_ (R.setE over);have R4:=hh_ R;have KW:=hh_ g1;obtain⟨a,c,hb,-,-,-⟩:=R.ex;have hbl:=hb.cell;have hfr:=hb.free;clear R hb g1 C
 by_cases hf:f=0
 ·subst hf
  by_cases hn:most<n
  ·have hn2 :(most:Int)<(n:Int):=by omega
   have HF:=hh_ (HN.out.trans ((if_neg (by simp)).trans (if_pos hn)))
   have ho2 :(over != 0)=true:=by simp;omega
   clear HN hn
   go_wp2_with fail
   go_ret
   exact⟨by rw[HF.out];rfl,by rw[HF.out];exact R3.out.1,Aa_ KW.out R3.out.2⟩
  ·have hn2 :(n:Int)≤(most:Int):=by omega
   have HF:=hh_ (HN.out.trans ((if_neg (by simp)).trans (if_neg hn)));have hwr:IntKind.i64.wrap (n:Int) =(n:Int):=IntWalk.i64_in _ (by omega);clear HN hn R3
   go_wp2_with fail
   go_ret
   exact⟨by rw[HF.out];rfl,by rw[HF.out];exact R4.out,KW.out⟩
 ·have hf1 :(f != 0)=true:=by simp[hf]
  have hf2 :(f==0)=false:=by simp[hf]
  have HF:=hh_ (HN.out.trans (if_pos hf));clear HN hf R3
  go_wp2_with fail
  go_ret
  exact⟨by rw[HF.out];rfl,by rw[HF.out];exact R4.out,KW.out⟩
end
section
open Go.RowKit Go.Sort
def ew_ (B g:Nat) (w:World) (F:List UInt8×List UInt8×Int) (en:Ending) (w':World):Prop:=
 en=.returned (.string ⟨F.1.toArray⟩)∧Rdr B w' g F.2.1 F.2.2∧w.grownBy w' (some g)
end
section
open Go.RowKit Go.Sort
theorem Og_ (B g most:Nat) (l:List UInt8) (e:Int) (w:World) (h:Rdr B w g l e) (hm:most<4611686018427387904) :
  Calls Tryz.prog 117 #[.pointer (some ⟨g,0,none⟩),.int .u64 most] w (ew_ B g w (textD most l e)):=by
 have C:=hh_ (L6_ B g most 4 l e w h (by omega) (by omega));have HN:=hh_ (show textD most l e=if (numF most 4 l e).2.2≠0 then ([],(numF most 4 l e).2.1,(numF most 4 l e).2.2) else if (numF most 4 l e).2.1.length<(numF most 4 l e).1 then ([],(numF most 4 l e).2.1,2) else ((numF most 4 l e).2.1.take (numF most 4 l e).1,(numF most 4 l e).2.1.drop (numF most 4 l e).1,0) from rfl);have hw:=(Qy_ (most:=most) (over:=4) (l:=l) (e:=e)).2;clear h;obtain⟨n,r,f,hF⟩:∃n r f,numF most 4 l e =(n,r,f):=⟨_,_,_,rfl⟩;rw[hF] at C HN hw;clear hF;dsimp only at hw
 go_enter Tryz.func117,Tryz.ntmps117
 go_upto_region 2 with(go_at_call 115;refine C.out.mono ?_;rintro en w1 ⟨rfl,R,g1⟩)
 have R2:=hh_ (R.setE 2);have R4:=hh_ R;have KW:=hh_ g1;obtain⟨a,c,hb,hr,hlc,hab⟩:=R.ex;have hgB:=R.hg;have hbl:=hb.cell;have hfr:=hb.free;have HB:=hh_ hb;have HR:=hh_ hr;have HA:=hh_ hab;clear R hb g1 C hr hab
 by_cases hf:f=0
 ·subst hf
  by_cases hn:r.length<n
  ·have hn2 :(r.length:Int)<(n:Int):=by omega
   have HF:=hh_ (HN.out.trans ((if_neg (by simp)).trans (if_pos hn)));clear HN hn R4 HB HR HA
   go_wp2_with fail
   go_ret
   exact⟨by rw[HF.out];rfl,by rw[HF.out];exact R2.out.1,Aa_ KW.out R2.out.2⟩
  ·have hn2 :(n:Int)≤(r.length:Int):=by omega
   have hn3 :(n:Int)≤(c:Int):=by omega
   have hn0 :(0:Int)≤(n:Int):=by omega
   have hlc2 :(r.length:Int)≤(c:Int):=by omega
   have HF:=hh_ (HN.out.trans ((if_neg (by simp)).trans (if_neg hn)));have hcv:=Tg_ (RdL.take Bn_ HR.out (k:=n) (by omega) c);obtain⟨R5,g2⟩:=Rdr.setB HB.out HR.out hlc HA.out hgB (k:=n) (by omega);have HR5:=hh_ R5;have HG2:=hh_ g2;have HHn:=hh_ hn;clear HN R2 R4 HB HR HA R5 g2 hn
   go_wp2_with fail
   ·go_ret
    have r4:=HR5.out;have kw:=HG2.out;rw[if_pos h,show c-n=0 by omega] at r4 kw;exact⟨by rw[HF.out];rfl,by rw[HF.out];exact r4,Aa_ KW.out kw⟩
   ·go_ret
    have r4:=HR5.out;have kw:=HG2.out;rw[if_neg h] at r4 kw;exact⟨by rw[HF.out];rfl,by rw[HF.out];exact r4,Aa_ KW.out kw⟩
 ·have hf1 :(f != 0)=true:=by simp[hf]
  have hf2 :(f==0)=false:=by simp[hf]
  have HF:=hh_ (HN.out.trans (if_pos hf));clear HN hf R2 HB HR HA
  go_wp2_with fail
  go_ret
  exact⟨by rw[HF.out];rfl,by rw[HF.out];exact R4.out,KW.out⟩
end
section
open Go.RowKit Go.Sort
theorem Yi_:OneF wordF:=by intro x u hu;simp[wordF] at hu;subst hu;rfl
theorem Yn_:Elt 24 22 (.int .u64 0) 1 8:=⟨Tryz.underlying24,by kernel_rfl,rfl,by decide⟩
def subF (a b:Int):Int:=if a<b then 0 else a-b
def hiMax (l:List Ln) (un:Int):Int:=(l.map (·.hi)).foldl max un
def CapOk (v:Value):Prop:=∀a n c,v=.slice a n c→n≤c
theorem Own.capOk {α:Type} {f:α→List Value} {s:Nat} {e:TypeId} {B:Nat} {w:World} {v:Value} {l:List α} (h:Own f s e B w v l):CapOk v:=by
 intro a n c hv;obtain⟨a',c',hv'⟩:=h.shape;rw[hv'] at hv;cases hv;exact(hv'▸h:Own f s e B w (.slice a l.length c) l).cap
def From (lo:Nat) (v:Value):Prop:=∀a n c,v=.slice (some a) n c→lo≤a.block
theorem Own.from_ {α:Type} {f:α→List Value} {s:Nat} {e:TypeId} {B:Nat} {w:World} {v:Value} {l:List α} (h:Own f s e B w v l):From B v:=by
 intro a n c hv
 rcases h.2 with⟨rfl,_⟩ |⟨g,cap,cur,rfl,hb,_⟩
 ·cases hv
 ·cases hv;exact hb
theorem RdL.keptFrom {α:Type} {f:α→List Value} {s:Nat} {w w':World} {v:Value} {l:List α} {lo b:Nat} (h:RdL f s w v l) (hf:From lo v) (hg:w.grownBy w' (some b)) (hb:b<lo):RdL f s w' v l:=
 Rd.kept h hg fun k e a n c hv=>by cases e;have:=hf a n c hv;omega
theorem From.le {lo lo':Nat} {v:Value} (h:From lo v) (hl:lo'≤lo):From lo' v:=fun a n c hv=>lt_ hl (h a n c hv)
def selN (k:Int) (l:List Ln):Nat:=min k.toNat l.length
def SelPost (k:Int) (l:List Ln) (w:World) (e:Ending) (w':World):Prop:=
 ∃v1 v2,e=.returned (.tuple #[v1,v2])∧RdL lnF 3 w' v1 ((sortLn l).take (selN k l))∧RdL lnF 3 w' v2 ((sortLn l).drop (selN k l))∧CapOk v1∧From w.heap.size v1∧From w.heap.size v2∧w.grownBy w' none
end
section
open Go.RowKit Go.Sort
structure EvT (B g bx:Nat) (w0:World) (vt:Value) (tm wt:Int) (tags:List TagR) (l:List UInt8) (e:Int) (w:World):Prop where
 res:Blk w B #[.slice none 0 0,.int .i64 0,.int .u64 0]
 box:Blk w bx #[vt,.int .i64 tm,.int .u64 wt]
 rdr:Rdr B w g l e
 ot:Own tagF 2 53 (bx+1) w vt tags
 G:w0.grownBy w none
 hB:w0.heap.size=B
 hg:B<g
 hb:g<bx
section
variable {B g bx:Nat} {w0 w w':World} {vt:Value} {tm wt:Int} {tags:List TagR} {l l':List UInt8} {e e':Int}
theorem EvT.call (h:EvT B g bx w0 vt tm wt tags l e w) (hr:Rdr B w' g l' e') (hg:w.grownBy w' (some g)):EvT B g bx w0 vt tm wt tags l' e' w':=by
 have h1:=h.hB;have h2:=h.hg;have h3:=h.hb;exact⟨h.res.kept hg (by simp;omega),h.box.kept hg (by simp;omega),hr,h.ot.kept hg (fun k hk e=>by cases e;have:=(h.ot.lt _ hk).1;omega),Af_ h.G hg (by omega),h1,h2,h3⟩
theorem EvT.same (h:EvT B g bx w0 vt tm wt tags l e w) (hg:w.grownBy w' none):EvT B g bx w0 vt tm wt tags l e w':=
 ⟨h.res.same hg,h.box.same hg,h.rdr.same hg,h.ot.same hg,Aa_ h.G hg,h.hB,h.hg,h.hb⟩
theorem EvT.set (h:EvT B g bx w0 vt tm wt tags l e w) (tm' wt':Int) (i:Nat) (v:Value) (he :(#[vt,.int .i64 tm,.int .u64 wt]:Array Value).setIfInBounds i v=#[vt,.int .i64 tm',.int .u64 wt']):EvT B g bx w0 vt tm' wt' tags l e (w.setCell ⟨bx,i,none⟩ v):=by
 have h1:=h.hB;have h2:=h.hg;have h3:=h.hb;have hg:w.grownBy (w.setCell ⟨bx,i,none⟩ v) (some bx):=Ac_ (Ab_ w (some bx)) i v;exact⟨h.res.kept hg (by simp;omega),h.box.set_ i v he,h.rdr.kept hg (by simp;omega) (fun k e=>by cases e;omega),h.ot.kept hg (fun k hk e=>by cases e;have:=(h.ot.lt _ hk).1;omega),Af_ h.G hg (by omega),h1,h2,h3⟩
theorem EvT.other {q:Nat} (h:EvT B g bx w0 vt tm wt tags l e w) (hg:w.grownBy w' (some q)) (hq:bx<q) (ho:∀k,vt.ownBlock=some k→k<q):EvT B g bx w0 vt tm wt tags l e w':=by
 have h1:=h.hB;have h2:=h.hg;have h3:=h.hb;exact⟨h.res.kept hg (by simp;omega),h.box.kept hg (by simp;omega),h.rdr.kept hg (by simp;omega) (fun k e=>by cases e;omega),h.ot.kept hg (fun k hk e=>by cases e;have:=ho _ hk;omega),Af_ h.G hg (by omega),h1,h2,h3⟩
theorem EvT.app (h:EvT B g bx w0 vt tm wt tags l e w) {v':Value} {ls':List TagR} (o':Own tagF 2 53 (bx+1) w' v' ls') (hg:w.grownBy w' vt.ownBlock) :
  Blk w' bx #[vt,.int .i64 tm,.int .u64 wt]∧EvT B g bx w0 v' tm wt ls' l e (w'.setCell ⟨bx,0,none⟩ v'):=by
 have h1:=h.hB;have h2:=h.hg;have h3:=h.hb
 have hlo:∀k,vt.ownBlock=some k→bx+1≤k:=fun k hk=>(h.ot.lt k hk).1
 have hb:=h.box.kept hg (fun e=>by have:=hlo _ e;omega);refine⟨hb,?_⟩;have hs:w'.grownBy (w'.setCell ⟨bx,0,none⟩ v') (some bx):=Ac_ (Ab_ w' (some bx)) 0 v'
 exact⟨(h.res.kept hg (fun e=>by have:=hlo _ e;omega)).kept hs (by simp;omega),hb.set_ 0 v' rfl,(h.rdr.kept hg (fun e=>by have:=hlo _ e;omega) (fun k hk=>by have:=hlo _ hk;omega)).kept hs (by simp;omega) (fun k e=>by cases e;omega),
  o'.kept hs (fun k hk e=>by cases e;have:=(o'.lt _ hk).1;omega),Af_ (Ao_ h.G h.ot (by omega) hg) hs (by omega),h1,h2,h3⟩
end
def EvdP (l:List UInt8) (w:World) (en:Ending) (w':World):Prop:=
 (if rawX l=0 then ∃vt,en=.returned (.tuple #[.agg #[vt,.int .i64 (rawE l).1.time,.int .u64 (rawE l).1.weight],.int .i64 (l.length-(rawE l).2.1.length:Nat),.int .i64 0])∧RdL tagF 2 w' vt (rawE l).1.tags
 else en=.returned (.tuple #[.agg #[.slice none 0 0,.int .i64 0,.int .u64 0],.int .i64 0,.int .i64 (rawX l)]))∧w.grownBy w' none
theorem cf_ (v:Value) (l:List UInt8) (w:World) (h:RdL byF 1 w v l) (hc:∀a n c,v=.slice a n c→n≤c) (hl:l.length≤1000000):Calls Tryz.prog 82 #[v] w (EvdP l w):=by
 obtain⟨a,c,rfl⟩:=h.shape;have hlc:=hc _ _ _ rfl;obtain⟨n1,l1,e1,X1⟩:∃n r e,numF 1099511627776 1 l 0 =(n,r,e):=⟨_,_,_,rfl⟩;obtain⟨n2,l2,e2,X2⟩:∃n r e,weiF l1 e1 =(n,r,e):=⟨_,_,_,rfl⟩;obtain⟨n3,l3,e3,X3⟩:∃n r e,numF 8 5 l2 e2 =(n,r,e):=⟨_,_,_,rfl⟩;have HD:=hh_ (show rawE l =(⟨n1,n2,(tagsD n3 l3 e3).1⟩,(tagsD n3 l3 e3).2) by unfold rawE;simp only[X1,X2,X3]);have HX:=hh_ (show rawX l =(tagsD n3 l3 e3).2.2 by unfold rawX;rw[HD.out]);have hleft:=hh_ (Kh_ l)
 have C1:=hh_ fun(g:Nat) w' (h:Rdr w.heap.size w' g l 0)=>X1▸L6_ w.heap.size g 1099511627776 1 l 0 w' h (by omega) (by omega)
 have C2:=hh_ fun(g:Nat) w' (h:Rdr w.heap.size w' g l1 e1)=>X2▸Kk_ w.heap.size g l1 e1 w' h
 have C3:=hh_ fun(g:Nat) w' (h:Rdr w.heap.size w' g l2 e2)=>X3▸L6_ w.heap.size g 8 5 l2 e2 w' h (by omega) (by omega)
 have hn1:n1≤1099511627776:=by have:=(Qy_ (most:=1099511627776) (over:=1) (l:=l) (e:=0)).2;rw[X1] at this;exact this
 have hn3:n3≤8:=by have:=(Qy_ (most:=8) (over:=5) (l:=l2) (e:=e2)).2;rw[X3] at this;exact this
 clear X1 X2 X3;have H:=hh_ h;clear h hc
 go_enter Tryz.func82,Tryz.ntmps82
 go_upto_region 1 with fail
 have Aa:=Blk.new w #[.slice none 0 0,.int .i64 0,.int .u64 0] 164;have ga:=ga_ w (.cells #[.slice none 0 0,.int .i64 0,.int .u64 0] 164) none
 have za:w.heap.size<(w.alloc (.cells #[.slice none 0 0,.int .i64 0,.int .u64 0] 164)).heap.size:=by simp
 generalize w.alloc (.cells #[.slice none 0 0,.int .i64 0,.int .u64 0] 164)=wa at *
 go_upto_region 2 with fail
 have Bb:=Blk.new wa #[.slice a l.length c,.int .i64 0] 200;have gb:=ga_ wa (.cells #[.slice a l.length c,.int .i64 0] 200) none
 have zb:wa.heap.size<(wa.alloc (.cells #[.slice a l.length c,.int .i64 0] 200)).heap.size:=by simp
 generalize wa.alloc (.cells #[.slice a l.length c,.int .i64 0] 200)=wb at *;generalize wa.heap.size=g at *
 go_upto_region 3 with fail
 have Ac:=Blk.new wb #[.slice none 0 0,.int .i64 0,.int .u64 0] 164;have gc:=ga_ wb (.cells #[.slice none 0 0,.int .i64 0,.int .u64 0] 164) none
 have D0:=hh_ (show EvT w.heap.size g wb.heap.size w (.slice none 0 0) 0 0 [] l 0 _ from
  ⟨(Aa.same gb).same gc,Ac,(Rdr.new H.out hlc Bb (Aa_ ga gb) (by omega)).same gc,Own.nil _ _ _ _ _,Aa_ (Aa_ ga gb) gc,rfl,za,zb⟩)
 clear Aa ga za Bb gb zb Ac gc H;generalize wb.alloc (.cells #[.slice none 0 0,.int .i64 0,.int .u64 0] 164)=wc at *;generalize wb.heap.size=bx at *
 go_upto_region 4 with(go_at_call 115;refine(C1.out _ _ D0.out.rdr).mono ?_;rintro en wx ⟨rfl,Rx,gx⟩;have Dx:=D0.out.call Rx gx;have ac:=Dx.box.cell;have af:=Dx.box.free)
 have D1:=hh_ (Dx.set n1 0 1 (.int .i64 n1) rfl);clear Dx Rx gx ac af C1 D0;generalize wx.setCell ⟨bx,1,none⟩ (.int .i64 n1)=w1 at *;clear wx
 go_upto_region 5 with(go_at_call 116;refine(C2.out _ _ D1.out.rdr).mono ?_;rintro en wx ⟨rfl,Rx,gx⟩;have Dx:=D1.out.call Rx gx;have ac:=Dx.box.cell;have af:=Dx.box.free)
 have D2:=hh_ (Dx.set n1 n2 2 (.int .u64 n2) rfl);clear Dx Rx gx ac af C2 D1;generalize wx.setCell ⟨bx,2,none⟩ (.int .u64 n2)=w2 at *;clear wx
 go_upto_region 6 with(go_at_call 115;refine(C3.out _ _ D2.out.rdr).mono ?_;rintro en w3 ⟨rfl,Rx,gx⟩)
 have D3:=hh_ (D2.out.call Rx gx);clear Rx gx D2 C3
 go_loopw [7] (fun s7 wk=>∃(j:Nat) (vt:Value),j≤n3∧s7=.int .i64 ((n3:Int)-j)∧EvT w.heap.size g bx w vt n1 n2 (tagsD j l3 e3).1 (tagsD j l3 e3).2.1 (tagsD j l3 e3).2.2 wk) (fun s7 _=>(RowKit.intOf s7).toNat)
 case atStart=>exact⟨0,_,by omega,by go_num,D3.out⟩
 case round=>
  clear D3;obtain⟨j,vt,hj,rfl,hD⟩:=hrel;have HDk:=hh_ hD;clear hD
  by_cases hlt:j<n3
  ·have hlen:=Xd_ j l3 e3
   have HS:=hh_ (show((tagsD j l3 e3).1++[(tagD (tagsD j l3 e3).2.1 (tagsD j l3 e3).2.2).1],(tagD (tagsD j l3 e3).2.1 (tagsD j l3 e3).2.2).2)=tagsD (j+1) l3 e3 from rfl);generalize tagsD j l3 e3=TD at *;obtain⟨nm,la,ea,Xa⟩:∃n r e,textD 4096 TD.2.1 TD.2.2 =(n,r,e):=⟨_,_,_,rfl⟩;obtain⟨vl,lb,eb,Xb⟩:∃n r e,textD 4096 la ea =(n,r,e):=⟨_,_,_,rfl⟩;have HL:=hh_ (show tagD TD.2.1 TD.2.2 =(⟨⟨nm.toArray⟩,⟨vl.toArray⟩⟩,lb,eb) by unfold tagD;simp only[Xa,Xb])
   have Ca:=hh_ fun w' (h:Rdr w.heap.size w' g TD.2.1 TD.2.2)=>Xa▸Og_ w.heap.size g 4096 _ _ w' h (by omega)
   have Cb:=hh_ fun w' (h:Rdr w.heap.size w' g la ea)=>Xb▸Og_ w.heap.size g 4096 _ _ w' h (by omega)
   clear Xa Xb
   have hj1 :(0:Int)<(n3:Int)-(j:Int):=by omega
   have hb3 :(TD.1.length+1)*32≤140737488355328:=by omega
   have hb4:TD.1.length+1≤9223372036854775807:=by omega
   have Hlen:=hh_ hlen;clear hlen
   go_upto_region 9 with fail
   have by0:bx<wr.heap.size:=HDk.out.box.lt
   have ol0:∀q,vt.ownBlock=some q→q<wr.heap.size:=fun q hq=>(HDk.out.ot.lt q hq).2
   have Ay:=hh_ (Blk.new wr #[.string ⟨#[]⟩,.string ⟨#[]⟩] 53);have Dy:=hh_ (HDk.out.same (ga_ wr (.cells #[.string ⟨#[]⟩,.string ⟨#[]⟩] 53) none));generalize wr.alloc (.cells #[.string ⟨#[]⟩,.string ⟨#[]⟩] 53)=wy at *;generalize wr.heap.size=by' at *;have hgb:g<bx:=HDk.out.hb;clear HDk
   go_upto_region 10 with(go_at_call 117;refine(Ca.out _ Dy.out.rdr).mono ?_;rintro en wx ⟨rfl,Rx,gx⟩;have Dx:=Dy.out.call Rx gx;have Ax:=Ay.out.kept gx (by simp;omega);have ac:=Ax.cell;have af:=Ax.free)
   have g1:wx.grownBy (wx.setCell ⟨by',0,none⟩ (.string ⟨nm.toArray⟩)) (some by'):=Ac_ (Ab_ wx (some by')) 0 _;have D1:=hh_ (Dx.other g1 by0 ol0);have A1:=hh_ (Ax.set_ 0 (.string ⟨nm.toArray⟩) rfl);clear Dx Ax ac af Rx gx g1 Dy Ay Ca;generalize wx.setCell ⟨by',0,none⟩ (.string ⟨nm.toArray⟩)=z1 at *;clear wx
   go_upto_region 11 with(go_at_call 117;refine(Cb.out _ D1.out.rdr).mono ?_;rintro en wx ⟨rfl,Rx,gx⟩;have Dx:=D1.out.call Rx gx;have Ax:=A1.out.kept gx (by simp;omega);have ac:=Ax.cell;have af:=Ax.free)
   have g1:wx.grownBy (wx.setCell ⟨by',1,none⟩ (.string ⟨vl.toArray⟩)) (some by'):=Ac_ (Ab_ wx (some by')) 1 _;have D2:=hh_ (Dx.other g1 by0 ol0);have A2:=(Ax.set_ 1 (.string ⟨vl.toArray⟩) rfl).cell;clear Dx Ax ac af Rx gx g1 D1 A1 Cb;generalize wx.setCell ⟨by',1,none⟩ (.string ⟨vl.toArray⟩)=z2 at *;clear wx;have bq:=D2.out.box.cell;have bqf:=D2.out.box.free;have hbase:bx+1≤z2.heap.size:=D2.out.box.lt;have Hcs:=hh_ (show(#[Value.string ⟨nm.toArray⟩,.string ⟨vl.toArray⟩]:Array Value).toList=tagF ⟨⟨nm.toArray⟩,⟨vl.toArray⟩⟩ from rfl)
   go_wp2_with (at_builtin;refine A5_ Cg_ Da_ At_ D2.out.ot ⟨⟨nm.toArray⟩,⟨vl.toArray⟩⟩ hb3 hb4 hbase Hcs.out (by rfl) _ _ (by rfl) (by rfl) (by rfl) ?_;intro v3 w3 o3 g3 l3;obtain⟨a3,c3,rfl⟩:=o3.shape;obtain⟨b3,D3⟩:=D2.out.app o3 g3;have ac3:=b3.cell;have af3:=b3.free)
   simp only[List.length_append,List.length_singleton] at D3;exact⟨⟨j+1,_,by omega,congrArg _ (by omega),by rw[←HS.out,HL.out];exact D3⟩,by simp[RowKit.intOf];omega⟩
  ·obtain rfl:j=n3:=by omega
   clear hlt hj;generalize tagsD j l3 e3=TD at *;obtain⟨TS,lz,ez⟩:=TD;dsimp only at HDk HD HX
   have hjz:¬(0:Int)<(j:Int)-(j:Int):=by omega
   have hjj :(j:Int)-(j:Int)=0:=by omega
   rw[hjj];clear hjj hjz;have hres:=HDk.out.res.cell;have hrf:=HDk.out.res.free;obtain⟨az,cz,hbz,-,-,-⟩:=HDk.out.rdr.ex;have bc:=hbz.cell;have hbx:=HDk.out.box.cell;have HW:=hh_ (HDk.out.ot);have HG:=hh_ HDk.out.G
   have hq:∀(v:Value) (t1 t2:Int) w',w' =((wr.setCell ⟨w.heap.size,0,none⟩ v).setCell ⟨w.heap.size,1,none⟩ (.int .i64 t1)).setCell ⟨w.heap.size,2,none⟩ (.int .u64 t2)→wr.grownBy w' (some w.heap.size):=fun v t1 t2 w' e=>e▸Ac_ (Ac_ (Ac_ (Ab_ _ _) _ _) _ _) _ _
   have HQ:=hh_ hq;clear hq;obtain⟨ta,tcp,rfl⟩:=HDk.out.ot.shape
   have hlt:lz.length≤l.length:=by have:=hleft.out;rw[HD.out] at this;exact this
   have HR:=hh_ HDk.out;have bc0:wr.cell? ⟨g,0,none⟩=some (.slice az lz.length cz):=bc 0;have bc1:wr.cell? ⟨g,1,none⟩=some (.int .i64 ez):=bc 1;have bx0:wr.cell? ⟨bx,0,none⟩=some (.slice ta TS.length tcp):=hbx 0;have bx1:wr.cell? ⟨bx,1,none⟩=some (.int .i64 n1):=hbx 1;have bx2:wr.cell? ⟨bx,2,none⟩=some (.int .u64 n2):=hbx 2;have rs0:wr.cell? ⟨w.heap.size,0,none⟩=some (.slice none 0 0):=hres 0;have rs1:wr.cell? ⟨w.heap.size,1,none⟩=some (.int .i64 0):=hres 1;have rs2:wr.cell? ⟨w.heap.size,2,none⟩=some (.int .u64 0):=hres 2;have rf0:=hrf 0;have rf1:=hrf 1;have rf2:=hrf 2
   have hne1:w.heap.size≠g:=by have:=HDk.out.hg;omega
   have hne2:w.heap.size≠bx:=by have:=HDk.out.hg;have:=HDk.out.hb;omega
   by_cases hz:ez=0
   ·subst hz
    have HX0:=hh_ HX.out
    go_wp2_with fail
    go_region
    go_wp2_with fail
    have rc:=(((HR.out.res.set_ 0 (.slice ta TS.length tcp) rfl).set_ 1 (.int .i64 n1) rfl).set_ 2 (.int .u64 n2) rfl).cell;have g1:=HQ.out (.slice ta TS.length tcp) n1 n2 _ rfl;refine bodyPost_ret (v:=.tuple #[.agg #[.slice ta TS.length tcp,.int .i64 n1,.int .u64 n2],.int .i64 ((l.length:Int)-lz.length),.int .i64 0]) (by simp[results,Tryz.results82,go_sem,rc]) rfl ?_;have hot:=HW.out.kept g1 (fun k hk e=>by cases e;have:=(HW.out.lt _ hk).1;have:=HR.out.hg;have:=HR.out.hb;omega);refine⟨?_,Aa_ (Af_ HG.out g1 (Nat.le_refl _)) gw_⟩;rw[if_pos HX0.out,HD.out];exact⟨.slice ta TS.length tcp,by dsimp only;rw[Int.ofNat_sub hlt],(hot.same gw_).rd⟩
   ·have hz1 :(ez==0)=false:=by simp[hz]
    have hz2 :(ez != 0)=true:=by simp[hz]
    have HZ:=hh_ hz;clear hz
    go_wp2_with fail
    go_region
    go_wp2_with fail
    have rc:=(((HR.out.res.set_ 0 (.slice none 0 0) rfl).set_ 1 (.int .i64 0) rfl).set_ 2 (.int .u64 0) rfl).cell;have g1:=HQ.out (.slice none 0 0) 0 0 _ rfl;refine bodyPost_ret (v:=.tuple #[.agg #[.slice none 0 0,.int .i64 0,.int .u64 0],.int .i64 0,.int .i64 ez]) (by simp[results,Tryz.results82,go_sem,rc]) rfl ?_;refine⟨?_,Aa_ (Af_ HG.out g1 (Nat.le_refl _)) gw_⟩;rw[if_neg (by rw[HX.out];exact HZ.out),HX.out]
end
section
open Go.RowKit Go.Sort
theorem M0_ (e:Int) (w:World):Calls Tryz.prog 84 #[.int .i64 e] w (Ms_ (verE e) w):=by
 go_enter Tryz.func84,Tryz.ntmps84
 by_cases h:e=0
 ·subst h
  go_wp2_with fail
  go_ret
  exact⟨rfl,rfl⟩
 ·have h1 :(e==0)=false:=by simp[h]
  by_cases h4:e=4
  ·subst h4
   go_wp2_with fail
   go_ret
   exact⟨rfl,rfl⟩
  ·have h2 :(e==4)=false:=by simp[h4]
   have HV:=hh_ (show verE e=1 by unfold verE;rw[if_neg h,if_neg h4]);clear h h4
   go_wp2_with fail
   go_ret
   exact⟨by rw[HV.out];rfl,rfl⟩
def ItemP (x:RawE) (w:World) (en:Ending) (w':World):Prop:=en=.returned (.tuple #[.agg #[.string (itemR x).key,.int .i64 (itemR x).time,.int .u64 (itemR x).weight],.int .i64 (itemE x)])∧w.grownBy w' none
theorem Sp_ {x:RawE} {w w':World} {E:Int} (h:itemE x=E) (h0:E≠0) (hg:w.grownBy w' none):ItemP x w (.returned (.tuple #[.agg #[.string ⟨#[]⟩,.int .i64 0,.int .u64 0],.int .i64 E])) w':=by
 unfold ItemP itemR;rw[h,if_neg h0];exact⟨rfl,hg⟩
theorem cb_ (vt:Value) (x:RawE) (w:World) (h:RdL tagF 2 w vt x.tags) (hW:∀t∈x.tags,TagW t):Calls Tryz.prog 83 #[.agg #[vt,.int .i64 x.time,.int .u64 x.weight]] w (ItemP x w):=by
 obtain⟨a,c,rfl⟩:=h.shape;have C:=hh_ (show ∀y,w.grownBy y none→Calls Tryz.prog 16 #[.slice a x.tags.length c] y (fun e w'=>e=.returned (.tuple #[.string (keyY x.tags),.int .i64 (keyE x.tags)])∧y.grownBy w' none) from fun y q=>Jn_ _ x.tags y (h.same q) hW);have HP:=hh_ (show ∀(E:Int) w',itemE x=E→E≠0→w.grownBy w' none→ItemP x w (.returned (.tuple #[.agg #[.string ⟨#[]⟩,.int .i64 0,.int .u64 0],.int .i64 E])) w' from fun E w' h h0 hg=>Sp_ h h0 hg);have HE:=hh_ (show itemE x=if x.time<0∨1099511627776<x.time∨x.weight<1∨9223372036854775808<x.weight then 1 else keyE x.tags from rfl)
 have HG:=hh_ (show keyE x.tags=0→itemE x=keyE x.tags→∀w',w.grownBy w' none→ItemP x w (.returned (.tuple #[.agg #[.string (keyY x.tags),.int .i64 x.time,.int .u64 x.weight],.int .i64 0])) w' from fun h0 h1 w' hg=>by
  unfold ItemP itemR;rw[h1,h0,if_pos rfl];exact⟨rfl,hg⟩)
 clear h hW;generalize x.tags.length=n at *;generalize keyE x.tags=E at *;generalize keyY x.tags=Y at *;generalize x.time=tm at *;generalize x.weight=wt at *
 go_enter Tryz.func83,Tryz.ntmps83
 go_upto_region 1 with fail
 have A1:=Blk.new w #[.slice a n c,.int .i64 tm,.int .u64 wt] 164;have g1:=ga_ w (.cells #[.slice a n c,.int .i64 tm,.int .u64 wt] 164) none;have A2:Blk ((w.alloc (.cells #[.slice a n c,.int .i64 tm,.int .u64 wt] 164)).alloc (.cells #[.string ⟨#[]⟩,.int .i64 0,.int .u64 0] 41)) (w.heap.size+1) #[.string ⟨#[]⟩,.int .i64 0,.int .u64 0]:=Blk.new' _ _ _ (by simp);have g2:=ga_ (w.alloc (.cells #[.slice a n c,.int .i64 tm,.int .u64 wt] 164)) (.cells #[.string ⟨#[]⟩,.int .i64 0,.int .u64 0] 41) none;have B1:=hh_ (A1.same g2);have K:=hh_ (Aa_ g1 g2);have HA2:=hh_ A2;clear A1 g1 g2 A2;generalize (w.alloc (.cells #[.slice a n c,.int .i64 tm,.int .u64 wt] 164)).alloc (.cells #[.string ⟨#[]⟩,.int .i64 0,.int .u64 0] 41)=w2 at *;generalize hq1:w.heap.size=q1 at *;have c1:=B1.out.cell;have r1:=HA2.out.cell;have f1:=HA2.out.free
 by_cases p:tm<0∨1099511627776<tm∨wt<1∨9223372036854775808<wt
 ·have HE1:=HE.out.trans (if_pos p)
  have HB:=hh_ (HP.out 1 · HE1 (by omega));clear HE HG C HE1;have hgw:=Af_ K.out (show World.grownBy w2 (((w2.setCell ⟨q1+1,0,none⟩ (.string ⟨#[]⟩)).setCell ⟨q1+1,1,none⟩ (.int .i64 0)).setCell ⟨q1+1,2,none⟩ (.int .u64 0)) (some (q1+1)) from Ac_ (Ac_ (Ac_ (Ab_ _ _) _ _) _ _) _ _) (by omega);have HHg:=hh_ hgw;have rc:=(((HA2.out.set_ 0 (.string ⟨#[]⟩) rfl).set_ 1 (.int .i64 0) rfl).set_ 2 (.int .u64 0) rfl).cell;have Hrc:=hh_ rc;clear rc hgw
  by_cases p1:tm<0
  ·clear p
   go_wp2_with fail
   have rc:=Hrc.out;refine bodyPost_ret (v:=.tuple #[.agg #[.string ⟨#[]⟩,.int .i64 0,.int .u64 0],.int .i64 1]) (by simp[results,Tryz.results83,go_sem,rc]) rfl ?_;exact HB.out _ HHg.out
  ·have p1':0≤tm:=by omega
   by_cases p2:1099511627776<tm
   ·clear p p1
    go_wp2_with fail
    have rc:=Hrc.out;refine bodyPost_ret (v:=.tuple #[.agg #[.string ⟨#[]⟩,.int .i64 0,.int .u64 0],.int .i64 1]) (by simp[results,Tryz.results83,go_sem,rc]) rfl ?_;exact HB.out _ HHg.out
   ·have p2':tm≤1099511627776:=by omega
    by_cases p3:wt<1
    ·clear p p1 p2
     go_wp2_with fail
     have rc:=Hrc.out;refine bodyPost_ret (v:=.tuple #[.agg #[.string ⟨#[]⟩,.int .i64 0,.int .u64 0],.int .i64 1]) (by simp[results,Tryz.results83,go_sem,rc]) rfl ?_;exact HB.out _ HHg.out
    ·have p3':1≤wt:=by omega
     have p4:9223372036854775808<wt:=by omega
     clear p p1 p2 p3
     go_wp2_with fail
     have rc:=Hrc.out;refine bodyPost_ret (v:=.tuple #[.agg #[.string ⟨#[]⟩,.int .i64 0,.int .u64 0],.int .i64 1]) (by simp[results,Tryz.results83,go_sem,rc]) rfl ?_;exact HB.out _ HHg.out
 ·have p1:0≤tm:=by omega
  have p2:tm≤1099511627776:=by omega
  have p3:1≤wt:=by omega
  have p4:wt≤9223372036854775808:=by omega
  have HE2:=hh_ (HE.out.trans (if_neg p));clear p HE
  go_upto_region 4 with(go_at_call 16;refine(C.out _ K.out).mono ?_;rintro e w3 ⟨rfl,g3⟩)
  have B3:=hh_ (B1.out.same g3);have A3:=hh_ (HA2.out.same g3);have K3:=hh_ (Aa_ K.out g3);clear c1 r1 f1 B1 HA2 K g3 C;have c1:=B3.out.cell;have r1:=A3.out.cell;have f1:=A3.out.free
  by_cases h0:E=0
  ·subst h0
   have HHg:=hh_ (Af_ K3.out (show World.grownBy w3 (((w3.setCell ⟨q1+1,0,none⟩ (.string Y)).setCell ⟨q1+1,1,none⟩ (.int .i64 tm)).setCell ⟨q1+1,2,none⟩ (.int .u64 wt)) (some (q1+1)) from Ac_ (Ac_ (Ac_ (Ab_ _ _) _ _) _ _) _ _) (by omega));have Hrc:=hh_ (((A3.out.set_ 0 (.string Y) rfl).set_ 1 (.int .i64 tm) rfl).set_ 2 (.int .u64 wt) rfl).cell
   go_upto_region 6 with fail
   go_wp2_with fail
   have rc:=Hrc.out;refine bodyPost_ret (v:=.tuple #[.agg #[.string Y,.int .i64 tm,.int .u64 wt],.int .i64 0]) (by simp[results,Tryz.results83,go_sem,rc]) rfl ?_;exact HG.out (by trivial) HE2.out _ HHg.out
  ·have h1 :(E==0)=false:=by simp[h0]
   have h2 :(E != 0)=true:=by simp[h0]
   have HHg:=hh_ (Af_ K3.out (show World.grownBy w3 (((w3.setCell ⟨q1+1,0,none⟩ (.string ⟨#[]⟩)).setCell ⟨q1+1,1,none⟩ (.int .i64 0)).setCell ⟨q1+1,2,none⟩ (.int .u64 0)) (some (q1+1)) from Ac_ (Ac_ (Ac_ (Ab_ _ _) _ _) _ _) _ _) (by omega));have Hrc:=hh_ (((A3.out.set_ 0 (.string ⟨#[]⟩) rfl).set_ 1 (.int .i64 0) rfl).set_ 2 (.int .u64 0) rfl).cell;have H0:=hh_ h0;clear h0
   go_wp2_with fail
   have rc:=Hrc.out;refine bodyPost_ret (v:=.tuple #[.agg #[.string ⟨#[]⟩,.int .i64 0,.int .u64 0],.int .i64 E]) (by simp[results,Tryz.results83,go_sem,rc]) rfl ?_;exact HP.out E _ HE2.out H0.out HHg.out
end
end Go.Proofs.YtckmgjmeanloaaaGreat
