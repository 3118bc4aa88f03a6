/- Several texts in one file: contracts of functions of the given program, and plain laws, for the proof of a statement. -/
import Derived.Test.YtckmgjmeanloaaaGreatBsad
import Derived.Deep.RegionLaw
import Derived.Test.YtckmgjmeanloaaaGreatBsaa
import Derived.Lib.QuietBelow
import Derived.Lib.MinMax
import Derived.Test.YtckmgjmeanloaaaGreatBsab
import Derived.Test.YtckmgjmeanloaaaGreatBsac
import Derived.StillTailTactics
import Derived.Test.YtckmgjmeanloaaaGreatShelf
import Derived.Shelf.SlIter.Keys
import Derived.Shelf.SlIter.Sorted
import Derived.Shelf.AbstractIn
import Derived.StringKeys
import Derived.Maps.RangeWalk
set_option maxHeartbeats 8000000
set_option maxRecDepth 100000
namespace Go.Proofs.YtckmgjmeanloaaaGreat
section
open Go.RowKit Go.Sort
theorem bc_ {t:TagR} (h:t.name.size≤70∧t.value.size≤70):TagW t:=⟨by omega,by omega⟩
theorem TagsM.w {L:List TagR} (h:TagsM L):∀t∈L,TagW t:=fun t ht=>bc_ (by have:=h.size t ht;omega)
def KeyD (B b:Nat) (w:World) (e:Ending) (w':World):Prop:=∃L,e=.returned (.string (keyY L))∧TagsM L∧Deck B w' b∧w.grownBy w' (some b)
theorem ca_ {B b:Nat} {w w':World} {L:List TagR} (h:TagsM L) (hd:Deck B w' b) (hg:w.grownBy w' (some b)):KeyD B b w (.returned (.string (keyY L))) w':=⟨L,rfl,h,hd,hg⟩
theorem da_ {B:Nat} (b:Nat) (w:World) (hd:Deck B w b) (hB:B≤w.heap.size):Calls Tryz.prog 44 #[.pointer (some ⟨b,0,none⟩)] w (KeyD B b w):=by
 have Ct:=hh_ (S4_ b w hd hB)
 go_enter Tryz.func44,Tryz.ntmps44
 go_wp2_with (first
  |(go_at_call 78;refine Ct.out.mono ?_;rintro e w2 ⟨v2,L,rfl,o2,m2,d2,g2⟩;obtain⟨a2,c2,rfl⟩:=o2.shape;have Ck:=hh_ (Jn_ _ L w2 o2.rd m2.w))
  |(go_at_call 16;refine Ck.out.mono ?_;rintro e w3 ⟨rfl,g3⟩))
 go_ret
 exact ca_ m2 (d2.kept g3 (by simp)) (Aa_ g2 (Ak_ g3 _))
structure EvS (B b b4 b5:Nat) (w0:World) (x:EvR) (w:World):Prop where
 deck:Deck B w b
 res:Blk w b4 #[.slice none 0 0,.int .i64 0,.int .u64 0]
 box:Blk w b5 #[x.vt,.int .i64 x.time,.int .u64 x.weight]
 own:Own tagF 2 53 (b4+1) w x.vt x.tags
 ne:∀k,x.vt.ownBlock=some k→k≠b5
 G:w0.grownBy w (some b)
 lt:b<B∧B≤b4∧b4<b5∧w0.heap.size≤b4
section
variable {B b b4 b5:Nat} {w0 w w':World} {x:EvR}
theorem EvS.next (h:EvS B b b4 b5 w0 x w) (hd:Deck B w' b) (hg:w.grownBy w' (some b)):EvS B b b4 b5 w0 x w':=by
 obtain⟨h1,h2,h3,h4⟩:=h.lt;exact⟨hd,h.res.kept hg (by simp;omega),h.box.kept hg (by simp;omega),h.own.kept hg (fun k hk e=>by cases e;have:=(h.own.lt _ hk).1;omega),h.ne,Aa_ h.G hg,h.lt⟩
theorem EvS.same (h:EvS B b b4 b5 w0 x w) (hg:w.grownBy w' none):EvS B b b4 b5 w0 x w':=
 ⟨h.deck.kept hg (by simp),h.res.same hg,h.box.same hg,h.own.same hg,h.ne,Aa_ h.G (Ak_ hg _),h.lt⟩
theorem EvS.set (h:EvS B b b4 b5 w0 x w) (y:EvR) (i:Nat) (v:Value) (he :(#[x.vt,.int .i64 x.time,.int .u64 x.weight]:Array Value).setIfInBounds i v=#[y.vt,.int .i64 y.time,.int .u64 y.weight])
  (ho:Own tagF 2 53 (b4+1) w y.vt y.tags) (hn:∀k,y.vt.ownBlock=some k→k≠b5):EvS B b b4 b5 w0 y (w.setCell ⟨b5,i,none⟩ v):=by
 obtain⟨h1,h2,h3,h4⟩:=h.lt;have hg:w.grownBy (w.setCell ⟨b5,i,none⟩ v) (some b5):=Ac_ (Ab_ w (some b5)) i v;exact⟨h.deck.kept hg (fun k e=>by cases e;omega),h.res.kept hg (by simp;omega),h.box.set_ i v he,ho.kept hg (fun k hk e=>by cases e;exact hn _ hk rfl),hn,Af_ h.G hg (by omega),h.lt⟩
theorem EvS.tag (h:EvS B b b4 b5 w0 x w) {g n c:Nat} (hv:x.vt=.slice (some ⟨g,0,none⟩) n c) (h0:0<x.tags.length) {j:Nat} (hj:j<2) (u:Value) (y:TagR) (hy:tagF y =(tagF x.tags[0]).set j u) :
  EvS B b b4 b5 w0 { x with tags:=x.tags.set 0 y } (w.setCell ⟨g,j,none⟩ u):=by
 obtain⟨h1,h2,h3,h4⟩:=h.lt;have ho:=h.own;rw[hv] at ho;have hs:=ho.stored At_ h0 hj u y hy;rw[Nat.zero_mul,Nat.zero_add] at hs;have hlt:=ho.lt g rfl;have hne:=h.ne g (by rw[hv];rfl);refine⟨h.deck.kept hs.2 (fun k e=>by cases e;omega),h.res.kept hs.2 (by simp;omega),h.box.kept hs.2 (by simpa using hne),?_,h.ne,Af_ h.G hs.2 (by omega),h.lt⟩;rw[←hv] at hs;exact hs.1
theorem EvS.app (h:EvS B b b4 b5 w0 x w) {v':Value} {l':List TagR} (o':Own tagF 2 53 (b4+1) w' v' l') (hg:w.grownBy w' x.vt.ownBlock) (hl:Lies x.vt v' w.heap.size) :
  Blk w' b5 #[x.vt,.int .i64 x.time,.int .u64 x.weight]∧EvS B b b4 b5 w0 { x with vt:=v',tags:=l' } (w'.setCell ⟨b5,0,none⟩ v'):=by
 obtain⟨h1,h2,h3,h4⟩:=h.lt
 have hlo:∀k,x.vt.ownBlock=some k→b4+1≤k:=fun k hk=>(h.own.lt k hk).1
 have hb:=h.box.kept hg (fun e=>h.ne _ e rfl);refine⟨hb,?_⟩;have hs:w'.grownBy (w'.setCell ⟨b5,0,none⟩ v') (some b5):=Ac_ (Ab_ w' (some b5)) 0 v'
 have hn:∀k,v'.ownBlock=some k→k≠b5:=fun k hk=>by
  rcases hl with e |⟨m,e1,e2⟩
  ·exact h.ne k (e▸hk)
  ·rw[e1] at hk;cases hk;have:=h.box.lt;omega
 have hG:w0.grownBy w' (some b):=by
  cases hq:x.vt.ownBlock with
  | none=>rw[hq] at hg;exact Aa_ h.G (Ak_ hg _)
  | some k=>rw[hq] at hg;exact Af_ h.G hg (by have:=hlo k hq;omega)
 exact⟨(h.deck.kept hg (fun k e=>by have:=hlo _ e;omega)).kept hs (fun k e=>by cases e;omega),(h.res.kept hg (fun e=>by have:=hlo _ e;omega)).kept hs (by simp;omega),hb.set_ 0 v' rfl,
  o'.kept hs (fun k hk e=>by cases e;exact hn _ hk rfl),hn,Af_ hG hs (by omega),h.lt⟩
def EvD (B b:Nat) (w:World) (e:Ending) (w':World):Prop:=∃x:EvR,e=.returned (.agg #[x.vt,.int .i64 x.time,.int .u64 x.weight])∧EvOk x∧RdL tagF 2 w' x.vt x.tags∧InB w.heap.size w'.heap.size x.vt∧Deck B w' b∧w.grownBy w' (some b)
theorem EvS.fin (h:EvS B b b4 b5 w0 x w) (hE:EvOk x) (hg:w.grownBy w' (some b4)):EvD B b w0 (.returned (.agg #[x.vt,.int .i64 x.time,.int .u64 x.weight])) w':=by
 obtain⟨h1,h2,h3,h4⟩:=h.lt;have ho:=h.own.kept hg (fun k hk e=>by cases e;have:=(h.own.lt _ hk).1;omega);exact⟨x,rfl,hE,ho.rd,(h.own.inB.wide (by omega) hg.size),h.deck.kept hg (fun k e=>by cases e;omega),Af_ h.G hg h4⟩
end
theorem bo_ {B:Nat} (b:Nat) (t:Int) (w:World) (hd:Deck B w b) (hB:B≤w.heap.size) (ht:0≤t∧t≤1099511627776):Calls Tryz.prog 114 #[.pointer (some ⟨b,0,none⟩),.int .i64 t] w (EvD B b w):=by
 have hbB:=hd.below
 go_enter Tryz.func114,Tryz.ntmps114
 go_upto_region 1 with fail
 have B4:=Blk.new w #[.slice none 0 0,.int .i64 0,.int .u64 0] 164;have G4:=ga_ w (.cells #[.slice none 0 0,.int .i64 0,.int .u64 0] 164) none
 have z4 :(w.alloc (.cells #[.slice none 0 0,.int .i64 0,.int .u64 0] 164)).heap.size=w.heap.size+1:=by simp
 generalize w.alloc (.cells #[.slice none 0 0,.int .i64 0,.int .u64 0] 164)=w4 at *;have D4:=hd.kept G4 (by simp);have Ct:=hh_ (S4_ b w4 D4 (by omega))
 go_upto_region 2 with(first
  |(go_at_call 78;refine Ct.out.mono ?_;rintro e w5 ⟨v5,L,rfl,o5,m5,d5,g5⟩;obtain⟨a5,c5,rfl⟩:=o5.shape;have Cs:=hh_ (Z9_ b w5 d5))
  |(go_at_call 149;refine Cs.out.mono ?_;rintro e w6 ⟨r6,rfl,hr6,d6,g6⟩))
 have B7:=Blk.new w6 #[.slice a5 L.length c5,.int .i64 t,.int .u64 r6] 164;have G7:=ga_ w6 (.cells #[.slice a5 L.length c5,.int .i64 t,.int .u64 r6] 164) none;have z5:=g5.size;have z6:=g6.size
 have E0:=hh_ (show EvS B b w.heap.size w6.heap.size w ⟨.slice a5 L.length c5,t,r6,L⟩ (w6.alloc (.cells #[.slice a5 L.length c5,.int .i64 t,.int .u64 r6] 164)) from
  ⟨(d6.kept G7 (by simp)),((B4.kept g5 (by simp;omega)).kept g6 (by simp;omega)).same G7,B7,((o5.kept g6 (fun k hk e=>by cases e;have:=(o5.lt _ hk).1;omega)).same G7).base (fun k hk=>by have:=(o5.lt k hk).1;omega),
   fun k hk=>by have:=(o5.lt k hk).2;omega,Aa_ (Aa_ (Aa_ (Ak_ G4 _) g5) g6) (Ak_ G7 _),hbB,hB,by omega,by omega⟩)
 generalize w6.alloc (.cells #[.slice a5 L.length c5,.int .i64 t,.int .u64 r6] 164)=w7 at *;clear B4 G4 z4 D4 Ct Cs o5 d5 g5 d6 g6 B7 G7 z5 z6;obtain⟨b4,hb4⟩:∃b4,w.heap.size=b4:=⟨_,rfl⟩;rw[hb4] at E0;rw[hb4];clear hb4;generalize w6.heap.size=b5 at *;have hmf:=m5.few;have hms:=m5.size;have HOk:=hh_ (show EvOk ⟨.slice a5 L.length c5,t,r6,L⟩ from⟨ht,hr6,by show L.length≤3;omega,fun u hu=>by have:=hms u hu;omega⟩);have Cn:=hh_ (A1_ b 24 w7 E0.out.deck (by omega) (by omega))
 go_upto_region 3 with(go_at_call 37;refine Cn.out.mono ?_;rintro e w8 ⟨r,rfl,hr0,hr1,hd8,hg8⟩)
 have E1:=hh_ (E0.out.next hd8 hg8);clear E0 Cn hd8 hg8 m5;have HMs:=hh_ hms;clear hms
 by_cases h0:r=0
 ·subst h0
  have Cw:=hh_ (Ti_ b w8 E1.out.deck);have bx:=E1.out.box.cell
  go_upto_region 17 with(go_at_call 150;refine Cw.out.mono ?_;rintro e w9 ⟨r9,rfl,hr9,d9,g9⟩;have D9:=E1.out.next d9 g9;have by_:=D9.box.cell;have bf_:=D9.box.free)
  have E2:=hh_ (D9.set ⟨.slice a5 L.length c5,t,r9,L⟩ 2 (.int .u64 r9) rfl D9.own D9.ne);have HOk2:=hh_ (show EvOk ⟨.slice a5 L.length c5,t,r9,L⟩ from⟨HOk.out.time,hr9,HOk.out.few,HOk.out.size⟩);clear bx by_ bf_ D9 d9 g9 Cw E1;generalize w9.setCell ⟨b5,2,none⟩ (.int .u64 r9)=wz at *;have HBx:=(E2).out.box.cell;have HRs:=(E2).out.res.cell;have HRf:=(E2).out.res.free
  go_wp2_with fail
  have hgw:World.grownBy wz (((wz.setCell ⟨b4,0,none⟩ (.slice a5 L.length c5)).setCell ⟨b4,1,none⟩ (.int .i64 t)).setCell ⟨b4,2,none⟩ (.int .u64 r9)) (some b4):=Ac_ (Ac_ (Ac_ (Ab_ _ _) _ _) _ _) _ _;have rc:=((((E2).out.res.set_ 0 (.slice a5 L.length c5) rfl).set_ 1 (.int .i64 t) rfl).set_ 2 (.int .u64 r9) rfl).cell;refine bodyPost_ret (v:=.agg #[(.slice a5 L.length c5),(.int .i64 t),(.int .u64 r9)]) (by simp[results,Tryz.results114,go_sem,rc]) rfl ?_;exact(E2).out.fin HOk2.out hgw
 by_cases h1:r=1
 ·subst h1
  clear h0
  have hL0:0<L.length:=by omega
  have Dd:=E1.out.same (w':=w8.drew) gw_;obtain⟨gv,cv,hv,-,hgv,-,hcx,-⟩:=Dd.own.at_ At_ (i:=0) hL0
  obtain⟨rfl,-,rfl⟩:a5=some ⟨gv,0,none⟩∧L.length=L.length∧c5=cv:=by simpa only[Value.slice.injEq] using hv
  have c0:=hcx 0 _ rfl;have c1:=hcx 1 _ rfl;rw[Nat.zero_mul,Nat.zero_add] at c0 c1
  have hp :(0:Int)<(L.length:Int):=by omega
  have hbx:=E1.out.box.cell;have ac:=Dd.box.cell;have hy:=HMs.out _ (mg_ hL0);dsimp only at c0 c1;generalize L[0]=y at *;have axd:=(Dd.same (ga_ w8.drew (.cells #[.string y.name,.string y.value] 53) none)).box.cell;have axd2:=(E1.out.same (ga_ w8 (.cells #[.string y.name,.string y.value] 53) none)).box.cell
  have hbase:b4+1≤w8.drew.heap.size:=by have h1:=Dd.box.lt;have h2:=Dd.lt;omega
  have hb3 :(L.length+1)*32≤140737488355328:=by omega
  have hb4:L.length+1≤9223372036854775807:=by omega
  have Hcs:=hh_ (show(#[Value.string y.name,Value.string y.value]:Array Value).toList=tagF y from rfl);have HDd:=hh_ Dd;have Hy:=hh_ hy;clear hv hcx Dd hy;dsimp only at ac axd axd2 hbx
  go_wp2_with fail
  go_region_law (first
   |(refine Lg_ Cg_ Da_ At_ HDd.out.own y hb3 hb4 hbase Hcs.out (by rfl) _ _ (by rfl) (by rfl) (by rfl) ?_;intro v3 w3 o3 g3 l3;obtain⟨a3,c3,rfl⟩:=o3.shape;obtain⟨b3,D3⟩:=HDd.out.app o3 g3 l3;have ac3:=b3.cell;have af3:=b3.free))
  all_goals
   have HD3:=hh_ D3;clear D3 ac3 af3 b3 l3 o3 g3 axd axd2 ac hbx HDd c0 c1 E1
   have HOk2:=hh_ (show EvOk ⟨.slice a3 (L++[y]).length c3,t,r6,L++[y]⟩ from⟨HOk.out.time,HOk.out.weight,by show(L++[y]).length≤3;simp;omega,fun u hu=>by
    rcases ma_ hu with h|h
    ·exact HOk.out.size u h
    ·obtain rfl:=ms_ h;have:=Hy.out;omega⟩)
   dsimp only at HD3
   have hll :(L++[y]).length=L.length+1:=by simp
   rw[hll] at HD3 HOk2;clear hll
   (try rw[List.length_append,List.length_singleton])
   go_upto_region 17 with fail
   generalize w3.setCell ⟨b5,0,none⟩ (.slice a3 (L.length+1) c3)=wz at *;have HBx:=(HD3).out.box.cell;have HRs:=(HD3).out.res.cell;have HRf:=(HD3).out.res.free
   go_wp2_with fail
   have hgw:World.grownBy wz (((wz.setCell ⟨b4,0,none⟩ (.slice a3 (L.length+1) c3)).setCell ⟨b4,1,none⟩ (.int .i64 t)).setCell ⟨b4,2,none⟩ (.int .u64 r6)) (some b4):=Ac_ (Ac_ (Ac_ (Ab_ _ _) _ _) _ _) _ _;have rc:=((((HD3).out.res.set_ 0 (.slice a3 (L.length+1) c3) rfl).set_ 1 (.int .i64 t) rfl).set_ 2 (.int .u64 r6) rfl).cell;refine bodyPost_ret (v:=.agg #[(.slice a3 (L.length+1) c3),(.int .i64 t),(.int .u64 r6)]) (by simp[results,Tryz.results114,go_sem,rc]) rfl ?_;exact(HD3).out.fin HOk2.out hgw
 by_cases h2:r=2
 ·subst h2
  clear h0 h1
  have hL0:0<L.length:=by omega
  obtain⟨gv,cv,hv,-,hgv,-,hcx,hfz⟩:=E1.out.own.at_ At_ (i:=0) hL0
  obtain⟨rfl,-,rfl⟩:a5=some ⟨gv,0,none⟩∧L.length=L.length∧c5=cv:=by simpa only[Value.slice.injEq] using hv
  have c0:=hcx 0 _ rfl;have c1:=hcx 1 _ rfl;rw[Nat.zero_mul,Nat.zero_add] at c0 c1
  have hp :(0:Int)<(L.length:Int):=by omega
  have hf0:=hfz 0;have hf1:=hfz 1;have bx:=E1.out.box.cell;clear hv hcx
  go_upto_region 17 with fail
  have E2:=hh_ (E1.out.tag rfl hL0 (j:=0) (by omega) (.string ⟨#[75]⟩) ⟨⟨#[75]⟩,L[0].value⟩ rfl)
  have HOk2:=hh_ (show EvOk ⟨.slice (some ⟨gv,0,none⟩) L.length c5,t,r6,L.set 0 ⟨⟨#[75]⟩,L[0].value⟩⟩ from⟨HOk.out.time,HOk.out.weight,by show(L.set 0 _).length≤3;rw[List.length_set];omega,fun u hu=>by
   rcases List.mem_or_eq_of_mem_set hu with h|h
   ·exact HOk.out.size u h
   ·subst h;exact⟨by simp[ByteArray.size],(HOk.out.size _ (mg_ hL0)).2⟩⟩)
  clear bx c0 c1 hf0 hf1 hfz E1;generalize w8.setCell ⟨gv,0,none⟩ (.string ⟨#[75]⟩)=wz at *;have HBx:=(E2).out.box.cell;have HRs:=(E2).out.res.cell;have HRf:=(E2).out.res.free
  go_wp2_with fail
  have hgw:World.grownBy wz (((wz.setCell ⟨b4,0,none⟩ (.slice (some ⟨gv,0,none⟩) L.length c5)).setCell ⟨b4,1,none⟩ (.int .i64 t)).setCell ⟨b4,2,none⟩ (.int .u64 r6)) (some b4):=Ac_ (Ac_ (Ac_ (Ab_ _ _) _ _) _ _) _ _;have rc:=((((E2).out.res.set_ 0 (.slice (some ⟨gv,0,none⟩) L.length c5) rfl).set_ 1 (.int .i64 t) rfl).set_ 2 (.int .u64 r6) rfl).cell;refine bodyPost_ret (v:=.agg #[(.slice (some ⟨gv,0,none⟩) L.length c5),(.int .i64 t),(.int .u64 r6)]) (by simp[results,Tryz.results114,go_sem,rc]) rfl ?_;exact(E2).out.fin HOk2.out hgw
 by_cases h3:r=3
 ·subst h3
  clear h0 h1 h2;have bx:=E1.out.box.cell;have bf_:=E1.out.box.free
  go_upto_region 17 with fail
  have E2:=hh_ (E1.out.set ⟨.slice a5 L.length c5,t,0,L⟩ 2 (.int .u64 0) rfl E1.out.own E1.out.ne);have HOk2:=hh_ (show EvOk ⟨.slice a5 L.length c5,t,0,L⟩ from⟨HOk.out.time,(show W64 (0:Int) from Z0_ (by omega) (by omega)),HOk.out.few,HOk.out.size⟩);clear bx bf_ E1;generalize w8.setCell ⟨b5,2,none⟩ (.int .u64 0)=wz at *;have HBx:=(E2).out.box.cell;have HRs:=(E2).out.res.cell;have HRf:=(E2).out.res.free
  go_wp2_with fail
  have hgw:World.grownBy wz (((wz.setCell ⟨b4,0,none⟩ (.slice a5 L.length c5)).setCell ⟨b4,1,none⟩ (.int .i64 t)).setCell ⟨b4,2,none⟩ (.int .u64 0)) (some b4):=Ac_ (Ac_ (Ac_ (Ab_ _ _) _ _) _ _) _ _;have rc:=((((E2).out.res.set_ 0 (.slice a5 L.length c5) rfl).set_ 1 (.int .i64 t) rfl).set_ 2 (.int .u64 0) rfl).cell;refine bodyPost_ret (v:=.agg #[(.slice a5 L.length c5),(.int .i64 t),(.int .u64 0)]) (by simp[results,Tryz.results114,go_sem,rc]) rfl ?_;exact(E2).out.fin HOk2.out hgw
 by_cases h4:r=4
 ·subst h4
  clear h0 h1 h2 h3;have bx:=E1.out.box.cell;have bf_:=E1.out.box.free
  go_upto_region 17 with fail
  have E2:=hh_ (E1.out.set ⟨.slice none 0 0,t,r6,[]⟩ 0 (.slice none 0 0) rfl (Own.nil _ _ _ _ _) (fun k hk=>by simp[Value.ownBlock] at hk));have HOk2:=hh_ (show EvOk ⟨.slice none 0 0,t,r6,[]⟩ from⟨HOk.out.time,HOk.out.weight,by simp,by simp⟩);clear bx bf_ E1;generalize w8.setCell ⟨b5,0,none⟩ (.slice none 0 0)=wz at *;have HBx:=(E2).out.box.cell;have HRs:=(E2).out.res.cell;have HRf:=(E2).out.res.free
  go_wp2_with fail
  have hgw:World.grownBy wz (((wz.setCell ⟨b4,0,none⟩ (.slice none 0 0)).setCell ⟨b4,1,none⟩ (.int .i64 t)).setCell ⟨b4,2,none⟩ (.int .u64 r6)) (some b4):=Ac_ (Ac_ (Ac_ (Ab_ _ _) _ _) _ _) _ _;have rc:=((((E2).out.res.set_ 0 (.slice none 0 0) rfl).set_ 1 (.int .i64 t) rfl).set_ 2 (.int .u64 r6) rfl).cell;refine bodyPost_ret (v:=.agg #[(.slice none 0 0),(.int .i64 t),(.int .u64 r6)]) (by simp[results,Tryz.results114,go_sem,rc]) rfl ?_;exact(E2).out.fin HOk2.out hgw
 by_cases h5:r=5
 ·subst h5
  clear h0 h1 h2 h3 h4
  have hL0:0<L.length:=by omega
  obtain⟨gv,cv,hv,-,hgv,-,hcx,hfz⟩:=E1.out.own.at_ At_ (i:=0) hL0
  obtain⟨rfl,-,rfl⟩:a5=some ⟨gv,0,none⟩∧L.length=L.length∧c5=cv:=by simpa only[Value.slice.injEq] using hv
  have c0:=hcx 0 _ rfl;have c1:=hcx 1 _ rfl;rw[Nat.zero_mul,Nat.zero_add] at c0 c1
  have hp :(0:Int)<(L.length:Int):=by omega
  have hf0:=hfz 0;have hf1:=hfz 1;have bx:=E1.out.box.cell;clear hv hcx
  go_upto_region 17 with fail
  have E2:=hh_ (E1.out.tag rfl hL0 (j:=1) (by omega) (.string ⟨#[48,49,50,51,52,53,54,55,56,57,48,49,50,51,52,53,54,55,56,57,48,49,50,51,52,53,54,55,56,57,48,49,50,51,52,53,54,55,56,57,48,49,50,51,52,53,54,55,56,57,48,49,50,51,52,53,54,55,56,57,48,49,50,51,52,53,54,55,56,57]⟩) ⟨L[0].name,⟨#[48,49,50,51,52,53,54,55,56,57,48,49,50,51,52,53,54,55,56,57,48,49,50,51,52,53,54,55,56,57,48,49,50,51,52,53,54,55,56,57,48,49,50,51,52,53,54,55,56,57,48,49,50,51,52,53,54,55,56,57,48,49,50,51,52,53,54,55,56,57]⟩⟩ rfl)
  have HOk2:=hh_ (show EvOk ⟨.slice (some ⟨gv,0,none⟩) L.length c5,t,r6,L.set 0 ⟨L[0].name,⟨#[48,49,50,51,52,53,54,55,56,57,48,49,50,51,52,53,54,55,56,57,48,49,50,51,52,53,54,55,56,57,48,49,50,51,52,53,54,55,56,57,48,49,50,51,52,53,54,55,56,57,48,49,50,51,52,53,54,55,56,57,48,49,50,51,52,53,54,55,56,57]⟩⟩⟩ from⟨HOk.out.time,HOk.out.weight,by show(L.set 0 _).length≤3;rw[List.length_set];omega,fun u hu=>by
   rcases List.mem_or_eq_of_mem_set hu with h|h
   ·exact HOk.out.size u h
   ·subst h;exact⟨(HOk.out.size _ (mg_ hL0)).1,by show(70:Nat)≤70;omega⟩⟩)
  clear bx c0 c1 hf0 hf1 hfz E1;generalize w8.setCell ⟨gv,1,none⟩ (.string ⟨#[48,49,50,51,52,53,54,55,56,57,48,49,50,51,52,53,54,55,56,57,48,49,50,51,52,53,54,55,56,57,48,49,50,51,52,53,54,55,56,57,48,49,50,51,52,53,54,55,56,57,48,49,50,51,52,53,54,55,56,57,48,49,50,51,52,53,54,55,56,57]⟩)=wz at *;have HBx:=(E2).out.box.cell;have HRs:=(E2).out.res.cell;have HRf:=(E2).out.res.free
  go_wp2_with fail
  have hgw:World.grownBy wz (((wz.setCell ⟨b4,0,none⟩ (.slice (some ⟨gv,0,none⟩) L.length c5)).setCell ⟨b4,1,none⟩ (.int .i64 t)).setCell ⟨b4,2,none⟩ (.int .u64 r6)) (some b4):=Ac_ (Ac_ (Ac_ (Ab_ _ _) _ _) _ _) _ _;have rc:=((((E2).out.res.set_ 0 (.slice (some ⟨gv,0,none⟩) L.length c5) rfl).set_ 1 (.int .i64 t) rfl).set_ 2 (.int .u64 r6) rfl).cell;refine bodyPost_ret (v:=.agg #[(.slice (some ⟨gv,0,none⟩) L.length c5),(.int .i64 t),(.int .u64 r6)]) (by simp[results,Tryz.results114,go_sem,rc]) rfl ?_;exact(E2).out.fin HOk2.out hgw
 by_cases h6:r=6
 ·subst h6
  clear h0 h1 h2 h3 h4 h5
  have HN:=hh_ fun m h0 h1=>A1_ b m w8 E1.out.deck h0 h1
  have bx:=E1.out.box.cell
  go_wp2_with fail
  refine(HN.out _ (by omega) (by omega)).mono ?_;rintro e w9 ⟨q,rfl,hq0,hq1,d9,g9⟩;have D9:=hh_ (E1.out.next d9 g9);have hwq:IntKind.u64.wrap q=q:=IntWalk.u64_in _ (by omega);have hwq2:IntKind.u64.wrap (9223372036854775808+q)=9223372036854775808+q:=IntWalk.u64_in _ (by omega);have by_:=D9.out.box.cell;have bf_:=D9.out.box.free
  go_upto_region 17 with fail
  have E2:=hh_ (D9.out.set ⟨.slice a5 L.length c5,t,9223372036854775808+q,L⟩ 2 (.int .u64 (9223372036854775808+q)) rfl D9.out.own D9.out.ne);have HOk2:=hh_ (show EvOk ⟨.slice a5 L.length c5,t,9223372036854775808+q,L⟩ from⟨HOk.out.time,(show W64 (9223372036854775808+q) from Z0_ (by omega) (by omega)),HOk.out.few,HOk.out.size⟩);clear bx by_ bf_ D9 d9 g9 E1 hwq hwq2;generalize w9.setCell ⟨b5,2,none⟩ (.int .u64 (9223372036854775808+q))=wz at *;have HBx:=(E2).out.box.cell;have HRs:=(E2).out.res.cell;have HRf:=(E2).out.res.free
  go_wp2_with fail
  have hgw:World.grownBy wz (((wz.setCell ⟨b4,0,none⟩ (.slice a5 L.length c5)).setCell ⟨b4,1,none⟩ (.int .i64 t)).setCell ⟨b4,2,none⟩ (.int .u64 (9223372036854775808+q))) (some b4):=Ac_ (Ac_ (Ac_ (Ab_ _ _) _ _) _ _) _ _;have rc:=((((E2).out.res.set_ 0 (.slice a5 L.length c5) rfl).set_ 1 (.int .i64 t) rfl).set_ 2 (.int .u64 (9223372036854775808+q)) rfl).cell;refine bodyPost_ret (v:=.agg #[(.slice a5 L.length c5),(.int .i64 t),(.int .u64 (9223372036854775808+q))]) (by simp[results,Tryz.results114,go_sem,rc]) rfl ?_;exact(E2).out.fin HOk2.out hgw
 have f0 :((r:Int)==0)=false:=by simpa using h0
 have f1 :((r:Int)==1)=false:=by simpa using h1
 have f2 :((r:Int)==2)=false:=by simpa using h2
 have f3 :((r:Int)==3)=false:=by simpa using h3
 have f4 :((r:Int)==4)=false:=by simpa using h4
 have f5 :((r:Int)==5)=false:=by simpa using h5
 have f6 :((r:Int)==6)=false:=by simpa using h6
 clear h0 h1 h2 h3 h4 h5 h6;have HBx:=(E1).out.box.cell;have HRs:=(E1).out.res.cell;have HRf:=(E1).out.res.free
 go_wp2_with fail
 have hgw:World.grownBy w8 (((w8.setCell ⟨b4,0,none⟩ (.slice a5 L.length c5)).setCell ⟨b4,1,none⟩ (.int .i64 t)).setCell ⟨b4,2,none⟩ (.int .u64 r6)) (some b4):=Ac_ (Ac_ (Ac_ (Ab_ _ _) _ _) _ _) _ _;have rc:=((((E1).out.res.set_ 0 (.slice a5 L.length c5) rfl).set_ 1 (.int .i64 t) rfl).set_ 2 (.int .u64 r6) rfl).cell;refine bodyPost_ret (v:=.agg #[(.slice a5 L.length c5),(.int .i64 t),(.int .u64 r6)]) (by simp[results,Tryz.results114,go_sem,rc]) rfl ?_;exact(E1).out.fin HOk.out hgw
end
section
open Go.RowKit Go.Sort
structure ItR where
 (key:ByteArray) (time weight:Int)
def itF (x:ItR):List Value:=[.string x.key,.int .i64 x.time,.int .u64 x.weight]
theorem Hq_ (x:ItR) :(itF x).length=3:=rfl
theorem ec_:OneF itF:=by intro x u hu;simp[itF] at hu;rcases hu with rfl|rfl|rfl <;> rfl
theorem Zk_:Elt 33 41 (.agg #[.string ⟨#[]⟩,.int .i64 0,.int .u64 0]) 3 32:=⟨Tryz.underlying33,by kernel_rfl,rfl,by decide⟩
structure ItW (x:ItR):Prop where
 time:-9223372036854775808≤x.time∧x.time≤9223372036854775807
 weight:W64 x.weight
 key:x.key.size≤9223372036854775807
end
section
open Go.RowKit
def cok (c:Cfg):Bool:=decide (1≤c.Length∧c.Length≤1048576∧0≤c.Lateness∧c.Lateness≤1048576∧1≤c.Windows∧c.Windows≤8)
def tok (n:Int):Bool:=decide (0≤n∧n≤1099511627776)
def Cl_ (c:Cfg):Int:=if cok c then 0 else 11
def winV (c:Cfg) (t:Int):Int:=if cok c&&tok t then t/c.Length else 0
def lowV (c:Cfg) (m:Int):Int:=if cok c&&tok m then max (m-c.Lateness) 0/c.Length else 0
def verV (c:Cfg) (m t:Int):Int:=if cok c&&tok m&&tok t then (if winV c t<lowV c m then 3 else if lowV c m+c.Windows≤winV c t then 4 else 0) else 0
theorem K1_ {c:Cfg} (h :(((((1≤c.Length∧c.Length≤1048576)∧0≤c.Lateness)∧c.Lateness≤1048576)∧1≤c.Windows)∧c.Windows≤8)):Cl_ c=0:=by
 unfold Cl_ cok;rw[if_pos];simp;omega
theorem K2_ {c:Cfg} (h:¬(((((1≤c.Length∧c.Length≤1048576)∧0≤c.Lateness)∧c.Lateness≤1048576)∧1≤c.Windows)∧c.Windows≤8)):Cl_ c=11:=by
 unfold Cl_ cok;rw[if_neg];simp;omega
theorem Vy_ (c:Cfg) (w:World):Calls Tryz.prog 104 #[c.val] w (RetInt (Cl_ c) w):=by
 go_enter Tryz.func104,Tryz.ntmps104
 go_wp2
 all_goals go_ret
 all_goals first |(have hx:=K1_ (c:=c) (by assumption);exact Ai_ hx (ga_ w _ _)) |(have hx:Cl_ c=11:=K2_ (by omega);exact Ai_ hx (ga_ w _ _))
theorem V0_ (c:Cfg) (w:World):Calls Tryz.prog 109 #[c.val] w (RetInt (Cl_ c) w):=by
 go_enter Tryz.func109,Tryz.ntmps109
 go_wp2
 all_goals go_ret
 all_goals first |(have hx:=K1_ (c:=c) (by assumption);exact Ai_ hx (ga_ w _ _)) |(have hx:Cl_ c=11:=K2_ (by omega);exact Ai_ hx (ga_ w _ _))
theorem Hv_ (c:Cfg) (n:Int) (w:World):Calls Tryz.prog 89 #[c.val,.int .i64 n] w (B4_ (cok c&&tok n) w):=by
 have key:∀r:Bool,(Cl_ c==0)=r→(∃b0 b1,decide (0≤n)=b0∧decide (n≤1099511627776)=b1∧(r&&b0&&b1) =(cok c&&tok n)) →
   Calls Tryz.prog 89 #[c.val,.int .i64 n] w (B4_ (cok c&&tok n) w):=by
  intro r hr ⟨b0,b1,d0,d1,hx⟩;have Hx:=hh_ hx;clear hx;cases r <;> cases b0 <;> cases b1
  all_goals
   go_enter Tryz.func89,Tryz.ntmps89
   go_wp2_with (first |(refine As_ rfl _ rfl c rfl ?_;intro w1 B1 G1 z1) |(refine Al_ rfl _ rfl _ rfl c (by assumption) ?_) |(go_at_call 109;refine(V0_ c _).mono ?_;rintro e w2 ⟨rfl,G2⟩))
   go_ret
   exact Ba_ Hx.out.symm (Aa_ (by assumption) (by assumption))
 refine key _ rfl ⟨_,_,rfl,rfl,?_⟩
 have e1 :(Cl_ c==0)=cok c:=by unfold Cl_;cases cok c <;> rfl
 rw[e1,tok,Bool.and_assoc,←Bool.decide_and]
theorem Rc_ (c:Cfg) (n:Int) (w:World):Calls Tryz.prog 50 #[c.val,.int .i64 n] w (RetInt (winV c n) w):=by
 cases hc :(cok c&&tok n)
 ·have hx:winV c n=0:=by simp[winV,hc]
  have Hx:=hh_ hx;clear hx
  go_enter Tryz.func50,Tryz.ntmps50
  go_wp2_with (first |(refine As_ rfl _ rfl c rfl ?_;intro w1 B1 G1 z1) |(refine Al_ rfl _ rfl _ rfl c (by assumption) ?_) |(go_at_call 89;refine(Hv_ c n _).mono ?_;rintro e w2 ⟨rfl,G2⟩))
  go_ret
  exact Ai_ Hx.out (Aa_ (by assumption) (by assumption))
 ·have hx:winV c n=n/c.Length:=by simp[winV,hc]
  have Hx:=hh_ hx
  have hl:1≤c.Length∧c.Length≤1048576:=by simp[cok,tok] at hc;omega
  have hn:0≤n∧n≤1099511627776:=by simp[cok,tok] at hc;omega
  clear hx;obtain⟨l0,l1⟩:=hl;obtain⟨n0,n1⟩:=hn
  go_enter Tryz.func50,Tryz.ntmps50
  go_wp2_with (first |(refine As_ rfl _ rfl c rfl ?_;intro w1 B1 G1 z1) |(refine Al_ rfl _ rfl _ rfl c (by assumption) ?_) |(go_at_call 89;refine(Hv_ c n _).mono ?_;rintro e w2 ⟨rfl,G2⟩;have hb2:=(BoxAt.same (by assumption) G2).cell))
  go_ret
  exact Ai_ Hx.out (Aa_ (by assumption) (by assumption))
theorem Zl_ (w:World) (t:Int):RdL intF 1 (w.alloc (.cells #[.int .i64 t] 3)) (.slice (some ⟨w.heap.size,0,none⟩) 1 1) [t]:=
 OutAt.rd (w:=w.alloc (.cells (B8_ [t]) 3)) (out:=[t]) (heap_alloc_new w _) (by simp)
theorem Jt_ {l:List Int} {k:Nat} (p:Int→Bool) (h:k<l.length) :(l.take (k+1)).all p =((l.take k).all p&&p l[k]):=by
 rw[tg_ h,List.all_append,List.all_cons,List.all_nil,Bool.and_true]
theorem Sw_ (c:Cfg) (v:Value) (l:List Int) (w:World) (h:RdL intF 1 w v l):Calls Tryz.prog 69 #[c.val,v] w (B4_ (l.all tok&&cok c) w):=by
 obtain⟨a,cap,rfl⟩:=h.shape;have hm:=h.2.1;have H:=hh_ h;clear h
 have e1 :(Cl_ c==0)=cok c:=by unfold Cl_;cases cok c <;> rfl
 have E1:=hh_ e1;clear e1
 go_enter Tryz.func69,Tryz.ntmps69
 go_wp2_with (first |(refine As_ rfl _ rfl c rfl ?_;intro w1 B1 G1 z1))
 go_loopw [9] (fun s9 wr=>∃k:Nat,k≤l.length∧s9=.int .i64 k∧(l.take k).all tok=true∧w.grownBy wr none∧BoxAt wr w.heap.size c) (fun s9 _=>l.length-(RowKit.intOf s9).toNat)
 case atStart=>exact⟨0,Nat.zero_le _,rfl,by simp,G1,B1⟩
 case round=>
  obtain⟨k,hk,rfl,hall,G2,B2⟩:=hrel
  by_cases hlt:k<l.length
  ·obtain⟨g,off,cap',hv,hgl,hc⟩:=H.out.cell A6_ (by omega)
   cases hv
   have hcell:wr.cell? ⟨g,off+k,none⟩=some (.int .i64 l[k]):=by
    rw[(An_ G2).1 _ _ hgl (by simp)]
    have:=hc k l[k] (gq_ hlt) 0 _ rfl
    simpa using this
   have hat:=Jt_ tok hlt;obtain⟨x,hx⟩:∃x,x=l[k]:=⟨_,rfl⟩;rw[←hx] at hat hcell;have Hx:=hh_ hx;have Hat:=hh_ hat;have Hall:=hh_ hall;clear hat hc hall hx
   by_cases h0:x<0
   ·have hf :(l.all tok&&cok c)=false:=by
     have ht:tok x=false:=decide_eq_false fun h=>by omega
     have:l.all tok=false:=by rw[List.all_eq_false];exact⟨x,by rw[Hx.out];exact mg_ hlt,by simp[ht]⟩
     rw[this];rfl
    have Hf:=hh_ hf;clear hf
    go_wp2_with fail
    go_ret
    exact Ba_ Hf.out G2
   ·by_cases h1:1099511627776<x
    ·have hf :(l.all tok&&cok c)=false:=by
      have ht:tok x=false:=decide_eq_false fun h=>by omega
      have:l.all tok=false:=by rw[List.all_eq_false];exact⟨x,by rw[Hx.out];exact mg_ hlt,by simp[ht]⟩
      rw[this];rfl
     have Hf:=hh_ hf;have d0:decide (x<0)=false:=decide_eq_false h0;clear hf h0
     go_wp2_with fail
     go_ret
     exact Ba_ Hf.out G2
    ·have d0:decide (x<0)=false:=decide_eq_false h0
     have d1:decide (1099511627776<x)=false:=decide_eq_false h1;have ht:tok x=true:=decide_eq_true (by omega);have Ht:=hh_ ht;clear h0 h1 ht
     go_wp2_with fail
     exact⟨⟨k+1,by omega,by go_num,by rw[Hat.out,Hall.out,Ht.out];rfl,G2,B2⟩,by simp[RowKit.intOf];omega⟩
  ·have hl :(l.all tok&&cok c) =(Cl_ c==0):=by
    rw[E1.out]
    have:l.take k=l:=tk_ (by omega)
    rw[this] at hall;rw[hall];rfl
   have Hl:=hh_ hl;clear hl hall
   go_wp2_with (first |(refine Al_ rfl _ rfl _ rfl c (by assumption) ?_) |(go_at_call 104;refine(Vy_ c _).mono ?_;rintro e w3 ⟨rfl,G3⟩))
   go_ret
   exact Ba_ Hl.out (Aa_ G2 G3)
theorem Sn_ {c:Cfg} (h:cok c=true) :(1≤c.Length∧c.Length≤1048576)∧(0≤c.Lateness∧c.Lateness≤1048576)∧(1≤c.Windows∧c.Windows≤8):=by
 simp only[cok,decide_eq_true_eq] at h;omega
theorem tokV {n:Int} (h:tok n=true):0≤n∧n≤1099511627776:=by
 simpa [tok] using h
theorem c1_ (c:Cfg) (n:Int) (w:World):Calls Tryz.prog 32 #[c.val,.int .i64 n] w (RetInt (winV c n) w):=by
 cases hc :(tok n&&cok c)
 ·have hx:winV c n=0:=by unfold winV;rw[Bool.and_comm,hc];rfl
  have Hx:=hh_ hx
  have hv :(([n]:List Int).all tok&&cok c)=false:=by simpa using hc
  have Hv:=hh_ hv;clear hx hc hv
  go_enter Tryz.func32,Tryz.ntmps32
  go_wp2_with (first |(refine As_ rfl _ rfl c rfl ?_;intro w1 B1 G1 z1) |(refine Al_ rfl _ rfl _ rfl c (by assumption) ?_) |(go_at_call 69;refine(Sw_ c _ [n] _ (Zl_ _ n)).mono ?_;rw[Hv.out];rintro e w2 ⟨rfl,G2⟩))
  go_ret
  exact Ai_ Hx.out (Aa_ G1 (Aa_ (ga_ _ _ _) G2))
 ·have hx:winV c n=n/c.Length:=by unfold winV;rw[Bool.and_comm,hc];rfl
  have Hx:=hh_ hx
  have hv :(([n]:List Int).all tok&&cok c)=true:=by simpa using hc
  have Hv:=hh_ hv;simp only[Bool.and_eq_true] at hc;obtain⟨⟨l0,l1⟩,_⟩:=Sn_ hc.2;obtain⟨n0,n1⟩:=tokV hc.1;clear hx hc hv
  go_enter Tryz.func32,Tryz.ntmps32
  go_wp2_with (first |(refine As_ rfl _ rfl c rfl ?_;intro w1 B1 G1 z1) |(refine Al_ rfl _ rfl _ rfl c (by assumption) ?_) |(go_at_call 69;refine(Sw_ c _ [n] _ (Zl_ _ n)).mono ?_;rw[Hv.out];rintro e w2 ⟨rfl,G2⟩;have hb2:=((B1.same (ga_ _ _ _)).same G2).cell))
  go_ret
  exact Ai_ Hx.out (Aa_ G1 (Aa_ (ga_ _ _ _) G2))
theorem Zr_ (c:Cfg) (n:Int) (w:World):Calls Tryz.prog 54 #[c.val,.int .i64 n] w (RetInt (lowV c n) w):=by
 cases hc :(cok c&&tok n)
 ·have hx:lowV c n=0:=by unfold lowV;rw[hc];rfl
  have Hx:=hh_ hx;have Hc:=hh_ hc;clear hx hc
  go_enter Tryz.func54,Tryz.ntmps54
  go_wp2_with (first |(refine As_ rfl _ rfl c rfl ?_;intro w1 B1 G1 z1) |(refine Al_ rfl _ rfl _ rfl c (by assumption) ?_) |(go_at_call 89;refine(Hv_ c n _).mono ?_;rw[Hc.out];rintro e w2 ⟨rfl,G2⟩))
  go_ret
  exact Ai_ Hx.out (Aa_ G1 G2)
 ·have hx:lowV c n=max (n-c.Lateness) 0/c.Length:=by unfold lowV;rw[hc];rfl
  have Hc:=hh_ hc;simp only[Bool.and_eq_true] at hc;obtain⟨⟨l0,l1⟩,⟨l2,l3⟩,_⟩:=Sn_ hc.1;obtain⟨n0,n1⟩:=tokV hc.2
  by_cases hl:n<c.Lateness
  ·have hx2:lowV c n=0:=by rw[hx,Int.max_eq_right (by omega)];simp
   have Hx:=hh_ hx2;have d1:decide (n<c.Lateness)=true:=decide_eq_true hl;clear hx hx2 hc
   go_enter Tryz.func54,Tryz.ntmps54
   go_wp2_with (first |(refine As_ rfl _ rfl c rfl ?_;intro w1 B1 G1 z1) |(refine Al_ rfl _ rfl _ rfl c (by assumption) ?_) |(go_at_call 89;refine(Hv_ c n _).mono ?_;rw[Hc.out];rintro e w2 ⟨rfl,G2⟩;have hb2:=(B1.same G2).cell))
   go_ret
   exact Ai_ Hx.out (Aa_ G1 G2)
  ·have hx2:lowV c n =(n-c.Lateness)/c.Length:=by rw[hx,Int.max_eq_left (by omega)]
   have Hx:=hh_ hx2;have d1:decide (n<c.Lateness)=false:=decide_eq_false hl
   have hl':c.Lateness≤n:=by omega
   clear hx hx2 hc hl
   go_enter Tryz.func54,Tryz.ntmps54
   go_wp2_with (first |(refine As_ rfl _ rfl c rfl ?_;intro w1 B1 G1 z1) |(refine Al_ rfl _ rfl _ rfl c (by assumption) ?_) |(go_at_call 89;refine(Hv_ c n _).mono ?_;rw[Hc.out];rintro e w2 ⟨rfl,G2⟩;have hb2:=(B1.same G2).cell))
   go_ret
   exact Ai_ Hx.out (Aa_ G1 G2)
theorem b5_ (c:Cfg) (n:Int):0≤lowV c n∧lowV c n≤1099511627776:=by
 unfold lowV
 split
 ·rename_i h
  simp only[Bool.and_eq_true] at h;obtain⟨⟨l0,l1⟩,⟨l2,l3⟩,_⟩:=Sn_ h.1;obtain⟨n0,n1⟩:=tokV h.2;have h1:max (n-c.Lateness) 0/c.Length≤max (n-c.Lateness) 0:=Int.ediv_le_self _ (by omega);exact⟨Int.ediv_nonneg (by omega) (by omega),by omega⟩
 ·omega
theorem Mh_ (c:Cfg) (n:Int):0≤winV c n∧winV c n≤1099511627776:=by
 unfold winV
 split
 ·rename_i h
  simp only[Bool.and_eq_true] at h;obtain⟨⟨l0,l1⟩,_⟩:=Sn_ h.1;obtain⟨n0,n1⟩:=tokV h.2;have h1:n/c.Length≤n:=Int.ediv_le_self _ n0;exact⟨Int.ediv_nonneg n0 (by omega),by omega⟩
 ·omega
attribute [local go_sem ↓] Ag_
attribute [local go_sem] Ah_
theorem Uv_ {c:Cfg} {m t:Int} (h :(cok c&&tok m&&tok t)=false):verV c m t=0:=by unfold verV;rw[h];rfl
theorem I7_ {c:Cfg} {m t:Int} (h :(cok c&&tok m&&tok t)=true):verV c m t=if winV c t<lowV c m then 3 else if lowV c m+c.Windows≤winV c t then 4 else 0:=by unfold verV;rw[h];rfl
theorem Q7_ {c:Cfg} {m t:Int} (h :(cok c&&tok m&&tok t)=true) (h1:winV c t<lowV c m):verV c m t=3:=by rw[I7_ h,if_pos h1]
theorem P3_ {c:Cfg} {m t:Int} (h :(cok c&&tok m&&tok t)=true) (h1:¬winV c t<lowV c m) (h2:lowV c m+c.Windows≤winV c t):verV c m t=4:=by rw[I7_ h,if_neg h1,if_pos h2]
theorem Z5_ {c:Cfg} {m t:Int} (h :(cok c&&tok m&&tok t)=true) (h1:¬winV c t<lowV c m) (h2:¬lowV c m+c.Windows≤winV c t):verV c m t=0:=by rw[I7_ h,if_neg h1,if_neg h2]
theorem ea_ (c:Cfg) (m n:Int) (w:World):Calls Tryz.prog 85 #[c.val,.int .i64 m,.int .i64 n] w (RetInt (verV c m n) w):=by
 cases hc :(cok c&&tok n)
 ·have hx:verV c m n=0:=Uv_ (by cases h1:cok c <;> cases h2:tok n <;> simp_all)
  have Hx:=hh_ hx;have Hc:=hh_ hc;clear hx hc
  go_enter Tryz.func85,Tryz.ntmps85
  go_wp2_with (first |(refine As_ rfl _ rfl c rfl ?_;intro w1 B1 G1 z1) |(refine Al_ rfl _ rfl _ rfl c (by assumption) ?_) |(go_at_call 89;refine(Hv_ c n _).mono ?_;rw[Hc.out];rintro e w2 ⟨rfl,G2⟩))
  go_ret
  exact Ai_ Hx.out (Aa_ G1 G2)
 ·cases hd :(cok c&&tok m)
  ·have hx:verV c m n=0:=Uv_ (by rw[hd];rfl)
   have Hx:=hh_ hx;have Hc:=hh_ hc;have Hd:=hh_ hd;clear hx hc hd
   go_enter Tryz.func85,Tryz.ntmps85
   go_wp2_with (first |(refine As_ rfl _ rfl c rfl ?_;intro w1 B1 G1 z1) |(refine Al_ rfl _ rfl _ rfl c (by assumption) ?_) |(refine Bc_ rfl _ rfl _ rfl c (by assumption) ?_) |(go_at_call_of 89 (Value.int IntKind.i64 n);refine(Hv_ c n _).mono ?_;rw[Hc.out];rintro e w2 ⟨rfl,G2⟩;have B2:=B1.same G2;clear B1) |(go_at_call_of 89 (Value.int IntKind.i64 m);refine(Hv_ c m _).mono ?_;rw[Hd.out];rintro e w3 ⟨rfl,G3⟩))
   go_ret
   exact Ai_ Hx.out (Aa_ G1 (Aa_ G2 G3))
  ·have hcc:cok c=true:=by simp only[Bool.and_eq_true] at hc;exact hc.1
   have hall :(cok c&&tok m&&tok n)=true:=by
    simp only[Bool.and_eq_true] at hc hd ⊢;exact⟨hd,hc.2⟩
   have Ha:=hh_ hall;have Hc:=hh_ hc;have Hd:=hh_ hd;obtain⟨b1,b2⟩:=b5_ c m;obtain⟨b3,b4⟩:=Mh_ c n;obtain⟨_,_,l0,l1⟩:=Sn_ hcc;clear hc hd hcc hall
   go_enter Tryz.func85,Tryz.ntmps85
   go_upto_region 3 with(first |(refine As_ rfl _ rfl c rfl ?_;intro w1 B1 G1 z1) |(refine Al_ rfl _ rfl _ rfl c (by assumption) ?_) |(refine Bc_ rfl _ rfl _ rfl c (by assumption) ?_) |(go_at_call_of 89 (Value.int IntKind.i64 n);refine(Hv_ c n _).mono ?_;rw[Hc.out];rintro e w2 ⟨rfl,G2⟩;have B2:=B1.same G2;clear B1) |(go_at_call_of 89 (Value.int IntKind.i64 m);refine(Hv_ c m _).mono ?_;rw[Hd.out];rintro e w3 ⟨rfl,G3⟩;have B3:=B2.same G3;clear B2;have G4:=Aa_ G1 (Aa_ G2 G3)))
   obtain⟨r1,r2,r3⟩:=B3.re
   have r4:=Bg_ (w:=w3) fun w' _=>Zr_ c m w'
   have r5:=Bg_ (w:=w3) fun w' _=>Rc_ c n w'
   refine Tail.wp_region_tail_grown 8 (by kernel_rfl) (by kernel_rfl) ?_;simp only[List.take,List.drop]
   repeat(go_big_quiet_step (first |(with_reducible exact r4 _ _) |(with_reducible exact r5 _ _)))
   refine wpQuiet_nil ?_;rintro _ ⟨⟨d5,os5⟩,rfl⟩;have B5:=(B3.same (Az_ w3 d5 os5)).cell;have G5:=Aa_ G4 (Az_ w3 d5 os5);clear r1 r2 r3 r4 r5;generalize Go.Sort.grow (redrawn w3 d5) os5=w5 at *
   by_cases h1:winV c n<lowV c m
   ·have Hy:=hh_ (Q7_ Ha.out h1)
    go_wp2_with fail
    go_ret
    exact Ai_ Hy.out G5
   ·have d1:decide (winV c n<lowV c m)=false:=decide_eq_false h1
    by_cases h2:lowV c m+c.Windows≤winV c n
    ·have Hy:=hh_ (P3_ Ha.out h1 h2)
     clear h1
     go_wp2_with fail
     go_ret
     exact Ai_ Hy.out G5
    ·have Hy:=hh_ (Z5_ Ha.out h1 h2)
     have d2:decide (lowV c m+c.Windows≤winV c n)=false:=decide_eq_false h2;clear h2 h1
     go_wp2_with fail
     go_ret
     exact Ai_ Hy.out G5
end
section
open Go.RowKit Go.Sort
def inWin (c:Cfg) (win:Int) (x:ItR):Bool:=decide (0≤x.time)&&decide (x.time≤1099511627776)&&decide (winV c x.time=win)
def cntS (c:Cfg) (win:Int) (L:List KW) (x:ItR):List KW:=if inWin c win x=true then ctPut L x.key.data.toList x.weight else L
def cntL (c:Cfg) (win:Int) (l:List ItR):List KW:=l.foldl (cntS c win) []
theorem G5_ (c:Cfg) (win:Int) (l:List ItR) (x:ItR):cntL c win (l++[x])=cntS c win (cntL c win l) x:=by simp[cntL]
theorem X1_ {c:Cfg} {win:Int} {L:List KW} (h:AscB L) (x:ItR):AscB (cntS c win L x):=by
 unfold cntS;split
 ·exact O9_ h
 ·exact h
theorem G8_ (P:List KW→Prop) (c:Cfg) (win:Int) (l:List ItR) (h0:P []) (h:∀L x,x∈l→P L→P (cntS c win L x)):P (cntL c win l):=by
 have key:∀k,k≤l.length→P (cntL c win (l.take k)):=by
  intro k
  induction k with
  | zero=>intro _;simpa [cntL] using h0
  | succ k ih=>
   intro hk;rw[tg_ (by omega),G5_];exact h _ _ (mg_ _) (ih (by omega))
 have:=key l.length (Nat.le_refl _)
 rwa [tk_ (Nat.le_refl _)] at this
theorem Op_ (c:Cfg) (win:Int) (l:List ItR):AscB (cntL c win l):=G8_ AscB c win l (by simp[AscB]) fun _ x _ h=>X1_ h x
theorem F9_ (c:Cfg) (win:Int) (l:List ItR) :(cntL c win l).length≤l.length:=by
 have key:∀k,k≤l.length→(cntL c win (l.take k)).length≤k:=by
  intro k
  induction k with
  | zero=>intro _;simp[cntL]
  | succ k ih=>
   intro hk;rw[tg_ (by omega),G5_];have h1:=ih (by omega);unfold cntS;split
   ·have:=Ke_ (w:=(l[k]'(by omega)).key.data.toList) (n:=(l[k]'(by omega)).weight) (L:=cntL c win (l.take k))
    omega
   ·omega
 have:=key l.length (Nat.le_refl _)
 rwa [tk_ (Nat.le_refl _)] at this
theorem Z2_ {w:Ar_}:∀{L:List KW},(∀p∈L,W64 p.2)→W64 (ctAt L w)
 | [],_=>by simp[ctAt,W64]
 | p::L,h=>by
  simp only[ctAt];split
  ·exact h p (by simp)
  ·exact Z2_ fun q hq=>h q (List.mem_cons_of_mem p hq)
theorem T2_ {w:Ar_} {n:Int} (hn:W64 n):∀{L:List KW},(∀p∈L,W64 p.2)→∀p∈ctPut L w n,W64 p.2
 | [],_=>by
  intro p hp;simp only[ctPut,List.mem_singleton] at hp;subst hp;exact B5_ (by simp[W64]) hn
 | q::L,h=>by
  intro p hp;simp only[ctPut] at hp;have hq:=h q (by simp)
  have hL:∀p∈L,W64 p.2:=fun p hp=>h p (List.mem_cons_of_mem q hp)
  split at hp
  ·rcases List.mem_cons.1 hp with rfl|hp
   ·exact hq
   ·exact T2_ hn hL p hp
  ·split at hp
   ·rcases List.mem_cons.1 hp with rfl|hp
    ·exact B5_ hq hn
    ·exact hL p hp
   ·rcases List.mem_cons.1 hp with rfl|hp
    ·exact B5_ (by simp[W64]) hn
    ·exact h p hp
theorem Zq_ (c:Cfg) (win:Int) (l:List ItR) (h:∀x∈l,ItW x):∀p∈cntL c win l,W64 p.2:=G8_ (fun L=>∀p∈L,W64 p.2) c win l (by simp) fun L x hx hL=>by
 unfold cntS;split
 ·exact T2_ (h x hx).weight hL
 ·exact hL
def kwLn (p:KW):Ln:=⟨⟨p.1.toArray⟩,p.2,p.2⟩
section
variable {L:List KW} {w:Ar_} {n:Int}
end
attribute [local go_sem ↓] Ag_
attribute [local go_sem] Ah_
end
section
open Go.RowKit Go.Maps
def agT (L:List KW):Int×Bool:=L.foldl (fun a p=>(satA a.1 p.2,a.2&&fitA a.1 p.2)) (0,true)
theorem O5_ (L:List KW) (p:KW):agT (L++[p]) =(satA (agT L).1 p.2,(agT L).2&&fitA (agT L).1 p.2):=by simp[agT]
theorem cz_ {L:List KW} (h:∀p∈L,W64 p.2):W64 (agT L).1:=by
 have key:∀k,k≤L.length→W64 (agT (L.take k)).1:=by
  intro k
  induction k with
  | zero=>intro _;simp[agT,W64]
  | succ k ih=>
   intro hk;rw[tg_ (by omega),O5_];exact B5_ (ih (by omega)) (h _ (mg_ _))
 have:=key L.length (Nat.le_refl _)
 rwa [tk_ (Nat.le_refl _)] at this
def Fe_ (L:List KW) (w:Ar_):List KW:=L.filter fun p=>!decide (p.1=w)
theorem Ws_ {L:List KW} {w:Ar_} (h:AscB L):AscB (Fe_ L w):=List.Pairwise.sublist List.filter_sublist h
theorem Le_ {w v:Ar_}:∀{L:List KW},ctHas (Fe_ L w) v =(!decide (v=w)&&ctHas L v)
 | []=>by simp[Fe_,ctHas]
 | p::L=>by
  have ih:=Le_ (w:=w) (v:=v) (L:=L);unfold Fe_ at ih ⊢
  by_cases h:p.1=w
  ·rw[List.filter_cons_of_neg (by simp[h]),ih]
   simp only[ctHas]
   by_cases e:v=w
   ·simp[e]
   ·have:¬p.1=v:=fun e2=>e (e2.symm.trans h)
    simp[this]
  ·rw[List.filter_cons_of_pos (by simp[h])]
   simp only[ctHas,ih]
   by_cases e:v=w
   ·have:¬p.1=v:=fun e2=>h (e2.trans e)
    simp[e,show ¬p.1=w from h]
   ·simp[e]
theorem I9_ {w v:Ar_}:∀{L:List KW},ctAt (Fe_ L w) v=if v=w then 0 else ctAt L v
 | []=>by simp[Fe_,ctAt]
 | p::L=>by
  have ih:=I9_ (w:=w) (v:=v) (L:=L);unfold Fe_ at ih ⊢
  by_cases h:p.1=w
  ·rw[List.filter_cons_of_neg (by simp[h]),ih]
   simp only[ctAt]
   by_cases e:v=w
   ·simp[e]
   ·have:¬p.1=v:=fun e2=>e (e2.symm.trans h)
    simp[e,this]
  ·rw[List.filter_cons_of_pos (by simp[h])]
   simp only[ctAt,ih]
   by_cases e:v=w
   ·have:¬p.1=v:=fun e2=>h (e2.trans e)
    simp[e,show ¬p.1=w from h]
   ·simp[e]
def delAll (L:List KW) (ks:List Ar_):List KW:=ks.foldl Fe_ L
theorem Na_ (L:List KW) (ks:List Ar_) (w:Ar_):delAll L (ks++[w])=Fe_ (delAll L ks) w:=by simp[delAll]
theorem P4_ {L:List KW} (h:AscB L):∀ks,AscB (delAll L ks):=by
 intro ks
 induction ks generalizing L with
 | nil=>exact h
 | cons k ks ih=>exact ih (Ws_ h)
theorem Md_ {L:List KW} {ks:List Ar_} {w:Ar_} (h:w∉ks):ctAt (delAll L ks) w=ctAt L w:=by
 induction ks generalizing L with
 | nil=>rfl
 | cons k ks ih=>
  have h1:w≠k:=fun e=>h (e▸List.mem_cons_self)
  show ctAt (delAll (Fe_ L k) ks) w=_
  rw[ih fun hm=>h (List.mem_cons_of_mem k hm),I9_,if_neg h1]
theorem J9_:∀{L:List KW} {w:Ar_},ctHas L w=true→(w,ctAt L w)∈L
 | [],w,h=>by simp[ctHas] at h
 | p::L,w,h=>by
  simp only[ctAt]
  by_cases e:p.1=w
  ·rw[if_pos e,←e];simp
  ·rw[if_neg e]
   simp only[ctHas,decide_eq_false e,Bool.false_or] at h;exact List.mem_cons_of_mem p (J9_ h)
theorem H6_ {p:KW} {v:Ar_}:∀{L:List KW},ctHas (L++[p]) v =(ctHas L v||decide (p.1=v))
 | []=>by simp[ctHas]
 | q::L=>by simp only[List.cons_append,ctHas,H6_ (L:=L),Bool.or_assoc]
theorem Kg_ {p:KW} {v:Ar_}:∀{L:List KW},ctHas L p.1=false→ctAt (L++[p]) v=if v=p.1 then p.2 else ctAt L v
 | [],_=>by
  simp only[List.nil_append,ctAt]
  by_cases e:v=p.1
  ·rw[if_pos e.symm,if_pos e]
  ·rw[if_neg (fun e2=>e e2.symm),if_neg e]
 | q::L,h=>by
  simp only[ctHas,Bool.or_eq_false_iff,decide_eq_false_iff_not] at h;simp only[List.cons_append,ctAt,Kg_ h.2]
  by_cases e:q.1=v
  ·rw[if_pos e,if_pos e,if_neg]
   exact fun e2=>h.1 (e.trans e2)
  ·rw[if_neg e,if_neg e]
section
variable {H:Type} {D:DataW H} {L:List KW}
theorem CntD.snoc (h:CntD D L) (hD:IsMap D) {p:KW} (hp:ctHas L p.1=false) (hk:WideAt.IsKeyLit (.string p.1)):CntD (D.put (.string p.1) (.lit (.int .u64 p.2))) (L++[p]):=by
 constructor
 ·intro k
  rw[H6_]
  by_cases e:k=p.1
  ·subst e;rw[has_put_same hD hk];simp
  ·rw[has_put_other (Fi_ e),h.has];simp[show ¬p.1=k from fun e2=>e e2.symm]
 ·intro k
  rw[Kg_ hp]
  by_cases e:k=p.1
  ·subst e;rw[atKey_put_same hD hk,if_pos rfl]
  ·rw[atKey_put_other (Fi_ e),h.at_,if_neg e]
theorem CntD.del (h:CntD D L) {w:Ar_}:CntD (D.del (.string w)) (Fe_ L w):=by
 constructor
 ·intro k
  rw[Le_]
  by_cases e:k=w
  ·subst e;rw[has_del_same];simp
  ·rw[has_del_other (Fi_ e),h.has];simp[e]
 ·intro k
  rw[I9_]
  by_cases e:k=w
  ·subst e;rw[atKey_del_same,if_pos rfl]
  ·rw[atKey_del_other (Fi_ e),h.at_,if_neg e]
end
theorem a6_ {L:List KW} {p:KW} (h:AscB (L++[p])):ctHas L p.1=false:=by
 cases hh:ctHas L p.1 with
 | false=>rfl
 | true=>
  have h1:=J9_ hh;have h2:=(List.pairwise_append.1 h).2.2 _ h1 p (by simp);exact absurd h2 (Ch_ _)
def lineOff (L:List KW) (x:Ln):Bool:=!(decide (x.lo≤ctAt L x.key.data.toList)&&decide (ctAt L x.key.data.toList≤x.hi))
def agE (c:Cfg) (r:Rep) (l:List ItR):Int:=if auditE c r≠0 then auditE c r
 else if (agT (cntL c r.win l)).2=false∨(agT (cntL c r.win l)).1≠r.tot then 13
 else if r.lines.any (lineOff (cntL c r.win l))=true then 13
 else if (delAll (cntL c r.win l) (keysN r.lines)).any (fun p=>decide (r.rest<p.2))=true then 13 else 0
end
section
open Go.RowKit Go.Sort
theorem Id_ {w:Ar_}:∀{L:List KW} {k:Nat} (hk:k<L.length),(∀i (hi:i<k),L[i].1≠w)→L[k].1=w→ctAt L w=L[k].2
 | [],k,hk,_,_=>by simp at hk
 | p::L,0,_,_,e=>by simp only[List.getElem_cons_zero] at e ⊢;simp[ctAt,e]
 | p::L,k+1,hk,h,e=>by
  have h0:=h 0 (by omega);simp only[List.getElem_cons_zero] at h0;simp only[ctAt,if_neg h0,List.getElem_cons_succ] at e ⊢;exact Id_ (by simpa using hk) (fun i hi=>by have:=h (i+1) (by omega);simpa using this) e
theorem Kv_ {w:Ar_}:∀{L:List KW},(∀i (hi:i<L.length),L[i].1≠w)→ctAt L w=0
 | [],_=>rfl
 | p::L,h=>by
  have h0:=h 0 (by simp);simp only[List.getElem_cons_zero] at h0;simp only[ctAt,if_neg h0]
  exact Kv_ fun i hi=>by have:=h (i+1) (by simpa using hi);simpa using this
theorem Ia_ {p:KW}:∀{ks:List Ar_} {L:List KW},p∈delAll L ks↔p∈L∧p.1∉ks
 | [],L=>by simp[delAll]
 | k::ks,L=>by
  show p∈delAll (Fe_ L k) ks↔_
  rw[Ia_]
  simp[Fe_,List.mem_filter,and_assoc]
def listedB (ls:List Ln) (b:ByteArray):Bool:=ls.any fun y=>decide (y.key=b)
theorem Me_ {ls:List Ln} {b:ByteArray}:listedB ls b=true↔b.data.toList∈keysN ls:=by
 unfold listedB keysN;rw[List.any_eq_true,List.mem_map]
 constructor
 ·rintro⟨y,hy,e⟩
  exact⟨y,hy,by rw[of_decide_eq_true e]⟩
 ·rintro⟨y,hy,e⟩
  exact⟨y,hy,decide_eq_true (by cases hh:y.key;cases b;rw[hh] at e;simp only[ByteArray.mk.injEq];exact Array.ext' e)⟩
theorem Lf_ {ls:List Ln} {k:Nat} (hk:k<ls.length) (b:ByteArray):listedB (ls.take (k+1)) b =(listedB (ls.take k) b||decide (ls[k].key=b)):=by
 unfold listedB;rw[tg_ hk,List.any_append]
 simp
theorem Ra_ (a b:ByteArray) :(a.toList==b.toList)=decide (a=b):=by
 rw[ByteArray.toList_eq,ByteArray.toList_eq,Bool.eq_iff_iff];simp only[beq_iff_eq,decide_eq_true_eq]
 constructor
 ·intro h
  cases a;cases b;simp only[ByteArray.mk.injEq];exact Array.ext' h
 ·rintro rfl;rfl
theorem er_ (v:Value) (L:List KW) (key:ByteArray) (w:World) (h:RdL lnF 3 w v (L.map kwLn)):Calls Tryz.prog 14 #[v,.string key] w (RetWord (ctAt L key.data.toList) w):=by
 obtain⟨a,cp,rfl⟩:=h.shape;have hm:=h.2.1;have H:=hh_ h;clear h;obtain⟨S,hS⟩:∃S,L.map kwLn=S:=⟨_,rfl⟩
 have HF:=hh_ (show ∀k (hk:k<S.length),(∀i (hi:i<S.length),i<k→S[i].key≠key)→S[k].key=key→ctAt L key.data.toList=S[k].lo from by
  subst hS;intro k hk h1 h2
  have hk':k<L.length:=by simpa using hk
  have hkk:∀i (hi:i<L.length),(L.map kwLn)[i]'(by simpa using hi)=kwLn L[i]:=fun i hi=>by simp
  rw[hkk k hk'] at h2 ⊢;rw[Id_ hk' (fun i hi e=>h1 i (by simp;omega) hi (by rw[hkk i (by omega)];unfold kwLn;rw[e])) (by rw[←h2];simp[kwLn])]
  rfl)
 have HN:=hh_ (show(∀i (hi:i<S.length),S[i].key≠key)→ctAt L key.data.toList=0 from by
  subst hS;intro h1
  exact Kv_ fun i hi e=>h1 i (by simpa using hi) (by rw[List.getElem_map];unfold kwLn;rw[e]))
 rw[hS] at H hm ⊢;clear hS;generalize ctAt L key.data.toList=V at *
 go_enter Tryz.func14,Tryz.ntmps14
 go_wp2_with fail
 go_loopw [9] (fun s9 wk=>∃k:Nat,k≤S.length∧s9=.int .i64 k∧(∀i (hi:i<S.length),i<k→S[i].key≠key)∧w.grownBy wk none) (fun s9 _=>S.length-(RowKit.intOf s9).toNat)
 case atStart=>exact⟨0,Nat.zero_le _,rfl,fun i _ hi=>absurd hi (Nat.not_lt_zero i),Ab_ _ _⟩
 case round=>
  obtain⟨k,hk,rfl,hall,hg⟩:=hrel
  by_cases hlt:k<S.length
  ·obtain⟨g,off,cap,hv,hgl,hc⟩:=(RdL.same H.out hg).at_ Av_ hlt
   cases hv;have c0:=hc 0 _ rfl;have c1:=hc 1 _ rfl;have c2:=hc 2 _ rfl;rw[Nat.add_zero] at c0
   have hklt :(k:Int)<(S.length:Int):=by omega
   have HY:=hh_ (show S[k].key=key→V=S[k].lo from HF.out k hlt hall)
   have HA:=hh_ (show S[k].key≠key→∀i (hi:i<S.length),i<k+1→S[i].key≠key from fun h i hi hik=>by
    rcases Nat.lt_or_ge i k with h1|h1
    ·exact hall i hi h1
    ·obtain rfl:i=k:=by omega
     exact h)
   clear hc hall;generalize S[k]=x at *;have hse:=Ra_ x.key key;have G2:=Ad_ hg (.cells #[.string x.key,.int .u64 x.lo,.int .u64 x.hi] 46);have A2:=(Blk.new wr #[.string x.key,.int .u64 x.lo,.int .u64 x.hi] 46).cell
   by_cases hke:x.key=key
   ·have HV:=hh_ (HY.out hke)
    rw[decide_eq_true hke] at hse;clear hke HY HA
    go_wp2_with fail
    go_ret
    exact Br_ HV.out G2
   ·have HV:=hh_ (HA.out hke)
    rw[decide_eq_false hke] at hse;clear hke HY HA
    go_wp2_with fail
    exact⟨⟨k+1,by omega,by go_num,HV.out,G2⟩,by simp[RowKit.intOf];omega⟩
  ·have HV:=hh_ (HN.out fun i hi=>hall i hi (by omega))
   clear hall
   go_wp2_with fail
   go_ret
   exact Br_ HV.out hg
end
section
open Go.RowKit Go.Maps Go.Sort Go.Shelf
def stF (s:Ar_):List Value:=[encStr s]
theorem b2_ (s:Ar_) :(stF s).length=1:=rfl
theorem X6_ (l:List Ar_):cellsOf stF l=l.map encStr:=by
 induction l with
 | nil=>rfl
 | cons x l ih=>simp only[cellsOf,List.flatMap_cons,List.map_cons] at *;rw[ih];rfl
theorem dy_ (m : Nat) : AnyZ.SortsIn Tryz.prog Tryz.sortedS_ren Fence.wide m :=
  ⟨fun blk off cap ss W hH hblk hsz => callsIn_wide.2 (Tryz.slices_Sort_string blk off cap ss W hH hblk hsz),
   fun p cap W => callsIn_wide.2 (Tryz.slices_Sort_string_none p cap W)⟩
theorem Hk_ {a b:World} (h:Below a.heap.size a b):a.grownBy b none:=⟨h.os,h.tape,h.output,h.size,fun i hi _=>h.block i hi⟩
theorem CntD.sorted {H:Type} {D:DataW H} {L:List KW} (h:CntD D L) (hA:AscB L) {P:Program} {k:TypeId} {R:Value→Option (DataW H×List MemPlace)} {w:World} {b n:Nat} (hown:w.ownsMap P k R b n D) (hk:P.underlying k=some .string) {ss:List Ar_} (hp:ss.Perm (strKeys D)) :
  ss.mergeSort (fun x y=>decide (x≤y))=L.map (·.1):=by
 have h2 :(L.map (·.1)).Perm (strKeys D):=Collected.perm (left:=fun _=>false) ⟨Ps_ hA,fun x=>by rw[h.has,Hr_];simp⟩ hown (string_keyed hk) hk (fun _=>rfl);have h3 :(ss.mergeSort (fun x y=>decide (x≤y))).Perm (L.map (·.1)):=(List.mergeSort_perm _ _).trans (hp.trans h2.symm);refine List.Perm.eq_of_pairwise (le:=fun x y:Ar_=>decide (x≤y)=true) (fun a b _ _ h1 h2=>?_) (List.pairwise_mergeSort (fun a b c h1 h2=>?_) (fun a b=>?_) ss) (Nb_ hA) h3
 ·simp only[decide_eq_true_eq] at h1 h2;exact List.le_antisymm h1 h2
 ·simp only[decide_eq_true_eq] at *;exact List.le_trans h1 h2
 ·simp only[Bool.or_eq_true,decide_eq_true_eq];exact List.le_total a b
theorem ax_ (mb:Nat) (W:World):Calls Tryz.prog 34 #[.map (some mb)] W fun e w'=>
  e=.returned (.func (.func 72) #[] #[.pointer (some ⟨W.heap.size,0,none⟩)])∧w'=W.alloc (.cells #[.map (some mb)] 79):=
 (callsIn_wide (n:=5)).1 (AnyZ.keys_in Tryz.keysS Fence.wide 5 trivial rfl (some mb) W)
theorem Sj_ (g mb n:Nat) (D:DataW Unit) (L:List KW) (w:World) (hg:g<w.heap.size) (hc:w.cell? ⟨g,0,none⟩=some (.map (some mb))) (hown:w.ownsMap Tryz.prog 9 (plainElem Tryz.prog 22) mb n D) (hD:CntD D L) (hA:AscB L) (hn:n≤1000000000) :
  Calls Tryz.prog 33 #[.func (.func 72) #[] #[.pointer (some ⟨g,0,none⟩)]] w (RetOwn stF 1 9 (L.map (·.1)) w):=by
 have HS:=hh_ fun(ss:List Ar_) (hp:ss.Perm (strKeys D))=>hD.sorted hA hown Tryz.underlying9 hp
 have hsz:=hown.size_le
 have hmax:Maps.size D≤maxLen:=by unfold maxLen;omega
 have hbytes:Maps.size D*16≤140737488355328:=by omega
 have hseq:SeqGives Fence.wide 2 Tryz.prog 72 #[.pointer (some ⟨g,0,none⟩)] encStr (fun ss=>ss.Perm (strKeys D)) (Maps.size D) w:=
  AnyZ.keys_gives (ρ:=Tryz.keysS_ren) { Tryz.keysS with } Fence.wide _ trivial rfl (by omega) g mb n D w hg hc hown
 have cS:=AnyZ.sorted_in Tryz.sortedS Fence.wide 5 trivial trivial trivial trivial rfl (by omega) (dy_ _) (enters_of Tryz.func71 (by kernel_rfl) rfl) 72 #[.pointer (some ⟨g,0,none⟩)] trivial (enters_of Tryz.func72 (by kernel_rfl) rfl) _ _ hmax hbytes _ hseq
 change CallsIn _ _ Tryz.prog 33 _ _ _ at cS
 refine((callsIn_wide (n:=5)).1 cS).mono ?_;rintro e w' ⟨v,ss,rfl,hS,hrow,hnil,hb⟩;have hss:=HS.out ss hS;rw[hss] at hrow
 have hl:ss.length =(L.map (·.1)).length:=by rw[←hss,List.length_mergeSort]
 rw[hl] at hrow;refine⟨v,rfl,?_,Hk_ hb⟩;unfold Own;rw[X6_];exact hrow
end
section
open Go.RowKit Go.Sort Go.Maps Go.WideMaps
theorem strKeyed:Keyed Tryz.prog 9:=string_keyed Tryz.underlying9
theorem zeroU (w:World) :(zeroValue 22).run Tryz.prog w=.ok (.int .u64 0) w:=by kernel_rfl
theorem Ka_:∀{L:List KW} {p:KW},AscB L→p∈L→ctAt L p.1=p.2
 | [],p,_,h=>by simp at h
 | q::L,p,hA,h=>by
  obtain⟨h1,h2⟩:=Gs_ hA;simp only[ctAt]
  rcases List.mem_cons.1 h with rfl|h
  ·rw[if_pos rfl]
  ·rw[if_neg (b_ne (h1 p h)),Ka_ h2 h]
theorem O4_ (c:Cfg) (win:Int) (l:List ItR) {N:Nat} (h:∀x∈l,x.key.size≤N):∀p∈cntL c win l,p.1.length≤N:=G8_ (fun L=>∀p∈L,p.1.length≤N) c win l (by simp) fun L x hx hL=>by
 unfold cntS;split
 ·intro p hp
  rcases mem_ctPut hp with e|hp
  ·rw[e];exact(Array.length_toList (xs:=x.key.data)).symm▸h x hx
  ·exact hL p hp
 ·exact hL
attribute [local go_sem ↓] Ag_
attribute [local go_sem] Ah_
theorem N4_ (c:Cfg) (win:Int) (v:Value) (l:List ItR) (w:World) (h:RdL itF 3 w v l) (hW:∀x∈l,ItW x) (hl:l.length≤1000000000) :
  Calls Tryz.prog 13 #[c.val,.int .i64 win,v] w (RetOwn lnF 3 46 ((cntL c win l).map kwLn) w):=by
 obtain⟨a,cp,rfl⟩:=h.shape;have hm:=h.2.1;have H:=hh_ h;have HW:=hh_ hW;have HAsc:=hh_ (fun k=>Op_ c win (l.take k));have HLen:=hh_ (fun k=>F9_ c win (l.take k));have HCw:=hh_ (fun k=>Zq_ c win (l.take k) fun x hx=>hW x (List.mem_of_mem_take hx));clear h hW;have hmm:=@run_makeMap Tryz.prog
 go_enter Tryz.func13,Tryz.ntmps13
 go_upto_region 1 with(refine As_ rfl _ rfl c rfl ?_;intro w1 B1 G1 z1)
 go_upto_region 2 with fail
 have M2:=World.ownsMap_made w1 Tryz.prog 9 (plainElem (H:=Unit) Tryz.prog 22);have B2:=B1.same (ga_ w1 (.map #[] 0) none);have G2:=Ad_ G1 (.map #[] 0)
 have hmb:w1.heap.size<(w1.alloc (.map #[] 0)).heap.size:=by simp
 have hmw:w.heap.size<w1.heap.size:=z1;generalize w1.alloc (.map #[] 0)=w2 at *;generalize w1.heap.size=mb at *;have B2':=hh_ B2;have HG2:=hh_ G2;clear B1 G1 hmm B2 G2
 go_upto_region 3 with fail
 go_loopw [16] (fun s16 wk=>∃j:Nat,j≤l.length∧s16=.int .i64 j∧(∃D n,wk.ownsMap Tryz.prog 9 (plainElem (H:=Unit) Tryz.prog 22) mb n D∧n≤j∧CntD D (cntL c win (l.take j)))∧w2.grownBy wk (some mb)) (fun s16 _=>l.length-(RowKit.intOf s16).toNat)
 case atStart=>exact⟨0,Nat.zero_le _,rfl,⟨_,0,M2,Nat.le_refl _,CntD.nil⟩,Ab_ _ _⟩
 case round=>
  clear M2;obtain⟨j,hj,rfl,⟨D,n,hM,hnj,hD⟩,hg⟩:=hrel
  by_cases hjl:j<l.length
  ·have hgw:=Af_ HG2.out hg (by omega)
   obtain⟨gx,ox,cx,hv,hgx,hcx⟩:=(RdL.same H.out hgw).at_ Hq_ hjl;cases hv;have c0:=hcx 0 _ rfl;have c1:=hcx 1 _ rfl;have c2:=hcx 2 _ rfl;rw[Nat.add_zero] at c0;have HT:=hh_ (show cntL c win (l.take (j+1))=cntS c win (cntL c win (l.take j)) l[j] by rw[tg_ hjl,G5_]);have hwx:=HW.out _ (mg_ hjl);have hA:=HAsc.out j;have hCw:=HCw.out j;clear hcx;generalize cntL c win (l.take j)=L at *;generalize l[j]=it at *;have HS0:=hh_ (show inWin c win it=false→cntS c win L it=L from fun h=>by unfold cntS;rw[h];rfl);have HS1:=hh_ (show inWin c win it=true→cntS c win L it=ctPut L it.key.data.toList it.weight from fun h=>by unfold cntS;rw[h];rfl);have HIn:=hh_ (show inWin c win it =(decide (0≤it.time)&&decide (it.time≤1099511627776)&&decide (winV c it.time=win)) from rfl);generalize inWin c win it=iw at *
   go_upto_region 5 with fail
   have M3:=hM.alloc (.cells #[.string it.key,.int .i64 it.time,.int .u64 it.weight] 41);have A3:=Blk.new wr #[.string it.key,.int .i64 it.time,.int .u64 it.weight] 41;have G3:=Ad_ hg (.cells #[.string it.key,.int .i64 it.time,.int .u64 it.weight] 41);have hmk:=hM.lt;generalize wr.alloc (.cells #[.string it.key,.int .i64 it.time,.int .u64 it.weight] 41)=w3 at *;generalize wr.heap.size=gk at *;have B3:=B2'.out.kept G3 (by simp;omega);clear hM hg hgw c0 c1 c2 hgx;have a3:=A3.cell
   have CW:=hh_ fun w'=>c1_ c it.time w'
   by_cases t0:0≤it.time
   case neg=>
    have HF:=hh_ (HT.out.trans (HS0.out (by rw[HIn.out,decide_eq_false t0];rfl)));have d0:decide (0≤it.time)=false:=decide_eq_false t0
    go_wp2_with fail
    exact⟨⟨j+1,by omega,by go_num,⟨D,n,M3,by omega,by rw[HF.out];exact hD⟩,G3⟩,by simp[RowKit.intOf];omega⟩
   have d0:decide (0≤it.time)=true:=decide_eq_true t0
   by_cases t1:it.time≤1099511627776
   case neg=>
    have HF:=hh_ (HT.out.trans (HS0.out (by rw[HIn.out,decide_eq_false t1];simp)));have d1:decide (it.time≤1099511627776)=false:=decide_eq_false t1
    go_wp2_with fail
    exact⟨⟨j+1,by omega,by go_num,⟨D,n,M3,by omega,by rw[HF.out];exact hD⟩,G3⟩,by simp[RowKit.intOf];omega⟩
   have d1:decide (it.time≤1099511627776)=true:=decide_eq_true t1
   by_cases t2:winV c it.time=win
   case neg=>
    have HF:=hh_ (HT.out.trans (HS0.out (by rw[HIn.out,decide_eq_false t2];simp)))
    have d2 :(winV c it.time != win)=true:=by simpa using t2
    have d3 :(winV c it.time==win)=false:=by simpa using t2
    generalize winV c it.time=q at *;clear HIn HS0 HS1
    go_wp2_with (first
     |(refine Bc_ rfl _ rfl _ rfl c (by assumption) ?_)
     |(go_at_call 32;refine(CW.out _).mono ?_;rintro e w4 ⟨rfl,g4⟩))
    exact⟨⟨j+1,by omega,by go_num,⟨D,n,M3.kept g4 (by simp),by omega,by rw[HF.out];exact hD⟩,Aa_ G3 (Ak_ g4 _)⟩,by simp[RowKit.intOf];omega⟩
   case pos=>
    have HF:=hh_ (HT.out.trans (HS1.out (by rw[HIn.out,d0,d1,decide_eq_true t2];rfl)))
    have d2 :(winV c it.time != win)=false:=by simpa using t2
    have d3 :(winV c it.time==win)=true:=by simpa using t2
    generalize winV c it.time=qw at *;have hkey:=keyOf_string_mk Tryz.underlying9 (s:=it.key) (by unfold maxLen;exact hwx.key);have HK:=hh_ (show WideAt.IsKeyLit (.string it.key.data.toList) from trivial)
    have hnm:n<maxLen:=by unfold maxLen;omega
    have hat:=hh_ (hD.at_ it.key.data.toList);have hq:W64 (ctAt L it.key.data.toList):=Z2_ hCw;have hsw:=B5_ hq hwx.weight;have hwf :(Lit.int .u64 (satA (ctAt L it.key.data.toList) it.weight)).wf=true:=WalkArith.wf_u64 (by unfold W64 at hsw;omega);have HP:=hh_ (p:=∀D',D'=D.put (.string it.key.data.toList) (.lit (.int .u64 (satA (ctAt L it.key.data.toList) it.weight)))→CntD D' (cntL c win (l.take (j+1)))) (fun D' e=>by rw[e,HF.out];exact hD.put hA M3.isMap HK.out);have Hwx:=hh_ hwx.weight;have Hq:=hh_ hq
    have CA:=hh_ fun w'=>D1_ (ctAt L it.key.data.toList) it.weight w' hq hwx.weight
    clear HIn HS0 HS1 HF HT hA hCw hwx hq hsw hD;generalize satA (ctAt L it.key.data.toList) it.weight=sa at *;generalize fitA (ctAt L it.key.data.toList) it.weight=fa at *;generalize ctAt L it.key.data.toList=qa at *
    go_upto_region 6 with(first
     |(refine Bc_ rfl _ rfl _ rfl c (by assumption) ?_)
     |(go_at_call 32;refine(CW.out _).mono ?_;rintro e w4 ⟨rfl,g4⟩))
    have M4:=M3.kept g4 (by simp);have A4:=A3.same g4;have G4:=Aa_ G3 (Ak_ g4 (some mb));clear M3 A3 a3 G3 g4 B3 CW d0 d1 d2 d3 t0 t1 t2;have Gd:w4.grownBy w4.drew none:=gw_
    (refine Rg.wp_region_rgZ 13 #[false,false,false,false,false,false,false,false,false,false,false,false,true] (fun w w'=>World.grownBy w w' none) (fun k _ w v w'=>match k with | 9=>v=.tuple #[.int .u64 sa,.bool fa]∧World.grownBy w w' none | _=>False) (by kernel_rfl) (by kernel_rfl) (fun w=>Ab_ w none) (fun _ _ _ h k=>Aa_ h k) (fun _ _ _ _ _ h=>h) ?_;simp only[List.take,List.drop])
    (refine tq_ 2 ?_;simp only[ts_,Nat.reduceAdd];(repeat(go_big_quiet_step (fail)));refine wpQuiet_nil ?_)
    (refine Rg.tree_op rfl rfl ?_;intro y2 my2 dy2)
    clear dy2;have a2:=(A4.same (Aa_ Gd my2)).cell
    go_wp2_with fail
    refine⟨Ab_ _ _,?_⟩;clear a2
    (refine tq_ 2 ?_;simp only[ts_,Nat.reduceAdd];(repeat(go_big_quiet_step (fail)));refine wpQuiet_nil ?_)
    (refine Rg.tree_op rfl rfl ?_;intro y5 my5 dy5)
    clear dy5;have a2:=(A4.same (Aa_ Gd my5)).cell
    go_wp2_with fail
    refine⟨Ab_ _ _,?_⟩;clear a2
    (refine Rg.tree_op rfl rfl ?_;intro y6 my6 dy6)
    clear dy6;have M6:=M4.kept (Aa_ Gd my6) (by simp)
    go_wp2_with (at_lookup;refine wpList_lookup_own_int _ rfl _ _ 79 rfl 9 22 .u64 strKeyed Tryz.underlying79 Tryz.underlying22 (zeroU _) mb n D rfl M6 _ _ rfl hkey ?_;intro c hc hwc;rw[hat.out] at hc;cases hc;clear hwc)
    refine⟨Ab_ _ _,?_⟩;clear M6
    (refine tq_ 1 ?_;simp only[ts_,Nat.reduceAdd];(repeat(go_big_quiet_step (fail)));refine wpQuiet_nil ?_)
    (refine Rg.tree_op rfl rfl ?_;intro y8 my8 dy8)
    clear dy8;have a2:=(A4.same (Aa_ Gd my8)).cell
    go_wp2_with fail
    refine⟨Ab_ _ _,?_⟩;clear a2
    (refine Rg.tree_call rfl rfl rfl ?_;intro x9 mx9 dx9;refine⟨?_,?_⟩;· (unfold Rg.callSpec;go_simp;(refine(CA.out x9).mono ?_;rintro e w' ⟨rfl,rfl⟩;exact⟨_,rfl,rfl,Ab_ _ _⟩)))
    clear dx9;rintro v y ⟨rfl,g⟩;refine⟨g,?_⟩;clear g;simp only[pt_]
    (refine tq_ 3 ?_;simp only[ts_,Nat.reduceAdd];(repeat(go_big_quiet_step (fail)));refine wpQuiet_nil ?_)
    (refine Rg.tree_nil ?_;intro z mz dz cz)
    clear dz cz;have M5:=M4.kept (Aa_ Gd mz) (by simp)
    go_wp2_with (at_mapUpdate;refine wpList_mapUpdate_own _ rfl _ _ _ 79 rfl 9 22 strKeyed Tryz.underlying79 _ mb n D rfl M5 hnm _ _ _ rfl rfl hkey _ [] (plainElem_int Tryz.underlying22 hwf) ?_;intro w7 M7 g7)
    exact⟨⟨j+1,by omega,by go_num,⟨_,n+1,M7,by omega,HP.out _ rfl⟩,Aa_ (Aa_ G4 (Ak_ (Aa_ Gd mz) _)) g7⟩,by simp[RowKit.intOf];omega⟩
  ·have hke:l.take j=l:=tk_ (by omega)
   have hA:=HAsc.out j;rw[hke] at hD hA;have HWl:=hh_ (show(cntL c win l).length≤l.length from F9_ c win l);have hgw:=hh_ (Af_ HG2.out hg (by omega));have HKs:=hh_ (O4_ c win l (N:=9223372036854775807) fun x hx=>(HW.out x hx).key);generalize cntL c win l=L at *;have HM:=hh_ hM;have HD:=hh_ hD;have HA:=hh_ hA;have HB:=hh_ (Aa_ hg (ga_ wr (.cells #[.map (some mb)] 79) (some mb)));have hml:=hM.lt;have HC:=hh_ (show(wr.alloc (.cells #[.map (some mb)] 79)).cell? ⟨wr.heap.size,0,none⟩=some (.map (some mb)) by rw[(Blk.new wr #[.map (some mb)] 79).cell];rfl);have CS:=hh_ (Sj_ wr.heap.size mb n D L _ (by simp) HC.out (hM.alloc (.cells #[.map (some mb)] 79)) hD hA (by omega));clear hM hD hA hke hg
   go_upto_region 10 with(first
    |(go_at_call 34;refine(ax_ mb _).mono ?_;rintro e w3 ⟨rfl,rfl⟩)
    |(go_at_call 33;refine CS.out.mono ?_;rintro e w4 ⟨v4,rfl,o4,g4⟩;obtain⟨a4,c4,rfl⟩:=o4.shape))
   have M4:=hh_ ((HM.out.alloc (.cells #[.map (some mb)] 79)).kept g4 (by simp));have G4:=hh_ (Aa_ (Ad_ hgw.out (.cells #[.map (some mb)] 79)) g4);have hz4:=g4.size;have hz5:wr.heap.size<w4.heap.size:=Nat.lt_of_lt_of_le (by simp) hz4;have HO:=hh_ o4
   have hLl :(L.map (·.1)).length=L.length:=by simp
   clear o4 g4 CS HB HC HM hz4
   go_loopw [54,10] (fun s54 s10 wk=>∃k:Nat,k≤L.length∧s54=.int .i64 k∧Own lnF 3 46 w4.heap.size wk s10 ((L.take k).map kwLn)∧w4.grownBy wk none) (fun s54 _ _=>L.length-(RowKit.intOf s54).toNat)
   case atStart=>exact⟨0,Nat.zero_le _,rfl,Own.nil _ _ _ _ _,Ab_ _ _⟩
   case round=>
    obtain⟨k,hk,rfl,hOk,hg⟩:=hrel
    by_cases hkl:k<L.length
    ·obtain⟨gx,ox,cx,hv,hgx,hcx⟩:=(RdL.same HO.out.rd hg).at_ b2_ (show k<(L.map (·.1)).length by omega)
     obtain⟨rfl,-,rfl⟩:a4=some ⟨gx,ox,none⟩∧(L.map (·.1)).length =(L.map (·.1)).length∧c4=cx:=by simpa only[Value.slice.injEq] using hv
     have c0:=hcx 0 _ rfl;rw[List.getElem_map,Nat.mul_one,Nat.add_zero] at c0;have M5:=M4.out.kept hg (by simp);have hat:=HD.out.at_ L[k].1;rw[Ka_ HA.out (mg_ hkl)] at hat;have hks:=HKs.out _ (mg_ hkl);have HT:=hh_ (show(L.take (k+1)).map kwLn =(L.take k).map kwLn++[kwLn L[k]] by rw[tg_ hkl,List.map_append];rfl)
     have hSl :((L.take k).map kwLn).length≤1000000000:=by rw[List.length_map,List.length_take];have:=HWl.out;omega
     obtain⟨S,hS⟩:∃S,(L.take k).map kwLn=S:=⟨_,rfl⟩;rw[hS] at hOk hSl HT;have Hk1:=hh_ (show k+1≤L.length from hkl);clear hcx hv hS;obtain⟨oa,oc,rfl⟩:=hOk.shape;generalize L[k]=p at *;obtain⟨kb,kn⟩:=p;have c0:wr.cell? ⟨gx,ox+k,none⟩=some (.string ⟨kb.toArray⟩):=c0;have Hat:=hh_ hat;have hkey:=keyOf_string_mk (P:=Tryz.prog) Tryz.underlying9 (s:=⟨kb.toArray⟩) (show kb.toArray.size≤_ by unfold maxLen;simpa using hks)
     have hb1 :(S.length+1)*32≤140737488355328:=by omega
     have hb2:S.length+1≤9223372036854775807:=by omega
     have hz:=hg.size;clear hat hks;have hk1:=Hk1.out;have hLb:=lt_ HWl.out hl
     go_wp2_with (first
      |(at_lookup;refine wpList_lookup_own_int _ rfl _ _ 79 rfl 9 22 .u64 strKeyed Tryz.underlying79 Tryz.underlying22 (zeroU _) mb n D rfl M5 _ _ rfl hkey ?_;intro c hc hwc;rw[Hat.out] at hc;cases hc;clear hwc)
      |(at_builtin;refine A5_ Fl_ Fj_ Av_ hOk (kwLn (kb,kn)) hb1 hb2 hz (by rfl) (by rfl) _ _ (by rfl) (by rfl) (by rfl) ?_;intro v7 w7 o7 g7 l7))
     exact⟨⟨k+1,hk1,by go_num,by rw[HT.out];exact o7,Ao_ hg hOk (Nat.le_refl _) g7⟩,by simp[RowKit.intOf];omega⟩
    ·have hke:L.take k=L:=tk_ (by omega)
     rw[hke] at hOk;generalize L.map kwLn=S at *;obtain⟨oa,oc,rfl⟩:=hOk.shape
     go_wp2_with fail
     go_ret
     have hzz:=G4.out.size;exact⟨_,rfl,hOk.base (fun q hq=>lt_ hzz (hOk.lt q hq).1),Aa_ G4.out hg⟩
end
section
open Go.RowKit Go.Sort Go.Maps Go.WideMaps
theorem a7_ (lo hi n:Int) (w:World):Calls Tryz.prog 29 #[bndV lo hi,.int .u64 n] w (B4_ (decide (lo≤n)&&decide (n≤hi)) w):=by
 have HB:=hh_ (show(decide (lo≤n)&&decide (n≤hi)) =(decide (lo≤n)&&decide (n≤hi)) from rfl);generalize hb :(decide (lo≤n)&&decide (n≤hi))=bb at *;have HB:=hh_ hb;clear hb
 by_cases h1:lo≤n
 ·by_cases h2:n≤hi
  ·have d1:decide (lo≤n)=true:=decide_eq_true h1
   have d2:decide (n≤hi)=true:=decide_eq_true h2;have HF:=hh_ (show true=bb by rw[←HB.out,d1,d2];rfl)
   go_enter Tryz.func29,Tryz.ntmps29
   go_wp2_with fail
   go_ret
   exact Ba_ HF.out.symm gw_
  ·have d1:decide (lo≤n)=true:=decide_eq_true h1
   have d2:decide (n≤hi)=false:=decide_eq_false h2;have HF:=hh_ (show false=bb by rw[←HB.out,d1,d2];rfl)
   go_enter Tryz.func29,Tryz.ntmps29
   go_wp2_with fail
   go_ret
   exact Ba_ HF.out.symm gw_
 ·have d1:decide (lo≤n)=false:=decide_eq_false h1
  have HF:=hh_ (show false=bb by rw[←HB.out,d1];rfl)
  go_enter Tryz.func29,Tryz.ntmps29
  go_wp2_with fail
  go_ret
  exact Ba_ HF.out.symm gw_
attribute [local go_sem ↓] Ag_
attribute [local go_sem] Ah_
theorem Gh_ (c:Cfg) (r:Rep) (v:Value) (l:List ItR) (w:World) (hR:RepRd w r) (hW:RepW r) (h:RdL itF 3 w v l) (hI:∀x∈l,ItW x) (hl:l.length≤1000000000) :
  Calls Tryz.prog 11 #[c.val,repV r.win r.tot r.vl r.over r.trk r.rest r.vr,v] w (RetInt (agE c r l) w):=by
 have HA:=hh_ (show agE c r l=if auditE c r≠0 then auditE c r
 else if (agT (cntL c r.win l)).2=false∨(agT (cntL c r.win l)).1≠r.tot then 13
 else if r.lines.any (lineOff (cntL c r.win l))=true then 13
 else if (delAll (cntL c r.win l) (keysN r.lines)).any (fun p=>decide (r.rest<p.2))=true then 13 else 0 from rfl)
 have HR:=hh_ hR;have HW:=hh_ hW;obtain⟨a,cp,rfl⟩:=h.shape;have H:=hh_ h;obtain⟨la,lc,e1⟩:=hR.lines.shape;obtain⟨ra,rc,e2⟩:=hR.rej.shape;have hlm:=hR.lines.2.1
 have CR:=hh_ fun w' (h:w.grownBy w' none)=>Ou_ c r w' (hR.same h) hW
 have CC:=hh_ fun w' (g:w.grownBy w' none)=>N4_ c r.win (.slice a l.length cp) l w' (h.same g) hI hl
 have hLl:=hh_ (F9_ c r.win l);have HAs:=hh_ (Op_ c r.win l);have HLw:=hh_ (Zq_ c r.win l hI);have HLk:=hh_ (O4_ c r.win l (N:=9223372036854775807) fun x hx=>(hI x hx).key);rw[e1,e2] at CR ⊢;have E1:=hh_ e1;clear hR e1 e2 h hI;generalize agE c r l=AE at *;have hmm:=@run_makeMap Tryz.prog
 go_enter Tryz.func11,Tryz.ntmps11
 go_upto_region 1 with(refine As_ rfl _ rfl c rfl ?_;intro w1 B1 G1 z1)
 have D2:=Blk.new w1 (repA r.win r.tot (.slice la r.lines.length lc) r.over r.trk r.rest (.slice ra r.rej.length rc)) 26;have B2:=B1.same (ga_ w1 (.cells #[.int .i64 r.win,.int .u64 r.tot,.slice la r.lines.length lc,.int .u64 r.over,.int .i64 r.trk,.int .u64 r.rest,.slice ra r.rej.length rc] 26) none);have G2:=Ad_ G1 (.cells #[.int .i64 r.win,.int .u64 r.tot,.slice la r.lines.length lc,.int .u64 r.over,.int .i64 r.trk,.int .u64 r.rest,.slice ra r.rej.length rc] 26);generalize w1.alloc (.cells #[.int .i64 r.win,.int .u64 r.tot,.slice la r.lines.length lc,.int .u64 r.over,.int .i64 r.trk,.int .u64 r.rest,.slice ra r.rej.length rc] 26)=w2 at *;generalize w1.heap.size=rb at *;clear B1 G1;have C2:=hh_ (CR.out w2 G2)
 by_cases hE:auditE c r=0
 case neg=>
  have HF:=hh_ (HA.out.trans (if_pos hE));generalize auditE c r=E at *
  have he2 :(E != 0)=true:=by simpa using hE
  have he3 :(E==0)=false:=by simpa using hE
  clear hE HA
  go_wp2_with (first
   |(refine Al_ rfl _ rfl _ rfl c (by assumption) ?_)
   |(refine A0_ rfl _ rfl _ rfl D2 ?_)
   |(go_at_call 8;refine C2.out.mono ?_;rintro e w3 ⟨rfl,g3⟩))
  go_ret
  exact Ai_ HF.out (Aa_ G2 g3)
 case pos=>
  have HF:=hh_ (HA.out.trans (if_neg (by omega)))
  have OK:=hh_ (p:=V8_ r) (by
   refine Zw_ (Decidable.byContradiction fun h=>?_);unfold auditE at hE;rw[if_pos h] at hE
   exact h hE)
  rw[hE] at C2;clear HA hE;generalize cntL c r.win l=L at *
  go_upto_region 4 with(first
   |(refine Al_ rfl _ rfl _ rfl c (by assumption) ?_)
   |(refine A0_ rfl _ rfl _ rfl D2 ?_)
   |(go_at_call 8;refine C2.out.mono ?_;rintro e w3 ⟨rfl,g3⟩))
  have D3:=D2.same g3;have B3:=B2.same g3;have G3:=Aa_ G2 g3;clear D2 B2 G2 g3 C2
  go_upto_region 5 with fail
  have M4:=World.ownsMap_made w3 Tryz.prog 9 (plainElem (H:=Unit) Tryz.prog 22);have D4:=D3.same (ga_ w3 (.map #[] 0) none);have B4:=B3.same (ga_ w3 (.map #[] 0) none);have G4:=Ad_ G3 (.map #[] 0);have hmw:w.heap.size≤w3.heap.size:=G3.size;have hrm:=D3.lt;have hbm:=B3.lt;generalize w3.alloc (.map #[] 0)=w4 at *;generalize w3.heap.size=mb at *;clear D3 B3 G3 hmm;have d4:=D4.cell;have C4:=hh_ (CC.out w4 G4)
  go_upto_region 7 with(first
   |(refine Al_ rfl _ rfl _ rfl c (by assumption) ?_)
   |(go_at_call 13;refine C4.out.mono ?_;rintro e w5 ⟨v5,rfl,o5,g5⟩;obtain⟨a5,c5,rfl⟩:=o5.shape))
  have M5:=M4.kept g5 (by simp);have HD5:=hh_ (D4.same g5);have HG5:=hh_ (Aa_ G4 g5);have hmb4:=M4.lt;have HO:=hh_ o5;clear M4 D4 B4 G4 d4 C4 o5 g5
  go_loopw [31,9,10] (fun s31 s9 s10 wk=>∃k:Nat,k≤L.length∧s31=.int .i64 k∧s9=.int .u64 (agT (L.take k)).1∧s10=.bool (agT (L.take k)).2∧(∃D n,wk.ownsMap Tryz.prog 9 (plainElem (H:=Unit) Tryz.prog 22) mb n D∧n≤k∧CntD D (L.take k))∧w5.grownBy wk (some mb)) (fun s31 _ _ _=>L.length-(RowKit.intOf s31).toNat)
  case atStart=>exact⟨0,Nat.zero_le _,rfl,rfl,rfl,⟨_,0,M5,Nat.le_refl _,CntD.nil⟩,Ab_ _ _⟩
  case round=>
   clear M5;obtain⟨k,hk,rfl,rfl,rfl,⟨D,n,hM,hn,hD⟩,hg⟩:=hrel;have hLb:=lt_ hLl.out hl
   by_cases hkl:k<L.length
   ·have O6:=HO.out.kept hg (fun q hq e=>by cases e;have:=(HO.out.lt _ hq).1;omega)
    obtain⟨gx,ox,cx,hv,hgx,hcx⟩:=O6.rd.at_ Av_ (show k<(L.map kwLn).length by rw[List.length_map];exact hkl)
    obtain⟨rfl,-,rfl⟩:a5=some ⟨gx,ox,none⟩∧(L.map kwLn).length =(L.map kwLn).length∧c5=cx:=by simpa only[Value.slice.injEq] using hv
    have hTk:L.take (k+1)=L.take k++[L[k]]:=tg_ hkl;have HT:=hh_ (show agT (L.take (k+1)) =(satA (agT (L.take k)).1 L[k].2,(agT (L.take k)).2&&fitA (agT (L.take k)).1 L[k].2) by rw[hTk,O5_]);have hTw:W64 (agT (L.take k)).1:=cz_ (fun p hp=>HLw.out p (List.mem_of_mem_take hp));have hnw:=HLw.out _ (mg_ hkl);have hkw:=HLk.out _ (mg_ hkl);have hnew:ctHas (L.take k) L[k].1=false:=a6_ (by rw[←hTk];exact List.Pairwise.sublist (List.take_sublist _ _) HAs.out);have HP:=hh_ (p:=∀D',D'=D.put (.string L[k].1) (.lit (.int .u64 L[k].2))→CntD D' (L.take (k+1))) (fun D' e=>by rw[e,hTk];exact hD.snoc hM.isMap hnew trivial)
    have c0:wr.cell? ⟨gx,ox+k*3,none⟩=some (.string ⟨L[k].1.toArray⟩):=by have:=hcx 0 _ rfl;rw[List.getElem_map,Nat.add_zero] at this;exact this
    have c1:wr.cell? ⟨gx,ox+k*3+1,none⟩=some (.int .u64 L[k].2):=by have:=hcx 1 _ rfl;rw[List.getElem_map] at this;exact this
    have c2:wr.cell? ⟨gx,ox+k*3+2,none⟩=some (.int .u64 L[k].2):=by have:=hcx 2 _ rfl;rw[List.getElem_map] at this;exact this
    have Hk1:=hh_ (show k+1≤L.length from hkl);clear hcx hv O6 hnew hD hTk;generalize agT (L.take k)=TE at *;obtain⟨T,e⟩:=TE;generalize L[k]=p at *;obtain⟨kb,kn⟩:=p;dsimp only at *;have hkey:=keyOf_string_mk (P:=Tryz.prog) Tryz.underlying9 (s:=⟨kb.toArray⟩) (show kb.toArray.size≤_ by unfold maxLen;simpa using hkw)
    have CA:=hh_ fun w'=>D1_ T kn w' hTw hnw
    have hwf :(Lit.int .u64 kn).wf=true:=WalkArith.wf_u64 (by unfold W64 at hnw;omega)
    have hnm:n<maxLen:=by unfold maxLen;omega
    have M6:=hM.alloc (.cells #[.string ⟨kb.toArray⟩,.int .u64 kn,.int .u64 kn] 46);have A6:=Blk.new wr #[.string ⟨kb.toArray⟩,.int .u64 kn,.int .u64 kn] 46;have G6:=Ad_ hg (.cells #[.string ⟨kb.toArray⟩,.int .u64 kn,.int .u64 kn] 46);clear hTw hnw hkw hM hg
    go_upto_region 9 with fail
    generalize wr.alloc (.cells #[.string ⟨kb.toArray⟩,.int .u64 kn,.int .u64 kn] 46)=w6 at *;generalize wr.heap.size=gk at *;have a6:=A6.cell;generalize satA T kn=T2 at *;generalize fitA T kn=f2 at *;clear c0 c1 c2;have hk1:=Hk1.out;cases e
    all_goals
     go_wp2_with (first
      |(go_at_call 28;refine(CA.out _).mono ?_;rintro e w' ⟨rfl,hw'⟩;subst w')
      |(at_mapUpdate;refine wpList_mapUpdate_own _ rfl _ _ _ 79 rfl 9 22 strKeyed Tryz.underlying79 _ mb n D rfl M6 hnm _ _ _ rfl rfl hkey _ [] (plainElem_int Tryz.underlying22 hwf) ?_;intro w7 M7 g7))
     exact⟨⟨k+1,hk1,by go_num,by rw[HT.out],by rw[HT.out];rfl,⟨_,n+1,M7,by omega,HP.out _ rfl⟩,Aa_ G6 g7⟩,by simp[RowKit.intOf];omega⟩
   ·have hke:L.take k=L:=tk_ (by omega)
    rw[hke] at hD ⊢;have hgw:=Af_ HG5.out hg hmw;have D6:=HD5.out.kept hg (by simp;omega);have d6:=D6.cell;have HTw:=hh_ (cz_ HLw.out);generalize agT L=TE at *;obtain⟨T,e⟩:=TE;dsimp only at *
    cases e with
    | false=>
     have HF2:=hh_ (HF.out.trans (if_pos (.inl rfl)))
     go_wp2_with fail
     go_ret
     exact Ai_ HF2.out hgw
    | true=>
     by_cases hT:T=r.tot
     case neg=>
      have HF2:=hh_ (HF.out.trans (if_pos (.inr hT)))
      have t1 :(T != r.tot)=true:=by simpa using hT
      have t2 :(T==r.tot)=false:=by simpa using hT
      go_wp2_with fail
      go_ret
      exact Ai_ HF2.out hgw
     case pos=>
      have HF2:=hh_ (HF.out.trans (if_neg (by simp[hT])))
      have t1 :(T != r.tot)=false:=by simpa using hT
      have t2 :(T==r.tot)=true:=by simpa using hT
      clear HF
      go_upto_region 16 with fail
      clear t1 t2 hT HTw hke hkl d6 D6;have HM:=hh_ hM;have HD:=hh_ hD;have HG:=hh_ hg;clear hM hD hg hgw
      go_loopw [63] (fun s63 wk=>∃k:Nat,k≤r.lines.length∧s63=.int .i64 k∧(∀i (hi:i<r.lines.length),i<k→lineOff L r.lines[i]=false)∧(∃D,wk.ownsMap Tryz.prog 9 (plainElem (H:=Unit) Tryz.prog 22) mb n D∧CntD D (delAll L (keysN (r.lines.take k))))∧w5.grownBy wk (some mb)) (fun s63 _=>r.lines.length-(RowKit.intOf s63).toNat)
      case atStart=>exact⟨0,Nat.zero_le _,rfl,by intro i hi h;omega,⟨D,HM.out,HD.out⟩,HG.out⟩
      case round=>
       clear HM HD HG;obtain⟨k,hk,rfl,hall,⟨D,hM,hD⟩,hg⟩:=hrel;have Hall:=hh_ hall;clear hall;have HGw:=hh_ (Af_ HG5.out hg hmw)
       by_cases hlt:k<r.lines.length
       ·obtain⟨g,off,cap,hv,hgl,hc⟩:=(HR.out.lines.same HGw.out).at_ Av_ hlt
        rw[E1.out] at hv;cases hv;have c0:=hc 0 _ rfl;have c1:=hc 1 _ rfl;have c2:=hc 2 _ rfl;rw[Nat.add_zero] at c0;obtain⟨-,hks,-,-⟩:=OK.out.ln hlt
        have hnot:r.lines[k].key.data.toList∉keysN (r.lines.take k):=by
         have h1:=OK.out.keys
         have h2 :(keysN (r.lines.take (k+1))).Nodup:=by
          unfold keysN at h1 ⊢;rw[List.map_take];exact List.Nodup.sublist (List.take_sublist _ _) h1
         rw[D5_ hlt,List.nodup_append] at h2
         exact fun hm=>h2.2.2 _ hm _ (by simp) rfl
        have hat:=hh_ (hD.at_ r.lines[k].key.data.toList);rw[Md_ hnot] at hat;have HDl:=hh_ (p:=CntD (D.del (.string r.lines[k].key.data.toList)) (delAll L (keysN (r.lines.take (k+1))))) (by rw[D5_ hlt,Na_];exact hD.del);have HY:=hh_ (p:=lineOff L r.lines[k]=true→AE=13) (fun h=>HF2.out.trans (if_pos (List.any_eq_true.2 ⟨_,mg_ hlt,h⟩)))
        have HN:=hh_ (p:=lineOff L r.lines[k]=false→∀i (hi:i<r.lines.length),i<k+1→lineOff L r.lines[i]=false) (fun h i hi hik=>by
         rcases Nat.lt_or_ge i k with h1|h1
         ·exact Hall.out i hi h1
         ·obtain rfl:i=k:=by omega
          exact h)
        have HBl:=hh_ (show lineOff L r.lines[k]=!(decide (r.lines[k].lo≤ctAt L r.lines[k].key.data.toList)&&decide (ctAt L r.lines[k].key.data.toList≤r.lines[k].hi)) from rfl)
        have CB:=hh_ fun w'=>a7_ r.lines[k].lo r.lines[k].hi (ctAt L r.lines[k].key.data.toList) w'
        clear hc hnot hD;generalize lineOff L r.lines[k]=bl at *;generalize (decide (r.lines[k].lo≤ctAt L r.lines[k].key.data.toList)&&decide (ctAt L r.lines[k].key.data.toList≤r.lines[k].hi))=bb at *;generalize r.lines[k]=x at *;generalize ctAt L x.key.data.toList=q at *;have hkey:=keyOf_string_mk (P:=Tryz.prog) Tryz.underlying9 (s:=x.key) (by unfold maxLen;omega);have M6:=hM.alloc (.cells #[.string x.key,.int .u64 x.lo,.int .u64 x.hi] 46);have A6:=Blk.new wr #[.string x.key,.int .u64 x.lo,.int .u64 x.hi] 46;have G6:=Ad_ hg (.cells #[.string x.key,.int .u64 x.lo,.int .u64 x.hi] 46);have GW6:=Ad_ HGw.out (.cells #[.string x.key,.int .u64 x.lo,.int .u64 x.hi] 46);clear hM hg
        go_upto_region 18 with fail
        generalize wr.alloc (.cells #[.string x.key,.int .u64 x.lo,.int .u64 x.hi] 46)=w6 at *;generalize wr.heap.size=gk at *;have a6:=A6.cell;clear c0 c1 c2
        cases bb with
        | false=>
         have HQ:=hh_ (HY.out (by rw[HBl.out];rfl))
         go_wp2_with (first
          |(at_lookup;refine wpList_lookup_own_int _ rfl _ _ 79 rfl 9 22 .u64 strKeyed Tryz.underlying79 Tryz.underlying22 (zeroU _) mb n D rfl M6 _ _ rfl hkey ?_;intro c hc hwc;rw[hat.out] at hc;cases hc;clear hwc)
          |(go_at_call 29;refine(CB.out _).mono ?_;rintro e w8 ⟨rfl,g8⟩))
         go_ret
         exact Ai_ HQ.out (Aa_ GW6 g8)
        | true=>
         have HQ:=hh_ (HN.out (by rw[HBl.out];rfl))
         go_wp2_with (first
          |(at_lookup;refine wpList_lookup_own_int _ rfl _ _ 79 rfl 9 22 .u64 strKeyed Tryz.underlying79 Tryz.underlying22 (zeroU _) mb n D rfl M6 _ _ rfl hkey ?_;intro c hc hwc;rw[hat.out] at hc;cases hc;clear hwc)
          |(go_at_call 29;refine(CB.out _).mono ?_;rintro e w8 ⟨rfl,g8⟩;have M8:=M6.kept g8 (by simp);have a8:=(A6.same g8).cell)
          |(at_delete;refine wpList_delete_own _ rfl _ _ 79 9 rfl 22 strKeyed Tryz.underlying79 _ mb n D rfl M8 _ _ rfl hkey ?_;intro w9 M9 t9))
         exact⟨⟨k+1,by omega,by go_num,HQ.out,⟨_,M9,HDl.out⟩,Aa_ G6 (Aa_ (Ak_ g8 _) t9.grown)⟩,by simp[RowKit.intOf];omega⟩
       ·have hke:r.lines.take k=r.lines:=tk_ (by omega)
        rw[hke] at hD
        have HF3:=hh_ (HF2.out.trans (if_neg (by
         rw[Bool.not_eq_true,List.any_eq_false];intro x hx;obtain⟨i,hi,rfl⟩:=List.getElem_of_mem hx
         simp[Hall.out i hi (by omega)])))
        clear HF2 Hall hke;have HLA:=hh_ (P4_ HAs.out (keysN r.lines));generalize delAll L (keysN r.lines)=Lr at *;have D6:=HD5.out.kept hg (by simp;omega);have HHas:=hh_ hD.has;have HAt:=hh_ hD.at_;have hrest:=HW.out.rest;clear hD
        go_upto_region 23 with(at_range;refine wpList_range_own _ rfl _ 79 rfl 9 22 strKeyed Tryz.underlying79 _ mb n D rfl hM ?_;intro w6 hrg6 hg6 hs6)
        have D7:=hh_ (D6.same hg6);have HGw6:=hh_ (Aa_ HGw.out hg6);have hrb:=D6.lt;have hib:=HGw.out.size;generalize wr.heap.size=ib at *;clear D6 hg hM
        go_frame
        go_loopw [17] (fun _ wk=>∃left cnt,wk.ranges Tryz.prog 9 (plainElem (H:=Unit) Tryz.prog 22) mb ib n D left cnt∧(∀p∈Lr,left (.string p.1)=false→p.2≤r.rest)∧w6.grownBy wk (some ib)) (fun _ wk=>wk.rangeLeft mb ib)
        case atStart=>
         refine⟨_,_,hrg6,fun p hp h=>?_,Ab_ _ _⟩;rw[HHas.out] at h
         have:ctHas Lr p.1=true:=Hr_.2 (List.mem_map.2 ⟨p,hp,rfl⟩)
         rw[this] at h;cases h
        case round=>
         clear hrg6;obtain⟨left,cnt,hrg,hseen,hg⟩:=hrel;have Hs:=hh_ hseen;clear hseen
         go_wp2_with (at_next;refine wpList_next_ranges _ rfl _ rfl 9 strKeyed (plainElem (H:=Unit) Tryz.prog 22) Value.string (Value.int .u64) (fun key kl hk=>by obtain⟨s,rfl,_,_⟩:=string_of_keyOf Tryz.underlying9 hk;exact⟨s,rfl⟩) (fun v y hv=>by obtain⟨c,rfl,_⟩:=plainElem_int_inv Tryz.underlying22 hv;exact⟨c,rfl⟩) mb ib n _ _ _ rfl hrg ?_ ?_)
         ·intro hc0 hl0
          have HF4:=hh_ (HF3.out.trans (if_neg (by
           rw[Bool.not_eq_true,List.any_eq_false];intro p hp
           have:=Hs.out p hp (hl0 _)
           simp;omega)))
          go_wp2_with fail
          go_ret
          exact Ai_ HF4.out (Af_ HGw6.out hg hib)
         ·intro x cc kl yd yp w7 cnt2 hkey hlk hv hat hrg2 hlt hg2 hs2 hen
          obtain⟨s,es,rfl,hsz⟩:=string_of_keyOf Tryz.underlying9 hkey;cases es;obtain⟨c2,ec,ey,hwc⟩:=plainElem_int_inv Tryz.underlying22 hv;cases ec;cases ey;have h0:=HAt.out x.data.toList;rw[hat] at h0
          have hcc:cc=ctAt Lr x.data.toList:=by cases h0;rfl
          have D8:=(D7.out.kept hg (by simp;omega)).kept hg2 (by simp;omega);have d8:=D8.cell
          by_cases hbig:r.rest<cc
          ·have HF4:=hh_ (p:=AE=13) (HF3.out.trans (if_pos (by
            cases hh:ctHas Lr x.data.toList with
            | false=>rw[J1_ hh] at hcc;unfold W64 at hrest;omega
            | true=>exact List.any_eq_true.2 ⟨_,J9_ hh,by simp;omega⟩)))
           have hb1:decide (r.rest<cc)=true:=decide_eq_true hbig;clear hcc h0 hat hv hkey
           go_wp2_with fail
           go_ret
           exact Ai_ HF4.out (Af_ (Af_ HGw6.out hg hib) hg2 (lt_ hib (by omega)))
          ·have hb1:decide (r.rest<cc)=false:=decide_eq_false hbig
           have HN:=hh_ (p:=∀p∈Lr,(left (.string p.1)&&!(Lit.string p.1).sameKey (.string x.data.toList))=false→p.2≤r.rest) (fun p hp h=>by
            cases hl:left (.string p.1) with
            | false=>exact Hs.out p hp hl
            | true=>
             rw[hl] at h
             have e:p.1=x.data.toList:=by simpa [Lit.sameKey] using h
             have:=Ka_ HLA.out hp
             rw[e,←hcc] at this
             omega)
           clear hcc h0 hat hv hkey
           go_wp2_with fail
           exact⟨⟨_,_,hrg2,HN.out,Aa_ hg hg2⟩,by rw[hrg2.left_eq,hrg.left_eq];exact hlt⟩
end
section
def Ent.cnt (e:Ent):Int:=e.own+e.slack
def hasK (k:ByteArray) (e:Ent):Bool:=decide (e.key=k)
def getE (L:List Ent) (k:ByteArray):Option Ent:=L.find? (hasK k)
def delE (L:List Ent) (k:ByteArray):List Ent:=L.eraseP (hasK k)
def keysE (L:List Ent):List ByteArray:=L.map (·.key)
def ltK (a b:ByteArray):Bool:=decide (a.data.toList<b.data.toList)
def insE (L:List Ent) (e:Ent):List Ent:=L.takeWhile (fun x=>ltK x.key e.key)++e::L.dropWhile (fun x=>ltK x.key e.key)
def sortEn (L:List Ent):List Ent:=L.foldl insE []
def minE:List Ent→Option Ent
 | []=>none
 | e::L=>match minE L with
  | none=>some e
  | some x=>if x.cnt<e.cnt then some x else some e
structure Ents (L:List Ent):Prop where
 nodup :(keysE L).Nodup
 key:∀e∈L,0<e.key.size∧e.key.size≤255
 own:∀e∈L,1≤e.own
 slack:∀e∈L,0≤e.slack
theorem A4_ {L:List Ent} {k:ByteArray} {e:Ent} (h:getE L k=some e):e∈L∧e.key=k:=
 ⟨List.mem_of_find?_eq_some h,of_decide_eq_true (List.find?_some h:hasK k e=true)⟩
theorem Cs_ {L:List Ent} {k:ByteArray}:getE L k=none↔k∉keysE L:=by
 simp only[getE,keysE,hasK,List.find?_eq_none,decide_eq_true_eq,List.mem_map,not_exists,not_and]
theorem Dz_ {L:List Ent} {e:Ent} (h:e∈L):e.key∈keysE L:=List.mem_map_of_mem h
theorem Ga_ {L:List Ent} (h :(keysE L).Nodup) {e:Ent} (he:e∈L):getE L e.key=some e:=by
 induction L with
 | nil=>simp at he
 | cons a L ih=>
  have hn:=List.nodup_cons.1 (by simpa [keysE] using h :(a.key::keysE L).Nodup);unfold getE
  by_cases ha:a.key=e.key
  ·rcases List.mem_cons.1 he with rfl|h1
   ·simp[hasK]
   ·exact absurd (ha▸Dz_ h1) hn.1
  ·rcases List.mem_cons.1 he with rfl|h1
   ·exact absurd rfl ha
   ·rw[List.find?_cons_of_neg (by simpa [hasK] using ha)]
    exact ih hn.2 h1
theorem C4_ (L:List Ent) (k:ByteArray) :(delE L k).Sublist L:=List.eraseP_sublist
theorem Be_ {L:List Ent} {k:ByteArray} {e:Ent} (h:e∈delE L k):e∈L:=(C4_ L k).subset h
theorem Jl_ {L M:List Ent} (h:L.Sublist M) :(keysE L).Sublist (keysE M):=h.map _
theorem Bq_ {L:List Ent} (h :(keysE L).Nodup) {k:ByteArray} {x:ByteArray}:x∈keysE (delE L k)↔x∈keysE L∧x≠k:=by
 induction L with
 | nil=>simp[delE,keysE]
 | cons a L ih=>
  have hn:=List.nodup_cons.1 (by simpa [keysE] using h :(a.key::keysE L).Nodup);unfold delE
  by_cases ha:a.key=k
  ·rw[List.eraseP_cons_of_pos (by simpa [hasK] using ha)]
   simp only[keysE,List.map_cons,List.mem_cons]
   constructor
   ·intro hx
    refine⟨.inr hx,fun e=>?_⟩;rw[e,←ha] at hx;exact hn.1 hx
   ·rintro⟨rfl|hx,hne⟩
    ·exact absurd ha hne
    ·exact hx
  ·rw[List.eraseP_cons_of_neg (by simpa [hasK] using ha)]
   have:=ih hn.2
   unfold delE at this;simp only[keysE,List.map_cons,List.mem_cons] at *;rw[this]
   constructor
   ·rintro(rfl |⟨hx,hne⟩)
    ·exact⟨.inl rfl,ha⟩
    ·exact⟨.inr hx,hne⟩
   ·rintro⟨rfl|hx,hne⟩
    ·exact .inl rfl
    ·exact .inr ⟨hx,hne⟩
theorem Un_ {L:List Ent} {k:ByteArray} {e:Ent} (h:getE L k=some e):L.Perm (e::delE L k):=by
 induction L with
 | nil=>simp[getE] at h
 | cons a L ih=>
  unfold getE at h;unfold delE
  by_cases ha:hasK k a
  ·rw[List.find?_cons_of_pos ha] at h
   cases h;rw[List.eraseP_cons_of_pos ha]
  ·rw[List.find?_cons_of_neg ha] at h
   rw[List.eraseP_cons_of_neg ha];exact((ih h).cons a).trans (List.Perm.swap _ _ _)
theorem C7_ {L:List Ent} {k:ByteArray} {e:Ent} (h:getE L k=some e) :(delE L k).length+1=L.length:=by
 have:=(Un_ h).length_eq;simp at this;omega
theorem Ents.sub {L M:List Ent} (h:Ents M) (hs:L.Sublist M):Ents L:=
 ⟨(Jl_ hs).nodup h.nodup,fun e he=>h.key e (hs.subset he),fun e he=>h.own e (hs.subset he),fun e he=>h.slack e (hs.subset he)⟩
theorem Ents.del {L:List Ent} (h:Ents L) (k:ByteArray):Ents (delE L k):=h.sub (C4_ L k)
theorem Ents.snoc {L:List Ent} (h:Ents L) {e:Ent} (hk:e.key∉keysE L) (h1:0<e.key.size∧e.key.size≤255) (h2:1≤e.own) (h3:0≤e.slack):Ents (L++[e]):=by
 refine⟨?_,?_,?_,?_⟩
 ·simp only[keysE,List.map_append,List.map_cons,List.map_nil]
  refine List.nodup_append.2 ⟨h.nodup,by simp,fun a ha b hb=>?_⟩;rw[List.mem_singleton] at hb;subst hb
  exact fun e'=>hk (e'▸ha)
 all_goals
  intro x hx
  rcases ma_ hx with hx|hx
 ·exact h.key x hx
 ·rw[ms_ hx];exact h1
 ·exact h.own x hx
 ·rw[ms_ hx];exact h2
 ·exact h.slack x hx
 ·rw[ms_ hx];exact h3
theorem Ents.nil:Ents []:=⟨by simp[keysE],by simp,by simp,by simp⟩
theorem cp_ {L:List Ent} (h :(keysE L).Nodup) (k:ByteArray):k∉keysE (delE L k):=fun hx=>((Bq_ h).1 hx).2 rfl
theorem Fv_:∀{L:List Ent} {e:Ent},minE L=some e→e∈L
 | [],e,h=>by simp[minE] at h
 | a::L,e,h=>by
  unfold minE at h
  cases hm:minE L with
  | none=>rw[hm] at h;cases h;simp
  | some x=>
   rw[hm] at h;dsimp only at h
   split at h
   ·cases h;exact List.mem_cons_of_mem _ (Fv_ hm)
   ·cases h;simp
theorem G6_ {L:List Ent}:minE L=none↔L=[]:=by
 cases L with
 | nil=>simp[minE]
 | cons a L=>unfold minE;cases minE L <;> simp;split <;> simp
theorem Rd_:∀{L:List Ent} {e:Ent},minE L=some e→∀x∈L,e.cnt≤x.cnt
 | [],e,h=>by simp[minE] at h
 | a::L,e,h=>by
  intro x hx;unfold minE at h
  cases hm:minE L with
  | none=>
   rw[hm] at h;cases h;rw[G6_.1 hm] at hx
   rcases ms_ hx with rfl
   exact Int.le_refl _
  | some y=>
   rw[hm] at h;dsimp only at h;have ih:=Rd_ hm
   split at h
   ·cases h
    rcases List.mem_cons.1 hx with rfl|hx
    ·omega
    ·exact ih x hx
   ·cases h
    rcases List.mem_cons.1 hx with rfl|hx
    ·exact Int.le_refl _
    ·have:=ih x hx;omega
structure TabM where
 (mode m:Int) (L:List Ent) (base sum:Int)
def mostW:Int:=9223372036854775808
def addErr (sum:Int) (k:ByteArray) (w:Int):Int:=if k.size=0 then 3 else if w=0 then 1 else if mostW<sum+w then 12 else 0
def minOwn (L:List Ent) (w:Int):Int:=L.foldl (fun d e=>min d e.own) w
def cutE (L:List Ent) (d:Int):List Ent:=(L.map fun e=>(⟨e.key,e.own-d,e.slack⟩:Ent)).filter fun e=>decide (0<e.own)
def TabM.add (T:TabM) (k:ByteArray) (w:Int):TabM:=
 match getE T.L k with
 | some e=>{ T with sum:=T.sum+w,L:=delE T.L k++[⟨k,e.own+w,e.slack⟩] }
 | none=>
  if T.mode=2 then
   if (T.L.length:Int)=T.m then
    { T with sum:=T.sum+w,base:=T.base+minOwn T.L w,L:=if 0<w-minOwn T.L w then cutE T.L (minOwn T.L w)++[⟨k,w-minOwn T.L w,0⟩] else cutE T.L (minOwn T.L w) }
   else { T with sum:=T.sum+w,L:=T.L++[⟨k,w,0⟩] }
  else
   match minE T.L with
   | some x=>if (T.L.length:Int)=T.m then { T with sum:=T.sum+w,base:=x.cnt,L:=delE T.L x.key++[⟨k,w,x.cnt⟩] } else { T with sum:=T.sum+w,L:=T.L++[⟨k,w,T.base⟩] }
   | none=>{ T with sum:=T.sum+w,L:=T.L++[⟨k,w,T.base⟩] }
def TabM.fix (T:TabM) (e:Ent):Ent:=if T.mode=2 then ⟨e.key,e.own,T.base⟩ else e
def TabM.get (T:TabM) (k:ByteArray):Option Ent:=(getE T.L k).map T.fix
def TabM.take (T:TabM) (k:ByteArray):TabM:={ T with L:=delE T.L k }
def TabM.swapE (T:TabM) (k:ByteArray) (e:Ent):Ent:=if T.mode=2 then ⟨e.key,e.own,0⟩ else if e.own<T.base then ⟨e.key,e.own,max e.slack (T.base-e.own)⟩ else e
def TabM.swap (T:TabM) (k:ByteArray) (e:Ent):TabM:={ T with L:=delE T.L k++[T.swapE k e] }
def TabM.swapOk (T:TabM) (x e:Ent):Prop:=if T.mode=2 then 1≤e.own∧e.own≤x.own∧e.slack≤T.base else e.cnt≤x.cnt
def TabM.entries (T:TabM):List Ent:=sortEn (T.L.map T.fix)
structure Bu_ (T:TabM):Prop where
 mode:T.mode=1∨T.mode=2
 m:1≤T.m∧T.m≤64
 ents:Ents T.L
 len :(T.L.length:Int)≤T.m
 base:0≤T.base∧T.base≤T.sum
 sum:T.sum≤mostW
 cnt:∀e∈T.L,(T.fix e).cnt≤T.sum
 low:T.mode=1→∀e∈T.L,T.base≤e.cnt
 zero:T.mode=2→∀e∈T.L,e.slack=0
theorem Bu_.new {mode m:Int} (h:mode=1∨mode=2) (hm:1≤m∧m≤64):Bu_ ⟨mode,m,[],0,0⟩:=
 ⟨h,hm,Ents.nil,by simp;omega,by simp,by simp[mostW],by simp,by simp,by simp⟩
theorem Kq_:∀(L:List Ent) (w:Int),minOwn L w≤w∧∀e∈L,minOwn L w≤e.own:=by
 intro L
 induction L with
 | nil=>intro w;simp[minOwn]
 | cons a L ih=>
  intro w;have h1:=ih (min w a.own);have e1:minOwn (a::L) w=minOwn L (min w a.own):=rfl;rw[e1];refine⟨by omega,fun e he=>?_⟩
  rcases List.mem_cons.1 he with rfl|he
  ·omega
  ·exact h1.2 e he
theorem minOwn_pos {L:List Ent} {w:Int} (hw:1≤w) (h:∀e∈L,1≤e.own):1≤minOwn L w:=by
 induction L generalizing w with
 | nil=>simpa [minOwn] using hw
 | cons a L ih=>
  have ha:=h a (by simp)
  exact ih (w:=min w a.own) (by omega) fun e he=>h e (List.mem_cons_of_mem _ he)
theorem Ju_ {L:List Ent} {d:Int} {e:Ent} (h:e∈cutE L d):∃x∈L,e =⟨x.key,x.own-d,x.slack⟩∧0<x.own-d:=by
 obtain⟨h1,h2⟩:=List.mem_filter.1 h;obtain⟨x,hx,rfl⟩:=List.mem_map.1 h1;exact⟨x,hx,rfl,of_decide_eq_true h2⟩
theorem Ex_ (L:List Ent) (d:Int) :(keysE (cutE L d)).Sublist (keysE L):=by
 have h1 :(cutE L d).Sublist (L.map fun e=>(⟨e.key,e.own-d,e.slack⟩:Ent)):=List.filter_sublist
 have:=h1.map (·.key)
 simpa [keysE,List.map_map,Function.comp_def] using this
theorem Fx_ (L:List Ent) (d:Int) :(cutE L d).length≤L.length:=by
 have h1 :(cutE L d).length≤(L.map fun e=>(⟨e.key,e.own-d,e.slack⟩:Ent)).length:=List.length_filter_le _ _
 simpa using h1
theorem Ents.cut {L:List Ent} (h:Ents L) (d:Int):Ents (cutE L d):=by
 refine⟨(Ex_ L d).nodup h.nodup,fun e he=>?_,fun e he=>?_,fun e he=>?_⟩ <;> obtain⟨x,hx,rfl,h0⟩:=Ju_ he
 ·exact h.key x hx
 ·show 1≤x.own-d;omega
 ·exact h.slack x hx
theorem fix2 {T:TabM} (h:T.mode=2) (e:Ent):T.fix e =⟨e.key,e.own,T.base⟩:=if_pos h
theorem fix1 {T:TabM} (h:T.mode≠2) (e:Ent):T.fix e=e:=if_neg h
theorem Eh_ (T:TabM) (e:Ent) :(T.fix e).key=e.key:=by unfold TabM.fix;split <;> rfl
theorem Dt_ (T:TabM) (e:Ent) :(T.fix e).own=e.own:=by unfold TabM.fix;split <;> rfl
inductive ey_ (T:TabM) (k:ByteArray) (w:Int):Prop
 | cut (hm:T.mode=2) (hl :(T.L.length:Int)=T.m)
 | room (hl :(T.L.length:Int)≠T.m)
 | out (hm:T.mode≠2) (hl :(T.L.length:Int)=T.m) (x:Ent) (hx:minE T.L=some x)
theorem addNo {T:TabM} (h:Bu_ T) (k:ByteArray) (w:Int):ey_ T k w:=by
 by_cases hl :(T.L.length:Int)=T.m
 ·by_cases hm:T.mode=2
  ·exact .cut hm hl
  ·cases hx:minE T.L with
   | none=>rw[G6_.1 hx] at hl;have:=h.m;simp at hl;omega
   | some x=>exact .out hm hl x hx
 ·exact .room hl
theorem Jw_ {T:TabM} {k:ByteArray} {w:Int} {e:Ent} (h:getE T.L k=some e):T.add k w={ T with sum:=T.sum+w,L:=delE T.L k++[⟨k,e.own+w,e.slack⟩] }:=by unfold TabM.add;rw[h]
theorem Jj_ {T:TabM} {k:ByteArray} {w:Int} (h:getE T.L k=none) (hm:T.mode=2) (hl :(T.L.length:Int)=T.m) :
  T.add k w={ T with sum:=T.sum+w,base:=T.base+minOwn T.L w,L:=if 0<w-minOwn T.L w then cutE T.L (minOwn T.L w)++[⟨k,w-minOwn T.L w,0⟩] else cutE T.L (minOwn T.L w) }:=by
 unfold TabM.add;rw[h];dsimp only;rw[if_pos hm,if_pos hl]
theorem Ey_ {T:TabM} {k:ByteArray} {w:Int} (h:getE T.L k=none) (hl :(T.L.length:Int)≠T.m) :
  T.add k w={ T with sum:=T.sum+w,L:=T.L++[⟨k,w,if T.mode=2 then 0 else T.base⟩] }:=by
 unfold TabM.add;rw[h];dsimp only
 by_cases hm:T.mode=2
 ·rw[if_pos hm,if_neg hl,if_pos hm]
 ·rw[if_neg hm,if_neg hm]
  cases hx:minE T.L with
  | none=>rfl
  | some x=>dsimp only;rw[if_neg hl]
theorem I1_ {T:TabM} {k:ByteArray} {w:Int} {x:Ent} (h:getE T.L k=none) (hm:T.mode≠2) (hl :(T.L.length:Int)=T.m) (hx:minE T.L=some x) :
  T.add k w={ T with sum:=T.sum+w,base:=x.cnt,L:=delE T.L x.key++[⟨k,w,x.cnt⟩] }:=by
 unfold TabM.add;rw[h];dsimp only;rw[if_neg hm,hx];dsimp only;rw[if_pos hl]
theorem Ob_ (T:TabM) (k:ByteArray) (w:Int) :(T.add k w).mode=T.mode∧(T.add k w).m=T.m∧(T.add k w).sum=T.sum+w:=by
 unfold TabM.add
 cases getE T.L k with
 | some e=>exact⟨rfl,rfl,rfl⟩
 | none=>
  dsimp only
  split
  ·split <;> exact⟨rfl,rfl,rfl⟩
  ·cases minE T.L with
   | none=>exact⟨rfl,rfl,rfl⟩
   | some x=>dsimp only;split <;> exact⟨rfl,rfl,rfl⟩
theorem Bu_.add {T:TabM} (h:Bu_ T) {k:ByteArray} {w:Int} (hk:0<k.size∧k.size≤255) (hw:1≤w) (hs:T.sum+w≤mostW):Bu_ (T.add k w):=by
 have hb:=h.base
 cases hg:getE T.L k with
 | some e=>
  rw[Jw_ hg];obtain⟨he,hek⟩:=A4_ hg;have h1:=h.ents.own e he;have h2:=h.ents.slack e he;have h3:=h.cnt e he;refine⟨h.mode,h.m,(h.ents.del k).snoc (cp_ h.ents.nodup k) hk (by dsimp only;omega) h2,?_,⟨hb.1,by dsimp only;omega⟩,hs,?_,?_,fun hm x hx=>(ma_ hx).elim (fun hx=>h.zero hm x (Be_ hx)) fun hx=>by rw[ms_ hx];exact h.zero hm e he⟩
  ·have:=C7_ hg;have:=h.len;simp;omega
  ·intro x hx
   rcases ma_ hx with hx|hx
   ·have h4:=h.cnt x (Be_ hx)
    simp only[TabM.fix,Ent.cnt] at *
    split at h4 <;> simp_all <;> omega
   ·rw[ms_ hx]
    simp only[TabM.fix,Ent.cnt] at *
    split at h3 <;> simp_all <;> omega
  ·intro hm x hx
   rcases ma_ hx with hx|hx
   ·exact h.low hm x (Be_ hx)
   ·have h4:=h.low hm e he
    rw[ms_ hx];simp only[Ent.cnt] at *
    omega
 | none=>
  have hkn:k∉keysE T.L:=Cs_.1 hg
  rcases addNo h k w with⟨hm,hl⟩ |⟨hl⟩ |⟨hm,hl,x,hx⟩
  ·rw[Jj_ hg hm hl]
   have hd:=Kq_ T.L w;have hp:=minOwn_pos hw h.ents.own
   have hc:∀x∈T.L,x.own+T.base≤T.sum:=fun x hx=>by have:=h.cnt x hx;rw[fix2 hm] at this;exact this
   have hlen:=Fx_ T.L (minOwn T.L w)
   have hno:k∉keysE (cutE T.L (minOwn T.L w)):=fun hx=>hkn ((Ex_ _ _).subset hx)
   have hcut:∀e∈cutE T.L (minOwn T.L w),e.own+(T.base+minOwn T.L w)≤T.sum+w:=fun e he=>by
    obtain⟨x,hx,rfl,_⟩:=Ju_ he
    have:=hc x hx
    dsimp only;omega
   have hC:=h.ents.cut (minOwn T.L w)
   have hlt:w-minOwn T.L w>0→(cutE T.L (minOwn T.L w)).length<T.L.length:=fun hlt=>by
    have hex:∃e∈T.L,e.own≤minOwn T.L w:=by
     have:∀(L:List Ent) (w:Int),minOwn L w=w∨∃e∈L,e.own=minOwn L w:=by
      intro L
      induction L with
      | nil=>intro w;exact .inl rfl
      | cons a L ih=>
       intro w;have e1:minOwn (a::L) w=minOwn L (min w a.own):=rfl;rw[e1]
       rcases ih (min w a.own) with h1 |⟨e,he,h1⟩
       ·by_cases hwa:w≤a.own
        ·exact .inl (by omega)
        ·exact .inr ⟨a,by simp,by omega⟩
       ·exact .inr ⟨e,List.mem_cons_of_mem _ he,h1⟩
     rcases this T.L w with h1 |⟨e,he,h1⟩
     ·omega
     ·exact⟨e,he,by omega⟩
    obtain⟨e,he,hle⟩:=hex;generalize minOwn T.L w=d at *
    have key:∀L:List Ent,e∈L→(cutE L d).length<L.length:=by
     intro L
     induction L with
     | nil=>intro h;simp at h
     | cons a L ih=>
      intro h
      have:=Fx_ L d
      unfold cutE at *;rw[List.map_cons,List.filter_cons]
      rcases List.mem_cons.1 h with rfl|h
      ·rw[if_neg (by simp;omega)]
       simp only[List.length_cons];omega
      ·have:=ih h
       split <;> simp only[List.length_cons] at*<;> omega
    exact key T.L he
   generalize minOwn T.L w=d at *;refine⟨h.mode,h.m,?_,?_,by dsimp only;omega,hs,?_,fun h1=>by dsimp only at h1;omega,?_⟩
   ·dsimp only
    split
    ·exact hC.snoc hno hk (by dsimp only;omega) (Int.le_refl _)
    ·exact hC
   ·dsimp only
    split
    ·have:=hlt (by omega);simp;omega
    ·omega
   ·intro e he
    rw[fix2 (T:={ T with sum:=T.sum+w,base:=T.base+d,L:=if 0<w-d then cutE T.L d++[⟨k,w-d,0⟩] else cutE T.L d }) hm];dsimp only at he
    split at he
    ·rcases ma_ he with he|he
     ·exact hcut e he
     ·rw[ms_ he];simp only[Ent.cnt];omega
    ·exact hcut e he
   ·intro _ e he
    have hz:∀e∈cutE T.L d,e.slack=0:=fun e he=>by
     obtain⟨y,hy,rfl,_⟩:=Ju_ he;exact h.zero hm y hy
    dsimp only at he
    split at he
    ·rcases ma_ he with he|he
     ·exact hz e he
     ·rw[ms_ he]
    ·exact hz e he
  ·rw[Ey_ hg hl]
   have hlen:=h.len;refine⟨h.mode,h.m,h.ents.snoc hkn hk hw (by dsimp only;split <;> omega),by simp;omega,by dsimp only;omega,hs,?_,?_,fun hm x hx=>(ma_ hx).elim (fun hx=>h.zero hm x hx) fun hx=>by rw[ms_ hx];exact if_pos hm⟩
   ·intro x hx
    rcases ma_ hx with hx|hx
    ·have h4:=h.cnt x hx
     simp only[TabM.fix,Ent.cnt] at *
     split at h4 <;> simp_all <;> omega
    ·rw[ms_ hx]
     simp only[TabM.fix,Ent.cnt]
     split <;> simp_all <;> omega
   ·intro hm x hx
    rcases ma_ hx with hx|hx
    ·exact h.low hm x hx
    ·rw[ms_ hx]
     dsimp only at hm;simp only[Ent.cnt,if_neg (show ¬T.mode=2 by omega)]
     omega
  ·rw[I1_ hg hm hl hx]
   have hx1:=Fv_ hx;have hx2:=Rd_ hx;have hm1:T.mode=1:=h.mode.resolve_right hm;have hxg:=Ga_ h.ents.nodup hx1;have hdl:=C7_ hxg;have hxc:=h.cnt x hx1;rw[fix1 hm] at hxc;have hxp:=h.low hm1 x hx1;refine⟨h.mode,h.m,(h.ents.del _).snoc (fun he=>hkn ((Bq_ h.ents.nodup).1 he).1) hk hw (by dsimp only;omega),?_,by dsimp only;omega,hs,?_,?_,fun h2=>absurd h2 hm⟩
   ·have:=h.len;simp;omega
   ·intro e he
    rw[fix1 (T:={ T with sum:=T.sum+w,base:=x.cnt,L:=delE T.L x.key++[⟨k,w,x.cnt⟩] }) hm]
    rcases ma_ he with he|he
    ·have:=h.cnt e (Be_ he);rw[fix1 hm] at this;dsimp only;omega
    ·rw[ms_ he];simp only[Ent.cnt] at *;omega
   ·intro _ e he
    rcases ma_ he with he|he
    ·exact hx2 e (Be_ he)
    ·rw[ms_ he];simp only[Ent.cnt];omega
theorem Bu_.take {T:TabM} (h:Bu_ T) (k:ByteArray):Bu_ (T.take k):=by
 refine⟨h.mode,h.m,h.ents.del k,?_,h.base,h.sum,fun e he=>h.cnt e (Be_ he),fun hm e he=>h.low hm e (Be_ he),fun hm e he=>h.zero hm e (Be_ he)⟩
 have:=(C4_ T.L k).length_le
 have:=h.len
 show((delE T.L k).length:Int)≤T.m
 omega
theorem Gd_ (T:TabM) (k:ByteArray) (e:Ent) :(T.swapE k e).key=e.key:=by
 unfold TabM.swapE;split
 ·rfl
 ·split <;> rfl
theorem Su_ (T:TabM) (k:ByteArray) (e:Ent) :(T.swapE k e).own=e.own:=by
 unfold TabM.swapE;split
 ·rfl
 ·split <;> rfl
theorem Bu_.swap {T:TabM} (h:Bu_ T) {k:ByteArray} {x e:Ent} (hx:getE T.L k=some x) (hok:T.swapOk x e) (hk:0<e.key.size∧e.key.size≤255) (ho:1≤e.own) (hsl:0≤e.slack) (hn:e.key∉keysE T.L):Bu_ (T.swap k e):=by
 obtain⟨hxm,hxk⟩:=A4_ hx;have hdl:=C7_ hx;have hlen:=h.len;have hb:=h.base;have hc:=h.cnt x hxm
 have hn':e.key∉keysE (delE T.L k):=fun he=>hn ((Bq_ h.ents.nodup).1 he).1
 have hs:0≤(T.swapE k e).slack:=by
  unfold TabM.swapE;split
  ·simp
  ·split
   ·dsimp only;omega
   ·exact hsl
 unfold TabM.swap;refine⟨h.mode,h.m,(h.ents.del k).snoc (by rw[Gd_];exact hn') (by rw[Gd_];exact hk) (by rw[Su_];exact ho) hs,by simp;omega,hb,h.sum,?_,?_,fun hm y hy=>(ma_ hy).elim (fun hy=>h.zero hm y (Be_ hy)) fun hy=>by rw[ms_ hy];unfold TabM.swapE;rw[if_pos hm]⟩
 ·intro y hy
  rcases ma_ hy with hy|hy
  ·exact h.cnt y (Be_ hy)
  ·rw[ms_ hy]
   unfold TabM.swapOk at hok;unfold TabM.fix TabM.swapE;unfold TabM.fix at hc
   by_cases hm:T.mode=2
   ·simp only[if_pos hm,Ent.cnt] at *;omega
   ·have hl:=h.low (h.mode.resolve_right hm) x hxm
    simp only[if_neg hm,Ent.cnt] at *
    split <;> (try dsimp only) <;> omega
 ·intro hm y hy
  rcases ma_ hy with hy|hy
  ·exact h.low hm y (Be_ hy)
  ·rw[ms_ hy]
   have hm2:¬T.mode=2:=by dsimp only at hm;omega
   unfold TabM.swapE;rw[if_neg hm2];simp only[Ent.cnt] at *
   split <;> (try dsimp only) <;> omega
end
end Go.Proofs.YtckmgjmeanloaaaGreat
