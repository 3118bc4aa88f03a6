/- Contracts of the library's functions at the given program, as far as they are used. -/
import Derived.Shelf.SlGeneric
import Derived.Shelf.SlIter.Sorted
import Derived.Shelf.SlIter.Keys
import Derived.Ground.GgzProg
import Derived.Shelf.Small.Bits
import Derived.Shelf.Small.Strs
import Derived.Shelf.Strconv.Itoa0
import Derived.Shelf.Sort.Plain
import Derived.Shelf.Slices.In.SortNone
import Derived.Test.YtckmgjmeanloaaaGreatProg
namespace Go.Proofs
open Go.Shelf
def Tryz.lays125_ren:Go.Shelf.Ren:=⟨fun | 125=>107 | 128=>145 | 129=>146|n=>n,fun | 46=>78 | 3=>3 | 51=>240 | 53=>22 | 4=>4 | 5=>5 | 9=>9|n=>n,fun|n=>n⟩
theorem Tryz.lays125:Go.Proofs.Lays.n125 Tryz.prog Tryz.lays125_ren:={
 mixed:=by kernel_rfl
 f125:=Tryz.func107.trans (congrArg some (by kernel_rfl))
 f128:=Tryz.func145.trans (congrArg some (by kernel_rfl))
 f129:=Tryz.func146.trans (congrArg some (by kernel_rfl))
 t3:=Tryz.underlying3
 a3:=Tryz.isAgg3
 z3:=Tryz.sizeOf3
 v3:=Tryz.zeroValue3
 t4:=Tryz.underlying4
 a4:=Tryz.isAgg4
 z4:=Tryz.sizeOf4
 v4:=Tryz.zeroValue4
 t5:=Tryz.underlying5
 a5:=Tryz.isAgg5
 z5:=Tryz.sizeOf5
 v5:=Tryz.zeroValue5
 t9:=Tryz.underlying9
 a9:=Tryz.isAgg9
 z9:=Tryz.sizeOf9
 v9:=Tryz.zeroValue9
 t46:=Tryz.underlying78
 a46:=Tryz.isAgg78
 z46:=Tryz.sizeOf78
 v46:=Tryz.zeroValue78
 t51:=Tryz.underlying240
 a51:=Tryz.isAgg240
 z51:=Tryz.sizeOf240
 v51:=Tryz.zeroValue240
 t53:=Tryz.underlying22
 a53:=Tryz.isAgg22
 z53:=Tryz.sizeOf22
 v53:=Tryz.zeroValue22 }
theorem Tryz.bits_Len (x:Int) (w:World) (h0:0≤x) (h1:x≤18446744073709551615) :
  Calls Tryz.prog 107 #[.int .u64 x] w fun e w'=>e=.returned (.int .i64 (Lib.bitLen x.toNat))∧w'=w:=Any.bits_Len Tryz.lays125 x w h0 h1
open Go.RowKit in
def Tryz.lays106_ren:Go.Shelf.Ren:=⟨fun | 106=>135 | 213=>172 | 265=>197|n=>n,fun | 9=>9 | 3=>3|n=>n,fun|n=>n⟩
theorem Tryz.lays106:Go.Proofs.Lays.n106 Tryz.prog Tryz.lays106_ren:={
 mixed:=by kernel_rfl
 f106:=Tryz.func135.trans (congrArg some (by kernel_rfl))
 f213:=Tryz.func172.trans (congrArg some (by kernel_rfl))
 f265:=Tryz.func197.trans (congrArg some (by kernel_rfl))
 t3:=Tryz.underlying3
 a3:=Tryz.isAgg3
 z3:=Tryz.sizeOf3
 v3:=Tryz.zeroValue3
 t9:=Tryz.underlying9
 a9:=Tryz.isAgg9
 z9:=Tryz.sizeOf9
 v9:=Tryz.zeroValue9 }
open Go.RowKit in
theorem Tryz.strings_Compare (a b:ByteArray) (w:World) :
  Calls Tryz.prog 135 #[.string a,.string b] w fun e w'=>e=.returned (.int .i64 (Lib.compareBytes a.data.toList b.data.toList))∧w'=w:=Any.strings_Compare Tryz.lays106 a b w
def Tryz.lays190_ren:Go.Shelf.Ren:=⟨fun | 190=>71 | 125=>107 | 258=>106 | 128=>145 | 129=>146 | 302=>136 | 303=>137 | 304=>138 | 305=>139 | 306=>140 | 307=>141 | 308=>142 | 309=>143 | 310=>144 | 333=>173 | 329=>174 | 330=>175 | 334=>176 | 335=>177 | 336=>178 | 344=>198|n=>n,fun | 31=>86 | 9=>9 | 3=>3 | 46=>78 | 0=>0 | 51=>240 | 53=>22 | 4=>4 | 183=>233 | 182=>232 | 131=>174 | 5=>5 | 218=>265 | 222=>268 | 228=>285 | 229=>117|n=>n,fun|n=>n⟩
theorem Tryz.lays190:Go.Proofs.Lays.n190 Tryz.prog Tryz.lays190_ren:={
 mixed:=by kernel_rfl
 f125:=Tryz.func107.trans (congrArg some (by kernel_rfl))
 f128:=Tryz.func145.trans (congrArg some (by kernel_rfl))
 f129:=Tryz.func146.trans (congrArg some (by kernel_rfl))
 f190:=Tryz.func71.trans (congrArg some (by kernel_rfl))
 f258:=Tryz.func106.trans (congrArg some (by kernel_rfl))
 f302:=Tryz.func136.trans (congrArg some (by kernel_rfl))
 f303:=Tryz.func137.trans (congrArg some (by kernel_rfl))
 f304:=Tryz.func138.trans (congrArg some (by kernel_rfl))
 f305:=Tryz.func139.trans (congrArg some (by kernel_rfl))
 f306:=Tryz.func140.trans (congrArg some (by kernel_rfl))
 f307:=Tryz.func141.trans (congrArg some (by kernel_rfl))
 f308:=Tryz.func142.trans (congrArg some (by kernel_rfl))
 f309:=Tryz.func143.trans (congrArg some (by kernel_rfl))
 f310:=Tryz.func144.trans (congrArg some (by kernel_rfl))
 f329:=Tryz.func174.trans (congrArg some (by kernel_rfl))
 f330:=Tryz.func175.trans (congrArg some (by kernel_rfl))
 f333:=Tryz.func173.trans (congrArg some (by kernel_rfl))
 f334:=Tryz.func176.trans (congrArg some (by kernel_rfl))
 f335:=Tryz.func177.trans (congrArg some (by kernel_rfl))
 f336:=Tryz.func178.trans (congrArg some (by kernel_rfl))
 f344:=Tryz.func198.trans (congrArg some (by kernel_rfl))
 t0:=Tryz.underlying0
 a0:=Tryz.isAgg0
 z0:=Tryz.sizeOf0
 v0:=Tryz.zeroValue0
 t3:=Tryz.underlying3
 a3:=Tryz.isAgg3
 z3:=Tryz.sizeOf3
 v3:=Tryz.zeroValue3
 t4:=Tryz.underlying4
 a4:=Tryz.isAgg4
 z4:=Tryz.sizeOf4
 v4:=Tryz.zeroValue4
 t5:=Tryz.underlying5
 a5:=Tryz.isAgg5
 z5:=Tryz.sizeOf5
 v5:=Tryz.zeroValue5
 t9:=Tryz.underlying9
 a9:=Tryz.isAgg9
 z9:=Tryz.sizeOf9
 v9:=Tryz.zeroValue9
 t31:=Tryz.underlying86
 a31:=Tryz.isAgg86
 z31:=Tryz.sizeOf86
 v31:=Tryz.zeroValue86
 t46:=Tryz.underlying78
 a46:=Tryz.isAgg78
 z46:=Tryz.sizeOf78
 v46:=Tryz.zeroValue78
 t51:=Tryz.underlying240
 a51:=Tryz.isAgg240
 z51:=Tryz.sizeOf240
 v51:=Tryz.zeroValue240
 t53:=Tryz.underlying22
 a53:=Tryz.isAgg22
 z53:=Tryz.sizeOf22
 v53:=Tryz.zeroValue22
 t131:=Tryz.underlying174
 a131:=Tryz.isAgg174
 z131:=Tryz.sizeOf174
 v131:=Tryz.zeroValue174
 t182:=Tryz.underlying232
 a182:=Tryz.isAgg232
 z182:=Tryz.sizeOf232
 v182:=Tryz.zeroValue232
 t183:=Tryz.underlying233
 a183:=Tryz.isAgg233
 z183:=Tryz.sizeOf233
 v183:=Tryz.zeroValue233
 t218:=Tryz.underlying265
 a218:=Tryz.isAgg265
 z218:=Tryz.sizeOf265
 v218:=Tryz.zeroValue265
 t222:=Tryz.underlying268
 a222:=Tryz.isAgg268
 z222:=Tryz.sizeOf268
 v222:=Tryz.zeroValue268
 t228:=Tryz.underlying285
 a228:=Tryz.isAgg285
 z228:=Tryz.sizeOf285
 v228:=Tryz.zeroValue285
 t229:=Tryz.underlying117
 a229:=Tryz.isAgg117
 z229:=Tryz.sizeOf117
 v229:=Tryz.zeroValue117 }
open Go.Sort Go.RowKit in
theorem Tryz.slices_Sort_string (blk off cap:Nat) (ss:List (List UInt8)) (w:World) (hH:Holds encStr w blk off ss.toArray) (hblk:blk<w.heap.size) (hsz:ss.length<4611686018427387904) :
  Calls Tryz.prog 71 #[.slice (some ⟨blk,off,none⟩) ss.length cap] w fun e w'=>
   e=.returned (.tuple #[])∧∃n os,w'=grow (putRow encStr (Sort.ahead w n) blk off (ss.mergeSort fun x y=>decide (x≤y)).toArray) os:=Any.slices_Sort_string Tryz.lays190 blk off cap ss w hH hblk hsz
open Go.RowKit Go.Sort in
theorem Tryz.slices_Sort_string_none (p:Option Addr) (cap:Nat) (w:World) :
  Calls Tryz.prog 71 #[.slice p 0 cap] w fun e w'=>e=.returned (.tuple #[])∧w'=w:=Any.slices_Sort_string_none Tryz.lays190 p cap w
def Tryz.keysS_ren:Go.Shelf.Ren:=⟨fun | 7=>34 | 10=>72|n=>n,fun | 23=>79 | 26=>9 | 3=>22 | 28=>89 | 0=>0 | 27=>88 | 33=>145 | 4=>4|n=>n,fun|n=>n⟩
theorem Tryz.keysS:Go.Proofs.SlLaysZ.n7 Tryz.prog Tryz.keysS_ren:={
 mixed:=by kernel_rfl
 f7:=⟨Tryz.f34.name,by decide,Tryz.func34.trans (congrArg some (by kernel_rfl))⟩
 f10:=⟨Tryz.f72.name,by decide,Tryz.func72.trans (congrArg some (by kernel_rfl))⟩
 t0:=Tryz.underlying0
 a0:=Tryz.isAgg0
 z0:=Tryz.sizeOf0
 v0:=Tryz.zeroValue0
 t4:=Tryz.underlying4
 a4:=Tryz.isAgg4
 z4:=Tryz.sizeOf4
 v4:=Tryz.zeroValue4
 t23:=Tryz.underlying79
 a23:=Tryz.isAgg79
 z23:=Tryz.sizeOf79
 v23:=Tryz.zeroValue79
 t26:=Tryz.underlying9
 a26:=Tryz.isAgg9
 z26:=Tryz.sizeOf9
 v26:=Tryz.zeroValue9
 t27:=Tryz.underlying88
 a27:=Tryz.isAgg88
 z27:=Tryz.sizeOf88
 v27:=Tryz.zeroValue88
 t28:=Tryz.underlying89
 a28:=Tryz.isAgg89
 z28:=Tryz.sizeOf89
 v28:=Tryz.zeroValue89
 t33:=Tryz.underlying145
 a33:=Tryz.isAgg145
 z33:=Tryz.sizeOf145
 v33:=Tryz.zeroValue145 }
def Tryz.sortedS_ren:Go.Shelf.Ren:=⟨fun | 6=>33 | 8=>70 | 9=>71 | 11=>105 | 13=>107 | 12=>106 | 23=>145 | 24=>146 | 14=>136 | 15=>137 | 16=>138 | 17=>139 | 18=>140 | 19=>141 | 20=>142 | 21=>143 | 22=>144 | 25=>173 | 26=>174 | 27=>175 | 28=>176 | 29=>177 | 30=>178 | 31=>198|n=>n,fun | 26=>9 | 28=>89 | 24=>86 | 0=>0 | 3=>3 | 37=>78 | 48=>240 | 50=>22 | 4=>4 | 40=>233 | 39=>232 | 45=>174 | 5=>5 | 9=>9 | 51=>265 | 55=>268 | 57=>285 | 58=>117 | 33=>145|n=>n,fun|n=>n⟩
theorem Tryz.sortedS:Go.Proofs.SlLaysZ.n6 Tryz.prog Tryz.sortedS_ren:={
 mixed:=by kernel_rfl
 f6:=⟨Tryz.f33.name,by decide,Tryz.func33.trans (congrArg some (by kernel_rfl))⟩
 f8:=⟨Tryz.f70.name,by decide,Tryz.func70.trans (congrArg some (by kernel_rfl))⟩
 f11:=⟨Tryz.f105.name,by decide,Tryz.func105.trans (congrArg some (by kernel_rfl))⟩
 t0:=Tryz.underlying0
 a0:=Tryz.isAgg0
 z0:=Tryz.sizeOf0
 v0:=Tryz.zeroValue0
 t24:=Tryz.underlying86
 a24:=Tryz.isAgg86
 z24:=Tryz.sizeOf86
 v24:=Tryz.zeroValue86
 t26:=Tryz.underlying9
 a26:=Tryz.isAgg9
 z26:=Tryz.sizeOf9
 v26:=Tryz.zeroValue9
 t28:=Tryz.underlying89
 a28:=Tryz.isAgg89
 z28:=Tryz.sizeOf89
 v28:=Tryz.zeroValue89
 i26:=by kernel_rfl }
end Go.Proofs
