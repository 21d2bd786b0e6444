/-
  The statement is proved: all that it reaches, in parts.
-/
import Derived.Test.YteapahcklcldkaaGreatDoorW00
import Derived.Shelf.Strings.Builder1
import Derived.Shelf.Small.Bits
import Derived.Shelf.Small.Wraps
import Derived.Shelf.Strings.BuilderF
import Derived.Shelf.Strings.BuilderK
import Derived.Shelf.Strconv.Itoa0
import Derived.Shelf.Strconv.Itoa1
import Derived.Shelf.LaysM
import Derived.Shelf.Strconv.Itoa2
import Derived.Shelf.Strconv.Itoa3
import Derived.Shelf.Strings.Prefix
import Derived.Shelf.Unicode.DecodeSlow
import Derived.Ground.SlgmProg
import Derived.Shelf.SortM.Plain
import Derived.Shelf.SortM.SortNone
import Derived.Test.YteapahcklcldkaaGreatDoorProg
set_option maxRecDepth 100000
set_option maxHeartbeats 16000000
namespace Go.Proofs.YteapahcklcldkaaGreatDoor
open Go.Shelf
def Tryz.lays169_ren:Go.Shelf.Ren:=⟨fun | 169=>296 | n=>n,fun | 70=>443 | 9=>9 | 0=>0 | 72=>445 | 37=>230 | 127=>495 | 3=>3 | 5=>5 | n=>n,fun | n=>n⟩
theorem Tryz.lays169:Go.Proofs.Lays.n169 Tryz.prog Tryz.lays169_ren:={
 mixed:=aF
 f169:=Tryz.func296.trans (congrArg some aF)
 t0:=Tryz.underlying0
 a0:=Tryz.isAgg0
 z0:=Tryz.sizeOf0
 v0:=Tryz.zeroValue0
 t3:=Tryz.underlying3
 a3:=Tryz.isAgg3
 z3:=Tryz.sizeOf3
 v3:=Tryz.zeroValue3
 t9:=Tryz.underlying9
 a9:=Tryz.isAgg9
 z9:=Tryz.sizeOf9
 v9:=Tryz.zeroValue9
 t37:=Tryz.underlying230
 a37:=Tryz.isAgg230
 z37:=Tryz.sizeOf230
 v37:=Tryz.zeroValue230
 t70:=Tryz.underlying443
 a70:=Tryz.isAgg443
 z70:=Tryz.sizeOf443
 v70:=Tryz.zeroValue443
 t72:=Tryz.underlying445
 a72:=Tryz.isAgg445
 z72:=Tryz.sizeOf445
 v72:=Tryz.zeroValue445
 t127:=Tryz.underlying495
 a127:=Tryz.isAgg495
 z127:=Tryz.sizeOf495
 v127:=Tryz.zeroValue495}
theorem Tryz.Builder_Extra_169:Builder.Extra Tryz.prog Tryz.lays169_ren:={
 sizeBuilder:=aF
 liesBuilder:=aF
 t5:=Tryz.underlying5
 a5:=Tryz.isAgg5
 z5:=Tryz.sizeOf5
 v5:=Tryz.zeroValue5
 infoByte:=aF
 cellsByte:=aF
 sizeByte:=aF
 neB5:=by decide}
open Go.RowKit in
theorem Tryz.Builder_String_any (B b:Nat) (l:List UInt8) (w:World) (h:Lib.IsBuilder 445 5 B b (Lib.byteCells l) w) (hBw:B≤w.heap.size) :
  Calls Tryz.prog 296 #[.pointer (some ⟨b,0,none⟩)] w fun e w'=>e=.returned (.string ⟨l.toArray⟩)∧Below B w w':=Any.Builder_String_any Tryz.lays169 Tryz.Builder_Extra_169 B b l w h hBw
def Tryz.lays125_ren:Go.Shelf.Ren:=⟨fun | 125=>224 | 128=>293 | 129=>294 | n=>n,fun | 46=>247 | 3=>3 | 51=>304 | 53=>246 | 4=>4 | 5=>5 | 9=>9 | n=>n,fun | n=>n⟩
theorem Tryz.lays125:Go.Proofs.Lays.n125 Tryz.prog Tryz.lays125_ren:={
 mixed:=aF
 f125:=Tryz.func224.trans (congrArg some aF)
 f128:=Tryz.func293.trans (congrArg some aF)
 f129:=Tryz.func294.trans (congrArg some aF)
 t3:=Tryz.underlying3
 a3:=Tryz.isAgg3
 z3:=Tryz.sizeOf3
 v3:=Tryz.zeroValue3
 t4:=Tryz.underlying4
 a4:=Tryz.isAgg4
 z4:=Tryz.sizeOf4
 v4:=Tryz.zeroValue4
 t5:=Tryz.underlying5
 a5:=Tryz.isAgg5
 z5:=Tryz.sizeOf5
 v5:=Tryz.zeroValue5
 t9:=Tryz.underlying9
 a9:=Tryz.isAgg9
 z9:=Tryz.sizeOf9
 v9:=Tryz.zeroValue9
 t46:=Tryz.underlying247
 a46:=Tryz.isAgg247
 z46:=Tryz.sizeOf247
 v46:=Tryz.zeroValue247
 t51:=Tryz.underlying304
 a51:=Tryz.isAgg304
 z51:=Tryz.sizeOf304
 v51:=Tryz.zeroValue304
 t53:=Tryz.underlying246
 a53:=Tryz.isAgg246
 z53:=Tryz.sizeOf246
 v53:=Tryz.zeroValue246}
theorem Tryz.bits_Len (x:Int) (w:World) (h0:0≤x) (h1:x≤18446744073709551615) :
  Calls Tryz.prog 224 #[.int .u64 x] w fun e w'=>e=.returned (.int .i64 (Lib.bitLen x.toNat))∧w'=w:=Any.bits_Len Tryz.lays125 x w h0 h1
def Tryz.lays103_ren:Go.Shelf.Ren:=⟨fun | 103=>260 | 210=>324 | 206=>259 | n=>n,fun | 9=>9 | 4=>4 | 24=>67 | 3=>3 | n=>n,fun | n=>n⟩
theorem Tryz.lays103:Go.Proofs.Lays.n103 Tryz.prog Tryz.lays103_ren:={
 mixed:=aF
 f103:=Tryz.func260.trans (congrArg some aF)
 f206:=Tryz.func259.trans (congrArg some aF)
 f210:=Tryz.func324.trans (congrArg some aF)
 t3:=Tryz.underlying3
 a3:=Tryz.isAgg3
 z3:=Tryz.sizeOf3
 v3:=Tryz.zeroValue3
 t4:=Tryz.underlying4
 a4:=Tryz.isAgg4
 z4:=Tryz.sizeOf4
 v4:=Tryz.zeroValue4
 t9:=Tryz.underlying9
 a9:=Tryz.isAgg9
 z9:=Tryz.sizeOf9
 v9:=Tryz.zeroValue9
 t24:=Tryz.underlying67
 a24:=Tryz.isAgg67
 z24:=Tryz.sizeOf67
 v24:=Tryz.zeroValue67}
open Go.RowKit in
theorem Tryz.strings_CutPrefix (s p:ByteArray) (w:World) :
  Calls Tryz.prog 260 #[.string s,.string p] w fun e w'=>e=.returned (.tuple #[.string ⟨(Lib.trimPrefix s.data.toList p.data.toList).toArray⟩,.bool (Lib.hasPrefix s.data.toList p.data.toList)])∧w'=w:=Any.strings_CutPrefix Tryz.lays103 s p w
def Tryz.lays171_ren:Go.Shelf.Ren:=⟨fun | 171=>261 | 243=>325 | 246=>368 | 283=>390 | 284=>391 | 285=>392 | 286=>393 | 129=>294 | 317=>397 | 318=>398 | 319=>399 | 320=>400 | 337=>401 | 338=>402 | n=>n,fun | 3=>3 | 9=>9 | 2=>2 | 4=>4 | 171=>525 | 0=>0 | 53=>246 | 37=>230 | 5=>5 | 173=>527 | 212=>533 | 51=>304 | 20=>20 | 213=>534 | 46=>247 | 232=>539 | 233=>540 | n=>n,fun | 17=>1 | 18=>4 | 19=>5 | n=>n⟩
theorem Tryz.lays171:Go.Proofs.Lays.n171 Tryz.prog Tryz.lays171_ren:={
 mixed:=aF
 f129:=Tryz.func294.trans (congrArg some aF)
 f171:=Tryz.func261.trans (congrArg some aF)
 f243:=Tryz.func325.trans (congrArg some aF)
 f246:=Tryz.func368.trans (congrArg some aF)
 f283:=Tryz.func390.trans (congrArg some aF)
 f284:=Tryz.func391.trans (congrArg some aF)
 f285:=Tryz.func392.trans (congrArg some aF)
 f286:=Tryz.func393.trans (congrArg some aF)
 f317:=Tryz.func397.trans (congrArg some aF)
 f318:=Tryz.func398.trans (congrArg some aF)
 f319:=Tryz.func399.trans (congrArg some aF)
 f320:=Tryz.func400.trans (congrArg some aF)
 f337:=Tryz.func401.trans (congrArg some aF)
 f338:=Tryz.func402.trans (congrArg some aF)
 t0:=Tryz.underlying0
 a0:=Tryz.isAgg0
 z0:=Tryz.sizeOf0
 v0:=Tryz.zeroValue0
 t2:=Tryz.underlying2
 a2:=Tryz.isAgg2
 z2:=Tryz.sizeOf2
 v2:=Tryz.zeroValue2
 t3:=Tryz.underlying3
 a3:=Tryz.isAgg3
 z3:=Tryz.sizeOf3
 v3:=Tryz.zeroValue3
 t4:=Tryz.underlying4
 a4:=Tryz.isAgg4
 z4:=Tryz.sizeOf4
 v4:=Tryz.zeroValue4
 t5:=Tryz.underlying5
 a5:=Tryz.isAgg5
 z5:=Tryz.sizeOf5
 v5:=Tryz.zeroValue5
 t9:=Tryz.underlying9
 a9:=Tryz.isAgg9
 z9:=Tryz.sizeOf9
 v9:=Tryz.zeroValue9
 t20:=Tryz.underlying20
 a20:=Tryz.isAgg20
 z20:=Tryz.sizeOf20
 v20:=Tryz.zeroValue20
 t37:=Tryz.underlying230
 a37:=Tryz.isAgg230
 z37:=Tryz.sizeOf230
 v37:=Tryz.zeroValue230
 t46:=Tryz.underlying247
 a46:=Tryz.isAgg247
 z46:=Tryz.sizeOf247
 v46:=Tryz.zeroValue247
 t51:=Tryz.underlying304
 a51:=Tryz.isAgg304
 z51:=Tryz.sizeOf304
 v51:=Tryz.zeroValue304
 t53:=Tryz.underlying246
 a53:=Tryz.isAgg246
 z53:=Tryz.sizeOf246
 v53:=Tryz.zeroValue246
 t171:=Tryz.underlying525
 a171:=Tryz.isAgg525
 z171:=Tryz.sizeOf525
 v171:=Tryz.zeroValue525
 t173:=Tryz.underlying527
 a173:=Tryz.isAgg527
 z173:=Tryz.sizeOf527
 v173:=Tryz.zeroValue527
 t212:=Tryz.underlying533
 a212:=Tryz.isAgg533
 z212:=Tryz.sizeOf533
 v212:=Tryz.zeroValue533
 t213:=Tryz.underlying534
 a213:=Tryz.isAgg534
 z213:=Tryz.sizeOf534
 t232:=Tryz.underlying539
 a232:=Tryz.isAgg539
 z232:=Tryz.sizeOf539
 v232:=Tryz.zeroValue539
 t233:=Tryz.underlying540
 a233:=Tryz.isAgg540
 z233:=Tryz.sizeOf540
 v233:=Tryz.zeroValue540
 g17:=aF
 g18:=aF
 g19:=by kernel_rfl}
open Go.RowKit Go.Sort Go.Lib in
theorem Tryz.strconv_Itoa_small (i:Nat) (hi:i<100) (w:World) :
  Calls Tryz.prog 261 #[.int .i64 i] w fun e w'=>e=.returned (.string ⟨(Lib.decDigits i).toArray⟩)∧w'=w:=Any.strconv_Itoa_small Tryz.lays171 i hi w
def Tryz.lays99_ren:Go.Shelf.Ren:=⟨fun | 99=>185 | 206=>259 | n=>n,fun | 9=>9 | 4=>4 | 3=>3 | n=>n,fun | n=>n⟩
theorem Tryz.lays99:Go.Proofs.Lays.n99 Tryz.prog Tryz.lays99_ren:={
 mixed:=aF
 f99:=Tryz.func185.trans (congrArg some aF)
 f206:=Tryz.func259.trans (congrArg some aF)
 t3:=Tryz.underlying3
 a3:=Tryz.isAgg3
 z3:=Tryz.sizeOf3
 v3:=Tryz.zeroValue3
 t4:=Tryz.underlying4
 a4:=Tryz.isAgg4
 z4:=Tryz.sizeOf4
 v4:=Tryz.zeroValue4
 t9:=Tryz.underlying9
 a9:=Tryz.isAgg9
 z9:=Tryz.sizeOf9
 v9:=Tryz.zeroValue9}
open Go.RowKit Go.Lib in
theorem Tryz.strings_HasPrefix (s p:ByteArray) (w:World) :
  Calls Tryz.prog 185 #[.string s,.string p] w fun e w'=>e=.returned (.bool (Lib.hasPrefix s.data.toList p.data.toList))∧w'=w:=Any.strings_HasPrefix Tryz.lays99 s p w
def Tryz.laysSlM6_f148_ren:Go.Shelf.Ren:=⟨fun | 6=>148 | 8=>224 | 9=>223 | 19=>293 | 20=>294 | 21=>284 | 22=>285 | 23=>286 | 24=>287 | 25=>288 | 26=>289 | 27=>290 | 28=>291 | 29=>292 | 36=>353 | 31=>354 | 32=>355 | 37=>356 | 38=>357 | 39=>268 | 41=>382 | n=>n,fun | 27=>43 | 29=>9 | 3=>3 | 32=>247 | 26=>43 | 0=>0 | 44=>304 | 46=>246 | 4=>4 | 36=>436 | 35=>435 | 41=>46 | 5=>5 | 9=>9 | 53=>490 | 57=>215 | 63=>516 | 64=>170 | n=>n,fun | n=>n⟩
theorem Tryz.laysSlM6_f148:Go.Proofs.SlLaysM.n6 Tryz.prog Tryz.laysSlM6_f148_ren:={
 mixed:=aF
 f6:=⟨Tryz.f148.name,by decide,Tryz.func148.trans (congrArg some aF)⟩
 f8:=Tryz.func224.trans (congrArg some aF)
 f9:=⟨Tryz.f223.name,by decide,Tryz.func223.trans (congrArg some aF)⟩
 f19:=Tryz.func293.trans (congrArg some aF)
 f20:=Tryz.func294.trans (congrArg some aF)
 f21:=⟨Tryz.f284.name,by decide,Tryz.func284.trans (congrArg some aF)⟩
 f22:=⟨Tryz.f285.name,by decide,Tryz.func285.trans (congrArg some aF)⟩
 f23:=⟨Tryz.f286.name,by decide,Tryz.func286.trans (congrArg some aF)⟩
 f24:=⟨Tryz.f287.name,by decide,Tryz.func287.trans (congrArg some aF)⟩
 f25:=⟨Tryz.f288.name,by decide,Tryz.func288.trans (congrArg some aF)⟩
 f26:=⟨Tryz.f289.name,by decide,Tryz.func289.trans (congrArg some aF)⟩
 f27:=⟨Tryz.f290.name,by decide,Tryz.func290.trans (congrArg some aF)⟩
 f28:=⟨Tryz.f291.name,by decide,Tryz.func291.trans (congrArg some aF)⟩
 f29:=⟨Tryz.f292.name,by decide,Tryz.func292.trans (congrArg some aF)⟩
 f31:=Tryz.func354.trans (congrArg some aF)
 f32:=Tryz.func355.trans (congrArg some aF)
 f36:=⟨Tryz.f353.name,by decide,Tryz.func353.trans (congrArg some aF)⟩
 f37:=⟨Tryz.f356.name,by decide,Tryz.func356.trans (congrArg some aF)⟩
 f38:=⟨Tryz.f357.name,by decide,Tryz.func357.trans (congrArg some aF)⟩
 f39:=⟨Tryz.f268.name,by decide,Tryz.func268.trans (congrArg some aF)⟩
 f41:=⟨Tryz.f382.name,by decide,Tryz.func382.trans (congrArg some aF)⟩
 t0:=Tryz.underlying0
 a0:=Tryz.isAgg0
 z0:=Tryz.sizeOf0
 v0:=Tryz.zeroValue0
 t3:=Tryz.underlying3
 a3:=Tryz.isAgg3
 z3:=Tryz.sizeOf3
 v3:=Tryz.zeroValue3
 t4:=Tryz.underlying4
 a4:=Tryz.isAgg4
 z4:=Tryz.sizeOf4
 v4:=Tryz.zeroValue4
 t5:=Tryz.underlying5
 a5:=Tryz.isAgg5
 z5:=Tryz.sizeOf5
 v5:=Tryz.zeroValue5
 t9:=Tryz.underlying9
 a9:=Tryz.isAgg9
 z9:=Tryz.sizeOf9
 v9:=Tryz.zeroValue9
 t26:=Tryz.underlying43
 a26:=Tryz.isAgg43
 z26:=Tryz.sizeOf43
 v26:=Tryz.zeroValue43
 t27:=Tryz.underlying43
 a27:=Tryz.isAgg43
 z27:=Tryz.sizeOf43
 v27:=Tryz.zeroValue43
 t29:=Tryz.underlying9
 a29:=Tryz.isAgg9
 z29:=Tryz.sizeOf9
 v29:=Tryz.zeroValue9
 t32:=Tryz.underlying247
 a32:=Tryz.isAgg247
 z32:=Tryz.sizeOf247
 v32:=Tryz.zeroValue247
 t35:=Tryz.underlying435
 a35:=Tryz.isAgg435
 z35:=Tryz.sizeOf435
 v35:=Tryz.zeroValue435
 t36:=Tryz.underlying436
 a36:=Tryz.isAgg436
 z36:=Tryz.sizeOf436
 v36:=Tryz.zeroValue436
 t41:=Tryz.underlying46
 a41:=Tryz.isAgg46
 z41:=Tryz.sizeOf46
 v41:=Tryz.zeroValue46
 t44:=Tryz.underlying304
 a44:=Tryz.isAgg304
 z44:=Tryz.sizeOf304
 v44:=Tryz.zeroValue304
 t46:=Tryz.underlying246
 a46:=Tryz.isAgg246
 z46:=Tryz.sizeOf246
 v46:=Tryz.zeroValue246
 t53:=Tryz.underlying490
 a53:=Tryz.isAgg490
 z53:=Tryz.sizeOf490
 v53:=Tryz.zeroValue490
 t57:=Tryz.underlying215
 a57:=Tryz.isAgg215
 z57:=Tryz.sizeOf215
 v57:=Tryz.zeroValue215
 t63:=Tryz.underlying516
 a63:=Tryz.isAgg516
 z63:=Tryz.sizeOf516
 v63:=Tryz.zeroValue516
 t64:=Tryz.underlying170
 a64:=Tryz.isAgg170
 z64:=Tryz.sizeOf170
 v64:=Tryz.zeroValue170}
open Go.Sort Go.RowKit in
theorem Tryz.slices_Sort_string (blk off cap:Nat) (ss:List (List UInt8)) (w:World) (hH:Holds encStr w blk off ss.toArray) (hblk:blk<w.heap.size) (hsz:ss.length<4611686018427387904) :
  Calls Tryz.prog 148 #[.slice (some ⟨blk,off,none⟩) ss.length cap] w fun e w'=>
   e=.returned (.tuple #[])∧∃ n os,w'=grow (putRow encStr (Sort.ahead w n) blk off (ss.mergeSort fun x y=>decide (x≤y)).toArray) os:=AnyM.slices_Sort_string Tryz.laysSlM6_f148 blk off cap ss w hH hblk hsz
open Go.RowKit Go.Sort in
theorem Tryz.slices_Sort_string_none (p:Option Addr) (cap:Nat) (w:World) :
  Calls Tryz.prog 148 #[.slice p 0 cap] w fun e w'=>e=.returned (.tuple #[])∧w'=w:=AnyM.slices_Sort_string_none Tryz.laysSlM6_f148 p cap w
end Go.Proofs.YteapahcklcldkaaGreatDoor
