/-
  The statement is proved: all that it reaches, in parts.
-/
import Derived.Test.YteapahcklcldkaaGreatDoorW00
import Derived.Shelf.SlIter.Nil
import Derived.Shelf.SortM.Plain
import Derived.Shelf.SortM.SortNone
import Derived.Ground.GgzProg
import Derived.Ground.SlgmProg
import Derived.Test.YteapahcklcldkaaGreatDoorProg
set_option maxRecDepth 100000
set_option maxHeartbeats 16000000
namespace Go.Proofs.YteapahcklcldkaaGreatDoor
open Go.Shelf
def sF:Go.Shelf.Ren:=⟨fun | 7=>80 | 10=>149 | n=>n,fun | 23=>137 | 26=>9 | 3=>165 | 28=>163 | 0=>0 | 27=>162 | 33=>292 | 4=>4 | n=>n,fun | n=>n⟩
theorem aDi:Go.Proofs.SlLaysZ.n7 Tryz.prog sF:={
 mixed:=aF
 f7:=⟨Tryz.f80.name,by decide,Tryz.func80.trans (congrArg some aF)⟩
 f10:=⟨Tryz.f149.name,by decide,Tryz.func149.trans (congrArg some aF)⟩
 t0:=Tryz.underlying0
 a0:=Tryz.isAgg0
 z0:=Tryz.sizeOf0
 v0:=Tryz.zeroValue0
 t4:=Tryz.underlying4
 a4:=Tryz.isAgg4
 z4:=Tryz.sizeOf4
 v4:=Tryz.zeroValue4
 t23:=Tryz.underlying137
 a23:=Tryz.isAgg137
 z23:=Tryz.sizeOf137
 v23:=Tryz.zeroValue137
 t26:=Tryz.underlying9
 a26:=Tryz.isAgg9
 z26:=Tryz.sizeOf9
 v26:=Tryz.zeroValue9
 t27:=Tryz.underlying162
 a27:=Tryz.isAgg162
 z27:=Tryz.sizeOf162
 v27:=Tryz.zeroValue162
 t28:=Tryz.underlying163
 a28:=Tryz.isAgg163
 z28:=Tryz.sizeOf163
 v28:=Tryz.zeroValue163
 t33:=Tryz.underlying292
 a33:=Tryz.isAgg292
 z33:=Tryz.sizeOf292
 v33:=Tryz.zeroValue292}
def pK:Go.Shelf.Ren:=⟨fun | 6=>79 | 8=>147 | 9=>148 | 11=>222 | 13=>224 | 12=>223 | 23=>293 | 24=>294 | 14=>284 | 15=>285 | 16=>286 | 17=>287 | 18=>288 | 19=>289 | 20=>290 | 21=>291 | 22=>292 | 25=>353 | 26=>354 | 27=>355 | 28=>356 | 29=>357 | 30=>268 | 31=>382 | n=>n,fun | 26=>9 | 28=>163 | 24=>43 | 0=>0 | 3=>3 | 37=>247 | 48=>304 | 50=>246 | 4=>4 | 40=>436 | 39=>435 | 45=>46 | 5=>5 | 9=>9 | 51=>490 | 55=>215 | 57=>516 | 58=>170 | 33=>292 | n=>n,fun | n=>n⟩
theorem xZ:Go.Proofs.SlLaysZ.n6 Tryz.prog pK:={
 mixed:=aF
 f6:=⟨Tryz.f79.name,by decide,Tryz.func79.trans (congrArg some aF)⟩
 f8:=⟨Tryz.f147.name,by decide,Tryz.func147.trans (congrArg some aF)⟩
 f11:=⟨Tryz.f222.name,by decide,Tryz.func222.trans (congrArg some aF)⟩
 t0:=Tryz.underlying0
 a0:=Tryz.isAgg0
 z0:=Tryz.sizeOf0
 v0:=Tryz.zeroValue0
 t24:=Tryz.underlying43
 a24:=Tryz.isAgg43
 z24:=Tryz.sizeOf43
 v24:=Tryz.zeroValue43
 t26:=Tryz.underlying9
 a26:=Tryz.isAgg9
 z26:=Tryz.sizeOf9
 v26:=Tryz.zeroValue9
 t28:=Tryz.underlying163
 a28:=Tryz.isAgg163
 z28:=Tryz.sizeOf163
 v28:=Tryz.zeroValue163
 i26:=by kernel_rfl}
def aBp:Go.Shelf.Ren:=⟨fun | 6=>148 | 8=>224 | 9=>223 | 19=>293 | 20=>294 | 21=>284 | 22=>285 | 23=>286 | 24=>287 | 25=>288 | 26=>289 | 27=>290 | 28=>291 | 29=>292 | 36=>353 | 31=>354 | 32=>355 | 37=>356 | 38=>357 | 39=>268 | 41=>382 | n=>n,fun | 27=>43 | 29=>9 | 3=>3 | 32=>247 | 26=>43 | 0=>0 | 44=>304 | 46=>246 | 4=>4 | 36=>436 | 35=>435 | 41=>46 | 5=>5 | 9=>9 | 53=>490 | 57=>215 | 63=>516 | 64=>170 | n=>n,fun | n=>n⟩
theorem aBo:Go.Proofs.SlLaysM.n6 Tryz.prog aBp:={
 mixed:=aF
 f6:=⟨Tryz.f148.name,by decide,Tryz.func148.trans (congrArg some aF)⟩
 f8:=Tryz.func224.trans (congrArg some aF)
 f9:=⟨Tryz.f223.name,by decide,Tryz.func223.trans (congrArg some aF)⟩
 f19:=Tryz.func293.trans (congrArg some aF)
 f20:=Tryz.func294.trans (congrArg some aF)
 f21:=⟨Tryz.f284.name,by decide,Tryz.func284.trans (congrArg some aF)⟩
 f22:=⟨Tryz.f285.name,by decide,Tryz.func285.trans (congrArg some aF)⟩
 f23:=⟨Tryz.f286.name,by decide,Tryz.func286.trans (congrArg some aF)⟩
 f24:=⟨Tryz.f287.name,by decide,Tryz.func287.trans (congrArg some aF)⟩
 f25:=⟨Tryz.f288.name,by decide,Tryz.func288.trans (congrArg some aF)⟩
 f26:=⟨Tryz.f289.name,by decide,Tryz.func289.trans (congrArg some aF)⟩
 f27:=⟨Tryz.f290.name,by decide,Tryz.func290.trans (congrArg some aF)⟩
 f28:=⟨Tryz.f291.name,by decide,Tryz.func291.trans (congrArg some aF)⟩
 f29:=⟨Tryz.f292.name,by decide,Tryz.func292.trans (congrArg some aF)⟩
 f31:=Tryz.func354.trans (congrArg some aF)
 f32:=Tryz.func355.trans (congrArg some aF)
 f36:=⟨Tryz.f353.name,by decide,Tryz.func353.trans (congrArg some aF)⟩
 f37:=⟨Tryz.f356.name,by decide,Tryz.func356.trans (congrArg some aF)⟩
 f38:=⟨Tryz.f357.name,by decide,Tryz.func357.trans (congrArg some aF)⟩
 f39:=⟨Tryz.f268.name,by decide,Tryz.func268.trans (congrArg some aF)⟩
 f41:=⟨Tryz.f382.name,by decide,Tryz.func382.trans (congrArg some aF)⟩
 t0:=Tryz.underlying0
 a0:=Tryz.isAgg0
 z0:=Tryz.sizeOf0
 v0:=Tryz.zeroValue0
 t3:=Tryz.underlying3
 a3:=Tryz.isAgg3
 z3:=Tryz.sizeOf3
 v3:=Tryz.zeroValue3
 t4:=Tryz.underlying4
 a4:=Tryz.isAgg4
 z4:=Tryz.sizeOf4
 v4:=Tryz.zeroValue4
 t5:=Tryz.underlying5
 a5:=Tryz.isAgg5
 z5:=Tryz.sizeOf5
 v5:=Tryz.zeroValue5
 t9:=Tryz.underlying9
 a9:=Tryz.isAgg9
 z9:=Tryz.sizeOf9
 v9:=Tryz.zeroValue9
 t26:=Tryz.underlying43
 a26:=Tryz.isAgg43
 z26:=Tryz.sizeOf43
 v26:=Tryz.zeroValue43
 t27:=Tryz.underlying43
 a27:=Tryz.isAgg43
 z27:=Tryz.sizeOf43
 v27:=Tryz.zeroValue43
 t29:=Tryz.underlying9
 a29:=Tryz.isAgg9
 z29:=Tryz.sizeOf9
 v29:=Tryz.zeroValue9
 t32:=Tryz.underlying247
 a32:=Tryz.isAgg247
 z32:=Tryz.sizeOf247
 v32:=Tryz.zeroValue247
 t35:=Tryz.underlying435
 a35:=Tryz.isAgg435
 z35:=Tryz.sizeOf435
 v35:=Tryz.zeroValue435
 t36:=Tryz.underlying436
 a36:=Tryz.isAgg436
 z36:=Tryz.sizeOf436
 v36:=Tryz.zeroValue436
 t41:=Tryz.underlying46
 a41:=Tryz.isAgg46
 z41:=Tryz.sizeOf46
 v41:=Tryz.zeroValue46
 t44:=Tryz.underlying304
 a44:=Tryz.isAgg304
 z44:=Tryz.sizeOf304
 v44:=Tryz.zeroValue304
 t46:=Tryz.underlying246
 a46:=Tryz.isAgg246
 z46:=Tryz.sizeOf246
 v46:=Tryz.zeroValue246
 t53:=Tryz.underlying490
 a53:=Tryz.isAgg490
 z53:=Tryz.sizeOf490
 v53:=Tryz.zeroValue490
 t57:=Tryz.underlying215
 a57:=Tryz.isAgg215
 z57:=Tryz.sizeOf215
 v57:=Tryz.zeroValue215
 t63:=Tryz.underlying516
 a63:=Tryz.isAgg516
 z63:=Tryz.sizeOf516
 v63:=Tryz.zeroValue516
 t64:=Tryz.underlying170
 a64:=Tryz.isAgg170
 z64:=Tryz.sizeOf170
 v64:=Tryz.zeroValue170}
open Go.RowKit Go.Maps Go.Sort Go.Shelf in
theorem aBq (m:Nat):AnyZ.SortsIn Tryz.prog pK Fence.wide m:=
 ⟨fun blk off cap ss W hH hblk hsz=>callsIn_wide.2 (AnyM.slices_Sort_string aBo blk off cap ss W hH hblk hsz),
  fun p cap W=>callsIn_wide.2 (AnyM.slices_Sort_string_none aBo p cap W)⟩
open Go.RowKit Go.Maps Go.Sort Go.Shelf in
theorem aWr (mb:Option Nat) (W:World):CallsIn Fence.wide 5 Tryz.prog 80 #[.map mb] W fun e w'=>e=.returned (.func (.func 149) #[] #[.pointer (some ⟨W.heap.size,0,none⟩)])∧w'=W.alloc (.cells #[.map mb] 137):=
 AnyZ.keys_in aDi Fence.wide 5 trivial rfl mb W
open Go.RowKit Go.Maps Go.Sort Go.Shelf in
theorem aR0 {H:Type} (b nn:Nat) (D0:DataW H) (R:Value→Option (DataW H×List MemPlace)) (w:World) (hown:w.ownsMap Tryz.prog 9 R b nn D0) (hmax:Maps.size D0≤maxLen) (hbytes:Maps.size D0*16≤140737488355328) :
  CallsIn Fence.wide 5 Tryz.prog 79 #[.func (.func 149) #[] #[.pointer (some ⟨w.heap.size,0,none⟩)]] (w.alloc (.cells #[.map (some b)] 137)) fun e w'=>∃ (v:Value) (ss:List (List UInt8)),e=.returned v∧ss.Perm (strKeys D0)∧
   w'.ownsRow (w.alloc (.cells #[.map (some b)] 137)).heap.size 9 1 v ss.length ((ss.mergeSort (fun x y=>decide (x≤y))).map encStr)∧(v=.slice none 0 0↔ss=[])∧Below (w.alloc (.cells #[.map (some b)] 137)).heap.size (w.alloc (.cells #[.map (some b)] 137)) w':=by
 have hbl:=hown.lt
 have hseq:SeqGives Fence.wide 2 Tryz.prog 149 #[.pointer (some ⟨w.heap.size,0,none⟩)] encStr (fun ss=>ss.Perm (strKeys D0)) (Maps.size D0) (w.alloc (.cells #[.map (some b)] 137)):=
  AnyZ.keys_gives (ρ:=sF) {aDi with} Fence.wide _ trivial rfl aA w.heap.size b nn D0 _ aK aK (by
   obtain ⟨es,clock,hb,Ft,hs,hD⟩:=hown
   exact ⟨es,clock,(Below.heap_alloc _ _ b hbl).trans hb,Ft,hs,hD⟩)
 exact AnyZ.sorted_in xZ Fence.wide 5 trivial trivial trivial trivial rfl aA (aBq _) (enters_of Tryz.func148 aF rfl) 149 #[.pointer (some ⟨w.heap.size,0,none⟩)] trivial (enters_of Tryz.func149 aF rfl) _ _ hmax hbytes _ hseq
def qY:Go.Shelf.Ren:=⟨fun | 7=>151 | 10=>225 | n=>n,fun | 23=>180 | 26=>9 | 3=>193 | 28=>163 | 0=>0 | 27=>162 | 33=>292 | 4=>4 | n=>n,fun | n=>n⟩
theorem aBn:Go.Proofs.SlLaysZ.n7 Tryz.prog qY:={
 mixed:=aF
 f7:=⟨Tryz.f151.name,by decide,Tryz.func151.trans (congrArg some aF)⟩
 f10:=⟨Tryz.f225.name,by decide,Tryz.func225.trans (congrArg some aF)⟩
 t0:=Tryz.underlying0
 a0:=Tryz.isAgg0
 z0:=Tryz.sizeOf0
 v0:=Tryz.zeroValue0
 t4:=Tryz.underlying4
 a4:=Tryz.isAgg4
 z4:=Tryz.sizeOf4
 v4:=Tryz.zeroValue4
 t23:=Tryz.underlying180
 a23:=Tryz.isAgg180
 z23:=Tryz.sizeOf180
 v23:=Tryz.zeroValue180
 t26:=Tryz.underlying9
 a26:=Tryz.isAgg9
 z26:=Tryz.sizeOf9
 v26:=Tryz.zeroValue9
 t27:=Tryz.underlying162
 a27:=Tryz.isAgg162
 z27:=Tryz.sizeOf162
 v27:=Tryz.zeroValue162
 t28:=Tryz.underlying163
 a28:=Tryz.isAgg163
 z28:=Tryz.sizeOf163
 v28:=Tryz.zeroValue163
 t33:=Tryz.underlying292
 a33:=Tryz.isAgg292
 z33:=Tryz.sizeOf292
 v33:=Tryz.zeroValue292}
open Go.RowKit Go.Maps Go.Sort Go.Shelf in
theorem aUv (mb:Option Nat) (W:World):CallsIn Fence.wide 5 Tryz.prog 151 #[.map mb] W fun e w'=>e=.returned (.func (.func 225) #[] #[.pointer (some ⟨W.heap.size,0,none⟩)])∧w'=W.alloc (.cells #[.map mb] 180):=
 AnyZ.keys_in aBn Fence.wide 5 trivial rfl mb W
open Go.RowKit Go.Maps Go.Sort Go.Shelf in
theorem aOs {H:Type} (b nn:Nat) (D0:DataW H) (R:Value→Option (DataW H×List MemPlace)) (w:World) (hown:w.ownsMap Tryz.prog 9 R b nn D0) (hmax:Maps.size D0≤maxLen) (hbytes:Maps.size D0*16≤140737488355328) :
  CallsIn Fence.wide 5 Tryz.prog 79 #[.func (.func 225) #[] #[.pointer (some ⟨w.heap.size,0,none⟩)]] (w.alloc (.cells #[.map (some b)] 180)) fun e w'=>∃ (v:Value) (ss:List (List UInt8)),e=.returned v∧ss.Perm (strKeys D0)∧
   w'.ownsRow (w.alloc (.cells #[.map (some b)] 180)).heap.size 9 1 v ss.length ((ss.mergeSort (fun x y=>decide (x≤y))).map encStr)∧(v=.slice none 0 0↔ss=[])∧Below (w.alloc (.cells #[.map (some b)] 180)).heap.size (w.alloc (.cells #[.map (some b)] 180)) w':=by
 have hbl:=hown.lt
 have hseq:SeqGives Fence.wide 2 Tryz.prog 225 #[.pointer (some ⟨w.heap.size,0,none⟩)] encStr (fun ss=>ss.Perm (strKeys D0)) (Maps.size D0) (w.alloc (.cells #[.map (some b)] 180)):=
  AnyZ.keys_gives (ρ:=qY) {aBn with} Fence.wide _ trivial rfl aA w.heap.size b nn D0 _ aK aK (by
   obtain ⟨es,clock,hb,Ft,hs,hD⟩:=hown
   exact ⟨es,clock,(Below.heap_alloc _ _ b hbl).trans hb,Ft,hs,hD⟩)
 exact AnyZ.sorted_in xZ Fence.wide 5 trivial trivial trivial trivial rfl aA (aBq _) (enters_of Tryz.func148 aF rfl) 225 #[.pointer (some ⟨w.heap.size,0,none⟩)] trivial (enters_of Tryz.func225 aF rfl) _ _ hmax hbytes _ hseq
end Go.Proofs.YteapahcklcldkaaGreatDoor
