/-
  The statement is proved: all that it reaches, in parts.
-/
import Derived.Test.YteapahcklcldkaaGreatDoorW47
set_option maxRecDepth 100000
set_option maxHeartbeats 16000000
namespace Go.Proofs.YteapahcklcldkaaGreatDoor
open Go
theorem jf1:(fun (P:Program) (_f:FuncId) (_fn:Func) (_s:ChangeSpec) (_c:OpenClaim)=>(laidOutB P:Bool)) Tryz.pinned.checked.prog 5 Tryz.f5 Rows.topOnceSpec Rows.topOnceRow=true:=by kernel_rfl
theorem jf2:(fun (P:Program) (_f:FuncId) (_fn:Func) (_s:ChangeSpec) (_c:OpenClaim)=>(mapsRowed P:Bool)) Tryz.pinned.checked.prog 5 Tryz.f5 Rows.topOnceSpec Rows.topOnceRow=true:=by kernel_rfl
theorem aYh:(fun (P:Program) (_f:FuncId) (_fn:Func) (_s:ChangeSpec) (_c:OpenClaim)=>(P.stopsHeard:Bool)) Tryz.pinned.checked.prog 5 Tryz.f5 Rows.topOnceSpec Rows.topOnceRow=true:=by kernel_rfl
theorem aYi:(fun (P:Program) (_f:FuncId) (_fn:Func) (_s:ChangeSpec) (_c:OpenClaim)=>(P.mayEnter:Bool)) Tryz.pinned.checked.prog 5 Tryz.f5 Rows.topOnceSpec Rows.topOnceRow=true:=by kernel_rfl
end Go.Proofs.YteapahcklcldkaaGreatDoor
