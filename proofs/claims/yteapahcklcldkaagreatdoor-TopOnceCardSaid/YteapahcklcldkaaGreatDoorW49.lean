/-
  The statement is proved: all that it reaches, in parts.
-/
import Derived.Test.YteapahcklcldkaaGreatDoorW48
set_option maxRecDepth 100000
set_option maxHeartbeats 16000000
namespace Go.Proofs.YteapahcklcldkaaGreatDoor
open Go
theorem jf9:(fun (P:Program) (f:FuncId) (_fn:Func) (_s:ChangeSpec) (c:OpenClaim)=>((c.inPlace==P.inPlace f):Bool)) Tryz.pinned.checked.prog 5 Tryz.f5 Rows.topOnceSpec Rows.topOnceRow=true:=by kernel_rfl
theorem aX3:(fun (P:Program) (f:FuncId) (_fn:Func) (_s:ChangeSpec) (c:OpenClaim)=>((c.unfollowed==P.unfollowed f):Bool)) Tryz.pinned.checked.prog 5 Tryz.f5 Rows.topOnceSpec Rows.topOnceRow=true:=by kernel_rfl
theorem aX4:(fun (P:Program) (f:FuncId) (_fn:Func) (_s:ChangeSpec) (c:OpenClaim)=>((c.recurses==P.recurses f):Bool)) Tryz.pinned.checked.prog 5 Tryz.f5 Rows.topOnceSpec Rows.topOnceRow=true:=by kernel_rfl
theorem aX5:(fun (P:Program) (f:FuncId) (_fn:Func) (_s:ChangeSpec) (c:OpenClaim)=>((c.named==P.varsNamed f):Bool)) Tryz.pinned.checked.prog 5 Tryz.f5 Rows.topOnceSpec Rows.topOnceRow=true:=by kernel_rfl
end Go.Proofs.YteapahcklcldkaaGreatDoor
