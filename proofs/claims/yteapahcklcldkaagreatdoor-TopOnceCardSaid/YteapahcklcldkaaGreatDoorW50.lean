/-
  The statement is proved: all that it reaches, in parts.
-/
import Derived.Test.YteapahcklcldkaaGreatDoorW49
set_option maxRecDepth 100000
set_option maxHeartbeats 16000000
namespace Go.Proofs.YteapahcklcldkaaGreatDoor
open Go
theorem aNe {P:Program} (h:(P.funcs.toList.any Func.goes)=false) (f:FuncId):P.goes f=false:=by
 have h1:∀ g:FuncId,(P.funcs[g]?).any Func.goes=false:=by
  intro g
  cases hg:P.funcs[g]? with
  | none=>rfl
  | some fn=>
   have hm:fn∈P.funcs.toList:=Array.mem_toList_iff.2 (Array.mem_of_getElem? hg)
   rw [List.any_eq_false] at h
   have:=h fn hm
   simpa using this
 have h2:P.funcs.any Func.goes=false:=by rw [← Array.any_toList];exact h
 unfold Program.goes
 rw [h2,Bool.and_false,Bool.or_false,List.any_eq_false]
 intro g _
 rw [h1 g];decide
theorem aG1 {P:Program} {c:OpenClaim} (hs:c.start=.entering) (h:(P.funcs.toList.any Func.goes)=false):false=c.goesBy P:=by
 unfold OpenClaim.goesBy Program.goesAt Program.goesFrom
 rw [hs]
 cases P.funcNamed c.func with
 | none=>rfl
 | some f=>simp [aNe h f]
theorem aS8:(Tryz.pinned.checked.prog.funcs.toList.any Func.goes)=false:=by kernel_rfl
theorem aXa:false=Rows.topOnceRow.goesBy Tryz.pinned.checked.prog:=aG1 rfl aS8
end Go.Proofs.YteapahcklcldkaaGreatDoor
