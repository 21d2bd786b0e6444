/-
  The statement is proved: all that it reaches, in parts.
-/
import Derived.Test.YteapahcklcldkaaGreatDoorW50
set_option maxRecDepth 100000
set_option maxHeartbeats 16000000
namespace Go.Proofs.YteapahcklcldkaaGreatDoor
open Go Go.ChangeShapes Go.WideShapes Go.ChangeAt Go.RowKit Fx
theorem jf0:(fun (_P:Program) (_f:FuncId) (_fn:Func) (s:ChangeSpec) (c:OpenClaim)=>(c.wf (OpenSpec.ofChange s):Bool)) Tryz.pinned.checked.prog 5 Tryz.f5 Rows.topOnceSpec Rows.topOnceRow=true:=by kernel_rfl
theorem jf3:(fun (P:Program) (_f:FuncId) (fn:Func) (_s:ChangeSpec) (_c:OpenClaim)=>(fn.params.all (P.readableRec ·):Bool)) Tryz.pinned.checked.prog 5 Tryz.f5 Rows.topOnceSpec Rows.topOnceRow=true:=by kernel_rfl
theorem jf4:(fun (P:Program) (_f:FuncId) (_fn:Func) (s:ChangeSpec) (c:OpenClaim)=>(namedTie P c.named s.vars:Bool)) Tryz.pinned.checked.prog 5 Tryz.f5 Rows.topOnceSpec Rows.topOnceRow=true:=by kernel_rfl
theorem jf5:(fun (_P:Program) (_f:FuncId) (_fn:Func) (_s:ChangeSpec) (c:OpenClaim)=>((c.stops==[]):Bool)) Tryz.pinned.checked.prog 5 Tryz.f5 Rows.topOnceSpec Rows.topOnceRow=true:=by kernel_rfl
theorem jf6:(fun (P:Program) (_f:FuncId) (_fn:Func) (_s:ChangeSpec) (_c:OpenClaim)=>((P.stops==[]):Bool)) Tryz.pinned.checked.prog 5 Tryz.f5 Rows.topOnceSpec Rows.topOnceRow=true:=by kernel_rfl
theorem jf7:(fun (_P:Program) (_f:FuncId) (_fn:Func) (_s:ChangeSpec) (c:OpenClaim)=>((c.knobs==[]):Bool)) Tryz.pinned.checked.prog 5 Tryz.f5 Rows.topOnceSpec Rows.topOnceRow=true:=by kernel_rfl
theorem jf8:(fun (P:Program) (_f:FuncId) (_fn:Func) (_s:ChangeSpec) (_c:OpenClaim)=>((P.stopKnobs==[]):Bool)) Tryz.pinned.checked.prog 5 Tryz.f5 Rows.topOnceSpec Rows.topOnceRow=true:=by kernel_rfl
theorem aX6:(fun (P:Program) (_f:FuncId) (fn:Func) (s:ChangeSpec) (c:OpenClaim)=>((c.maps==(fn.params.toList++s.plain.varTypes P).any (P.mapsRec ·)):Bool)) Tryz.pinned.checked.prog 5 Tryz.f5 Rows.topOnceSpec Rows.topOnceRow=true:=by kernel_rfl
theorem aX7:(fun (P:Program) (_f:FuncId) (fn:Func) (s:ChangeSpec) (c:OpenClaim)=>((c.ifaces==(fn.params.toList++s.plain.varTypes P).any (P.ifacesRec ·)):Bool)) Tryz.pinned.checked.prog 5 Tryz.f5 Rows.topOnceSpec Rows.topOnceRow=true:=by kernel_rfl
theorem aX8:(fun (P:Program) (_f:FuncId) (fn:Func) (_s:ChangeSpec) (c:OpenClaim)=>((c.mapsOut==P.mapsAmong fn.resultTypes.toList):Bool)) Tryz.pinned.checked.prog 5 Tryz.f5 Rows.topOnceSpec Rows.topOnceRow=true:=by kernel_rfl
theorem aX9:(fun (P:Program) (_f:FuncId) (fn:Func) (s:ChangeSpec) (c:OpenClaim)=>((c.loops==(fn.params.toList++s.plain.varTypes P).any (P.loopsFrom ·)):Bool)) Tryz.pinned.checked.prog 5 Tryz.f5 Rows.topOnceSpec Rows.topOnceRow=true:=by kernel_rfl
theorem aYa:(fun (P:Program) (_f:FuncId) (fn:Func) (s:ChangeSpec) (c:OpenClaim)=>((c.wideKeys==(fn.params.toList++s.plain.varTypes P++fn.resultTypes.toList).any (P.wideKeysFrom ·)):Bool)) Tryz.pinned.checked.prog 5 Tryz.f5 Rows.topOnceSpec Rows.topOnceRow=true:=by kernel_rfl
theorem aYb:(fun (P:Program) (_f:FuncId) (_fn:Func) (s:ChangeSpec) (_c:OpenClaim)=>(s.vars.all (P.varReadable ·):Bool)) Tryz.pinned.checked.prog 5 Tryz.f5 Rows.topOnceSpec Rows.topOnceRow=true:=by kernel_rfl
theorem aYc:(fun (P:Program) (_f:FuncId) (fn:Func) (_s:ChangeSpec) (_c:OpenClaim)=>(fn.resultTypes.all (fun t=>P.readableRec t&&decide (t<P.types.size)):Bool)) Tryz.pinned.checked.prog 5 Tryz.f5 Rows.topOnceSpec Rows.topOnceRow=true:=by kernel_rfl
theorem aYd:(fun (P:Program) (_f:FuncId) (fn:Func) (_s:ChangeSpec) (c:OpenClaim)=>((c.ifacesOut==fn.resultTypes.toList.any (P.ifacesRec ·)):Bool)) Tryz.pinned.checked.prog 5 Tryz.f5 Rows.topOnceSpec Rows.topOnceRow=true:=by kernel_rfl
theorem aYe:(fun (P:Program) (_f:FuncId) (fn:Func) (_s:ChangeSpec) (c:OpenClaim)=>((c.loopsOut==fn.resultTypes.toList.any (P.loopsFrom ·)):Bool)) Tryz.pinned.checked.prog 5 Tryz.f5 Rows.topOnceSpec Rows.topOnceRow=true:=by kernel_rfl
theorem aYf:(fun (P:Program) (_f:FuncId) (_fn:Func) (_s:ChangeSpec) (c:OpenClaim)=>((c.plainKeys==P.plainKeys):Bool)) Tryz.pinned.checked.prog 5 Tryz.f5 Rows.topOnceSpec Rows.topOnceRow=true:=by kernel_rfl
theorem aYg:(fun (_P:Program) (_f:FuncId) (_fn:Func) (_s:ChangeSpec) (c:OpenClaim)=>(c.shortTexts.isNone:Bool)) Tryz.pinned.checked.prog 5 Tryz.f5 Rows.topOnceSpec Rows.topOnceRow=true:=by kernel_rfl
theorem aYj:(fun (P:Program) (_f:FuncId) (_fn:Func) (_s:ChangeSpec) (c:OpenClaim)=>((c.lifted==P.liftsFinal):Bool)) Tryz.pinned.checked.prog 5 Tryz.f5 Rows.topOnceSpec Rows.topOnceRow=true:=by kernel_rfl
theorem aYk:(fun (P:Program) (_f:FuncId) (_fn:Func) (_s:ChangeSpec) (c:OpenClaim)=>((P.make==some c.make):Bool)) Tryz.pinned.checked.prog 5 Tryz.f5 Rows.topOnceSpec Rows.topOnceRow=true:=by kernel_rfl
theorem aYl:(fun (P:Program) (_f:FuncId) (fn:Func) (_s:ChangeSpec) (c:OpenClaim)=>((c.kinds==(if c.domain.isEmpty then [] else fn.params.toList.map fun t=>match P.underlying t with | some (.int k)=>some k | _=>none)):Bool)) Tryz.pinned.checked.prog 5 Tryz.f5 Rows.topOnceSpec Rows.topOnceRow=true:=by kernel_rfl
theorem aYm:(fun (_P:Program) (_f:FuncId) (_fn:Func) (_s:ChangeSpec) (c:OpenClaim)=>((c.pinned==c.pinnedBy):Bool)) Tryz.pinned.checked.prog 5 Tryz.f5 Rows.topOnceSpec Rows.topOnceRow=true:=by kernel_rfl
theorem aYn:(fun (P:Program) (_f:FuncId) (fn:Func) (s:ChangeSpec) (c:OpenClaim)=>((c.veiled==(fn.params.toList++s.plain.varTypes P++fn.resultTypes.toList).any (P.veiledRec ·)):Bool)) Tryz.pinned.checked.prog 5 Tryz.f5 Rows.topOnceSpec Rows.topOnceRow=true:=by kernel_rfl
theorem aYo:(fun (P:Program) (_f:FuncId) (fn:Func) (s:ChangeSpec) (c:OpenClaim)=>(c.veiledFits P fn.params.toList (fn.params.toList++s.plain.varTypes P++fn.resultTypes.toList):Bool)) Tryz.pinned.checked.prog 5 Tryz.f5 Rows.topOnceSpec Rows.topOnceRow=true:=by kernel_rfl
theorem aTu (P:Program) (f:FuncId) (fn:Func) (s:ChangeSpec) (c:OpenClaim) (h0:(c.wf (OpenSpec.ofChange s):Bool)=true) (h1:(laidOutB P:Bool)=true) (h2:(mapsRowed P:Bool)=true) (h3:(fn.params.all (P.readableRec ·):Bool)=true) (h4:(namedTie P c.named s.vars:Bool)=true) (h5:((c.stops==[]):Bool)=true) (h6:((P.stops==[]):Bool)=true) (h7:((c.knobs==[]):Bool)=true) (h8:((P.stopKnobs==[]):Bool)=true) (h9:((c.inPlace==P.inPlace f):Bool)=true) (h10:((c.unfollowed==P.unfollowed f):Bool)=true) (h11:((c.recurses==P.recurses f):Bool)=true) (h12:((c.named==P.varsNamed f):Bool)=true) (h13:((c.maps==(fn.params.toList++s.plain.varTypes P).any (P.mapsRec ·)):Bool)=true) (h14:((c.ifaces==(fn.params.toList++s.plain.varTypes P).any (P.ifacesRec ·)):Bool)=true) (h15:((c.mapsOut==P.mapsAmong fn.resultTypes.toList):Bool)=true) (h16:((c.loops==(fn.params.toList++s.plain.varTypes P).any (P.loopsFrom ·)):Bool)=true) (h17:((c.wideKeys==(fn.params.toList++s.plain.varTypes P++fn.resultTypes.toList).any (P.wideKeysFrom ·)):Bool)=true) (h18:(s.vars.all (P.varReadable ·):Bool)=true) (h19:(fn.resultTypes.all (fun t=>P.readableRec t&&decide (t<P.types.size)):Bool)=true) (h20:((c.ifacesOut==fn.resultTypes.toList.any (P.ifacesRec ·)):Bool)=true) (h21:((c.loopsOut==fn.resultTypes.toList.any (P.loopsFrom ·)):Bool)=true) (h22:((c.plainKeys==P.plainKeys):Bool)=true) (h23:(c.shortTexts.isNone:Bool)=true) (h24:(P.stopsHeard:Bool)=true) (h25:(P.mayEnter:Bool)=true) (h26:((c.lifted==P.liftsFinal):Bool)=true) (h27:((P.make==some c.make):Bool)=true) (h28:((c.kinds==(if c.domain.isEmpty then [] else fn.params.toList.map fun t=>match P.underlying t with | some (.int k)=>some k | _=>none)):Bool)=true) (h29:((c.pinned==c.pinnedBy):Bool)=true) (h30:((c.veiled==(fn.params.toList++s.plain.varTypes P++fn.resultTypes.toList).any (P.veiledRec ·)):Bool)=true) (h31:(c.veiledFits P fn.params.toList (fn.params.toList++s.plain.varTypes P++fn.resultTypes.toList):Bool)=true):joinedFacts P f fn s c=true:=by
 simp only [joinedFacts,Bool.and_eq_true]
 exact ⟨⟨⟨⟨⟨⟨⟨⟨⟨⟨⟨⟨⟨⟨⟨⟨⟨⟨⟨⟨⟨⟨⟨⟨⟨⟨⟨⟨⟨⟨⟨h0,h1⟩,h2⟩,h3⟩,h4⟩,h5⟩,h6⟩,h7⟩,h8⟩,h9⟩,h10⟩,h11⟩,h12⟩,h13⟩,h14⟩,h15⟩,h16⟩,h17⟩,h18⟩,h19⟩,h20⟩,h21⟩,h22⟩,h23⟩,h24⟩,h25⟩,h26⟩,h27⟩,h28⟩,h29⟩,h30⟩,h31⟩
theorem aXd:Rows.topOnceRow.wfByText (OpenSpec.ofChange Rows.topOnceSpec)=true:=by kernel_rfl
theorem aXc:Tryz.pinned.checked.prog.mainIs=some (true,"a9364e0ca851da0d789cf42a116332f7c1db85165bc4341156243947b44acabd".toList):=by kernel_rfl
theorem aXb:false=Tryz.pinned.checked.prog.looks []:=by kernel_rfl
theorem aV6:joinedFacts Tryz.pinned.checked.prog 5 Tryz.f5 Rows.topOnceSpec Rows.topOnceRow=true:=aTu _ _ _ _ _ jf0 jf1 jf2 jf3 jf4 jf5 jf6 jf7 jf8 jf9 aX3 aX4 aX5 aX6 aX7 aX8 aX9 aYa aYb aYc aYd aYe aYf aYg aYh aYi aYj aYk aYl aYm aYn aYo
theorem aNx:Rows.TopOnceSaid:=
 OpenClaim.holds_of_wide 5 Tryz.f5 rfl rfl rfl rfl rfl rfl rfl ⟨rfl,rfl,rfl,rfl,rfl⟩ rfl rfl rfl rfl rfl aF Tryz.func5 aV6
  (of_decide_eq_true aF) (by unfold Func.isWrapper;first | (rw [if_pos (by decide +kernel)];kernel_rfl) | (rw [if_neg (by decide +kernel)];exact ⟨rfl,rfl⟩))
  (fun os started H enc _=>aHn os started H enc)
theorem tonce_proved:Rows.TopOnceCardSaid:=
 Claim7.holds_tied_plain_at .later [] [.data,.data,.data,.data,.data,.pinned] true (true,"a9364e0ca851da0d789cf42a116332f7c1db85165bc4341156243947b44acabd") false aNx (fun _ h=>by cases h) aXd (fun _ h=>by cases h) topOnce_row_tie rfl ⟨rfl,rfl⟩ aXc rfl
  (fun f fn hf hfn=>by
   obtain rfl:f=5:=Option.some.inj ((show Tryz.prog.funcNamed "flotsam/flotsamtop.TopOnce"=some 5 by kernel_rfl).symm.trans hf) |>.symm
   obtain rfl:fn=Tryz.f5:=(Option.some.inj (Tryz.func5.symm.trans hfn)).symm
   exact ⟨aXb,fun j t ht=>by
    rw [Tryz.params5] at ht
    have hm:t∈[83]:=by simpa using Array.mem_of_getElem? ht
    have hall:([83].all fun u=>!Tryz.prog.wantsStandIn u)=true:=aF
    exact (show Tryz.prog.wantsStandIn t=false by simpa using List.all_eq_true.1 hall t hm)⟩)
  aXa
end Go.Proofs.YteapahcklcldkaaGreatDoor
