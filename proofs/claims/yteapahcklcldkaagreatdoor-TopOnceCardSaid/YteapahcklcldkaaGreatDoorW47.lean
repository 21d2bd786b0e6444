/-
  The statement is proved: all that it reaches, in parts.
-/
import Derived.Test.YteapahcklcldkaaGreatDoorW46
import Derived.Test.YteapahcklcldkaaGreatDoorCards
import Derived.Test.YteapahcklcldkaaGreatDoorTie
import Derived.ShutString
import Derived.ChangeOld
import Derived.OpenShut
import Derived.LaidMore
import Derived.Lay
import Derived.SevenTiedAt
import Derived.Stop.Joined
set_option maxRecDepth 100000
set_option maxHeartbeats 16000000
namespace Go.Proofs.YteapahcklcldkaaGreatDoor
open Go.ChangeShapes Go.WideShapes Go.ChangeAt Go.RowKit Fx
open Go.ChangeMaps (open_string shut_string)
theorem own:ownKnob Tryz.prog.godebug=none:=by kernel_rfl
theorem aTw:laidOutB Tryz.prog=true:=by kernel_rfl
theorem sG {H:Type} {enc:TypeId×Value→H} {P:Program} (hl:laidOutB P=true) {W W':World} (hb:Below W.heap.size W W') :
  ∀ {ts:List TypeId} {vs:List Value} {ds:List (DataW H)} {ps:List MemPlace},(∀ t∈ts,P.readableRec t=true∧t<P.types.size)→
   DataW.TrodAll enc P W 0 (fun _=>true) true ts vs ds ps→DataW.TrodAll enc P W' 0 (fun b=>decide (b<W.heap.size)) true ts vs ds ps
 | [],[],[],_,_,h=>h
 | t::ts,v::vs,d::ds,_,hr,⟨p,q,h1,h2,e⟩=>by
  have lt0:∀ x∈p,x.block<W.heap.size:=by obtain ⟨m,hm⟩:=h1;exact DataW.trod_lt m _ _ _ hm
  exact ⟨p,q,Below.trod hl (hr t aK).1 (hr t aK).2 h1 hb lt0,sG hl hb (fun t ht=>hr t (by simp [ht])) h2,e⟩
 | [],[],_::_,_,_,h=>h.elim
 | [],_::_,_,_,_,h=>by cases h
 | _::_,[],_,_,_,h=>by cases h
 | _::_,_::_,[],_,_,h=>by cases h
theorem aJs:(Rows.laid_flotsam_crcc_steps:DataW Unit)=.agg (rA.map fun n=>.lit (.int .u32 ((n:Nat):Int))):=by kernel_rfl
theorem aKs:rA.length=16:=by kernel_rfl
theorem aV1:Tryz.prog.globalNamed "flotsam/crcc.steps"=some 0:=by kernel_rfl
theorem aWu:(Tryz.prog.globals[0]?).map (·.type)=some 450:=by kernel_rfl
theorem aOu {W:World} {l:List (String×DataW Unit)} (h:laidMet Tryz.prog (("flotsam/crcc.steps",Rows.laid_flotsam_crcc_steps)::l) W):bF W:=by
 intro r hr
 obtain ⟨ps,⟨g,t,cs,fuel,p,q,hg,ht,hv,hd,_,_⟩,_,_⟩:=h
 obtain rfl:=Option.some.inj (aV1.symm.trans hg)
 obtain rfl:=Option.some.inj (aWu.symm.trans ht)
 rw [aJs] at hd
 obtain ⟨xs,m,_,ex,_,hl,hel⟩:=DataW.trod_array Tryz.underlying450 hd
 have cE:Tryz.prog.cellsOf 304=1:=aF
 have hE:=hel r hr
 rw [cE,Nat.mul_one,List.getElem?_eq_getElem aA] at hE
 obtain ⟨z,e1,e2,_⟩:=DataW.trod_int Tryz.underlying304 hE
 have e3:(xs.map (·.1))=rA.map fun n=>.lit (.int .u32 ((n:Nat):Int)):=(DataW.agg.inj (Prod.mk.inj ex).1).symm
 have e4:(xs.map (·.1))[r]?=(rA.map fun n=>(DataW.lit (.int .u32 ((n:Nat):Int)):DataW Unit))[r]?:=by rw [e3]
 have hsl:=aKs
 rw [List.getElem?_map,List.getElem?_map,List.getElem?_eq_getElem (by omega:r<xs.length),List.getElem?_eq_getElem (by omega:r<rA.length),e2] at e4
 have hz:z=((stT r:Nat):Int):=by
  simp only [Option.map_some,Option.some.injEq,DataW.lit.injEq,Lit.int.injEq,true_and] at e4
  rw [e4]
  unfold stT
  rw [List.getD,List.getElem?_eq_getElem (by omega:r<rA.length)]
  rfl
 rw [World.var?_cell hg hv r,← hz]
 have:cs.toList[r]?=some (.int .u32 z):=by
  have h0:((cs.toList.drop r).take 1)[0]?=some (.int .u32 z):=by rw [e1];rfl
  simpa using h0
 simpa using this
theorem aS7:Tryz.prog.cellsOf 83=3:=by kernel_rfl
theorem aVs:Tryz.prog.cellsOf 3=1:=by kernel_rfl
theorem aS6:Tryz.prog.cellsOf 81=1:=by kernel_rfl
theorem aVh {α:Type} (l:List α) (h:l.length=3):∃ a b c,l=[a,b,c]:=by
 match l,h with
 | [a,b,c],_=>exact ⟨a,b,c,rfl⟩
theorem aRy {H:Type} {enc:TypeId×Value→H} {w:World} {base:Nat} {spare:Nat→Bool} {held:Bool} (fuel:Nat) (cs:List Value) (x:DataW H×List MemPlace) (h:DataW.trod enc Tryz.prog w base spare held fuel 83 cs=some x) :
  ∃ (l0:List Int) (a0:Option Addr) (c0:Nat) (l1:List Int) (a1:Option Addr) (c1:Nat) (c:Int),cs=[.slice a0 l0.length c0,.slice a1 l1.length c1,.int .i64 c]∧rS 1 aH0 w a0 c0 l0∧rS 1 aH0 w a1 c1 l1:=by
 obtain ⟨xs,n,_,rfl,hl,hlen,hf⟩:=DataW.trod_struct Tryz.underlying83 h
 rw [aS7] at hl
 obtain ⟨v0,v1,v2,rfl⟩:=aVh cs hl
 obtain ⟨y0,y1,y2,rfl⟩:=aVh xs hlen
 have h0:DataW.trod enc Tryz.prog w base spare held n 81 (([v0,v1,v2].drop 0).take (Tryz.prog.cellsOf 81))=some y0:=hf 0 _ rfl
 have h1:DataW.trod enc Tryz.prog w base spare held n 81 (([v0,v1,v2].drop 1).take (Tryz.prog.cellsOf 81))=some y1:=hf 1 _ rfl
 have h2:DataW.trod enc Tryz.prog w base spare held n 3 (([v0,v1,v2].drop 2).take (Tryz.prog.cellsOf 3))=some y2:=hf 2 _ rfl
 simp only [aVs,aS6] at h0 h1 h2
 obtain ⟨l0,a0,c0,e0,s0⟩:=aRo (R:=aH0) Tryz.underlying81 (n:=0) aF (fun fuel cs x h=>aL1 Tryz.underlying3 fuel cs x h) n _ _ h0
 obtain ⟨l1,a1,c1,e1,s1⟩:=aRo (R:=aH0) Tryz.underlying81 (n:=0) aF (fun fuel cs x h=>aL1 Tryz.underlying3 fuel cs x h) n _ _ h1
 obtain ⟨c,e2,_,_⟩:=DataW.trod_int Tryz.underlying3 h2
 simp at e0 e1 e2
 exact ⟨l0,a0,c0,l1,a1,c1,c,by rw [e0,e1,e2],s0,s1⟩
theorem aCa:∀ t∈([83]:List TypeId),Tryz.prog.readableRec t=true∧t<Tryz.prog.types.size:=by
 intro t ht
 simp only [List.mem_cons,List.not_mem_nil,or_false] at ht
 subst ht
 exact ⟨by kernel_rfl,of_decide_eq_true aF⟩
theorem aHn (os:Os) (started:os.Started) (H:Type) (enc:TypeId×Value→H) :
  ReturnsInHanded {} Tryz.checked os 5 .any (fun w args=>(Rows.topOnceSpec.pre enc Tryz.prog Tryz.f5 Rows.topOnceRow.domain false w args∧laidMetH Tryz.prog Rows.topOnceRow.laid w)∧sizedMet enc Tryz.prog Tryz.f5 (OpenSpec.ofChange Rows.topOnceSpec) false w args)
   (Rows.topOnceSpec.post enc Tryz.prog Tryz.f5 false true false false):=by
 refine returnsInHanded_of_change_and (C:=Tryz.checked) (X:=fun w _=>laidMetH Tryz.prog Rows.topOnceRow.laid w) (fun _ _ _ hh h=>h.of_heap hh) own started aF Tryz.func5
  (ChangeSpec.witness_shaped (enc:=enc) (C:=Tryz.checked) (os:=os) (X:=fun w _=>laidMetH Tryz.prog Rows.topOnceRow.laid w) false (World.laidAll Tryz.prog os Rows.topOnceRow.laid) #[.agg #[.slice none 0 0,.slice none 0 0,.int .i64 0]] 8 (World.laidAll_os _ _ _)
   (World.shaped_of_ZipB aF aF) aF aF aF
   (by rw [MakeChecks.laidMetH_plain _ _ _ (by kernel_rfl)];exact laidMet_laidAll _ (by kernel_rfl) (by kernel_rfl))) ?_
 intro W base args ds gs before hval0 hW hcnd _ hL _
 have hval:∀ (j:Nat) t v,Tryz.f5.params[j]?=some t→args[j]?=some v→Value.okWide Tryz.prog W .any base t v:=hval0
 have hst:bF W:=by
  rw [MakeChecks.laidMetH_plain _ _ _ aF] at hL
  exact aOu hL
 have h00:0<W.heap.size:=World.block_lt_of_cell? W _ (hst 0 aA)
 have hW':=hW
 obtain ⟨p,q,hA0,hV,rfl,hfz,hnd⟩:=hW
 have hA:DataW.TrodAll enc Tryz.prog W 0 (fun _=>true) true Tryz.f5.params.toList args.toList ds p:=hA0
 rw [Tryz.params5] at hA hval
 obtain ⟨rfl,rfl⟩:=trodVars_none hV
 have hA1:=hA
 obtain ⟨v0,vs0,d0,ds0,p0,q0,hargs,rfl,rfl,h0,r0⟩:=trodAll_cons hA
 obtain ⟨rfl,rfl,rfl⟩:=trodAll_nil r0
 obtain rfl:args=#[v0]:=by cases args;simp_all
 obtain ⟨cs0,rfl,_⟩:=okWide_struct Tryz.underlying83 (hval 0 _ v0 rfl rfl)
 obtain ⟨fuel0,hf0⟩:=h0
 obtain ⟨l0,a0,c0,l1,a1,c1,c,ecs,s0,s1⟩:=aRy fuel0 _ _ hf0
 have ecs:cs0=#[.slice a0 l0.length c0,.slice a1 l1.length c1,.int .i64 c]:=by
  have e:cs0.toList=[.slice a0 l0.length c0,.slice a1 l1.length c1,.int .i64 c]:=ecs
  cases cs0
  simp_all
 subst ecs
 clear hA0 hval0
 refine (aQ7 W a0 c0 l0 a1 c1 l1 c s0 s1 hst h00).mono fun e W' hq=>?_
 obtain ⟨rfl,hk⟩:=hq
 have bel:Below W.heap.size W W':=K0.below hk
 exact ⟨_,rfl,_,_,_,[],_,[],hW',trodAll_mk1 (shut_bool Tryz.underlying4 _),by rw [Tryz.params5];exact sG aTw bel aCa hA1,rfl,bel.frame _,fun h=>by cases h⟩
end Go.Proofs.YteapahcklcldkaaGreatDoor
