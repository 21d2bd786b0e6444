/-
  The statement is proved: all that it reaches, in parts.
-/
import Derived.Test.YteapahcklcldkaaGreatDoorW02
import Derived.Deep.RegionHeld
set_option maxRecDepth 100000
set_option maxHeartbeats 16000000
namespace Go.Proofs.YteapahcklcldkaaGreatDoor.Fx
open Go.RowKit
section
variable {P:Program} {ops:Array Oper} {Q:Exit→Act→World→Prop} {md:Region.Mode}
def gM (k:Nat) (A B:World→Prop) (L:Array Bool) (w:World):Prop:=(L.getD k true=false→A w)∧B w
def eH (P:Program) (md:Region.Mode) (ops:Array Oper) (Q:Exit→Act→World→Prop) (k:Nat) (A B:World→Prop):Nat→Array Bool→Act→World→Prop
 | 0,listed,a,w=>Region.ready md ops listed=[]∧Q .normal a w
 | fuel+1,listed,a,w=>
  (Region.ready md ops listed=[]→Q .normal a w)∧
  ∀ i∈Region.ready md ops listed,wpOp P ops Q i (fun a' w'=>gM k A B (listed.setIfInBounds i true) w'∧eH P md ops Q k A B fuel (listed.setIfInBounds i true) a' w') a w
variable {k:Nat} {A B:World→Prop}
theorem sH:∀ (fuel:Nat) (listed:Array Bool) (a:Act) (w:World),eH P md ops Q k A B fuel listed a w→wpAny P md ops Q fuel listed a w
 | 0,_,_,_,h=>h
 | fuel+1,_,_,_,h=>⟨h.1,fun i hi=>wpOp_mono (fun a' w' h'=>sH fuel _ a' w' h'.2) (h.2 i hi)⟩
def Sub (L C:Array Bool):Prop:=L.size=C.size∧∀ j,L.getD j false=true→C.getD j false=true
theorem aC3 {C:Array Bool} {k:Nat} (h:C.getD k true=false):k<C.size∧C.getD k false=false:=by
 by_cases hk:k<C.size
 ·exact ⟨hk,by simpa [hk] using h⟩
 ·simp [Nat.le_of_not_lt hk] at h
theorem Sub.open {L C:Array Bool} (h:Sub L C) {k:Nat} (hk:C.getD k true=false):L.getD k true=false:=by
 obtain ⟨h1,h2⟩:=aC3 hk
 have hkL:k<L.size:=by rw [h.1];exact h1
 cases e:L.getD k false with
 | true=>rw [h.2 k e] at h2;cases h2
 | false=>simpa [hkL] using e
theorem Sub.set {L C:Array Bool} (h:Sub L C) {j:Nat} (hj:C.getD j false=true):Sub (L.setIfInBounds j true) C:=by
 refine ⟨by simpa using h.1,fun m hm=>?_⟩
 by_cases hmj:j=m
 ·subst hmj;exact hj
 ·rw [getD_set_ne false hmj] at hm;exact h.2 m hm
theorem Sub.ready {L C:Array Bool} (h:Sub L C) {i j:Nat} (hC:∀ j∈Region.ready md ops C,j=i) (hj:j∈Region.ready md ops L) (hji:j≠i):C.getD j false=true:=by
 obtain ⟨h0,o,ho,hall⟩:=mem_ready.1 hj
 obtain ⟨h1,_⟩:=aC3 h0
 cases e:C.getD j false with
 | true=>rfl
 | false=>
  refine absurd (hC j (mem_ready.2 ⟨?_,o,ho,fun x hx hb=>h.2 _ (hall x hx hb)⟩)) hji
  have:j<C.size:=by rw [← h.1];exact h1
  simpa [this] using e
theorem gM.skip {i:Nat} {L:Array Bool} {w:World} (hki:i≠k):gM k A B (L.setIfInBounds i true) w↔gM k A B L w:=by
 unfold gM
 rw [getD_set_ne true hki]
theorem aFo {i:Nat} {oi:Oper} {v:Value} (hi:ops[i]?=some oi) (hsel:∀ (j:Nat) (o:Oper) cs b,ops[j]?=some o→o.op≠.select cs b)
  (hQ:∀ c a w,Q (.panic c) (a.put oi.dst v) w→Q (.panic c) a w) (hki:i≠k) {C:Array Bool} (hC:∀ j∈Region.ready md ops C,j=i) (hk:C.getD k true=false) :
  ∀ (fuel:Nat) (listed:Array Bool) (a:Act) (w:World),
   (∀ j oj,ops[j]?=some oj→j≠i→listed.getD j true=false→(∀ e∈oj.after,Region.binds md e=true→e.on≠i)→oi.apart ops oj=true)→
   Sub listed C→i∈Region.ready md ops listed→YieldsIf P ops (fun w=>A w∧B w) oi v a→gM k A B listed w→
   eH P md ops Q k A B fuel (listed.setIfInBounds i true) (a.put oi.dst v) w→eH P md ops Q k A B (fuel+1) listed a w:=by
 intro fuel
 induction fuel with
 | zero=>
  intro listed a w _ hsub hr hy hS H
  refine ⟨fun h=>oB,fun j hj=>?_⟩
  by_cases hji:j=i
  ·exact jU
  ·have:=ready_mono hj hji
   rw [H.1] at this
   cases this
 | succ fuel ih=>
  intro listed a w hfree hsub hr hy hS H
  refine ⟨fun h=>oB,fun j hj=>?_⟩
  by_cases hji:j=i
  ·exact jU
  ·have h1:=H.2 j (ready_mono hj hji)
   obtain ⟨hjun,oj,hoj,hall⟩:=mem_ready.1 hj
   have hnot:∀ e∈oj.after,Region.binds md e=true→e.on≠i:=fun e he hb heq=>by
    have h1:=hall e he hb
    have h0:=(mem_ready.1 hr).1
    rw [heq] at h1
    rcases Nat.lt_or_ge i listed.size with h' | h'
    ·exact aPb
    ·simp [Array.getElem?_eq_none h'] at h1
   have h2:=wpOp_putIf hoj (hfree j oj hoj hji hjun hnot) (fun cs b=>hsel i oi cs b hi) (fun cs b=>hsel j oj cs b hoj) hQ hy h1
   have hfree':∀ k ok,ops[k]?=some ok→k≠i→(listed.setIfInBounds j true).getD k true=false→
     (∀ e∈ok.after,Region.binds md e=true→e.on≠i)→oi.apart ops ok=true:=fun k ok hk hki hun hno=>by
    refine hfree k ok hk hki ?_ hno
    by_cases hjk:j=k
    ·subst hjk;exact hjun
    ·exact aOl
   have hsub':=hsub.set (hsub.ready hC hj hji)
   refine wpOp_mono (fun a' w' h3=>?_) h2
   have hT:gM k A B (listed.setIfInBounds j true) w':=by
    have:=h3.2.1
    rw [Array.setIfInBounds_comm _ _ (Ne.symm hji)] at this
    exact (gM.skip hki).1 this
   refine ⟨hT,ih (listed.setIfInBounds j true) a' w' hfree' hsub' (ready_mono hr (Ne.symm hji)) h3.1 hT ?_⟩
   rw [Array.setIfInBounds_comm _ _ hji]
   exact h3.2.2
theorem aCh {i:Nat} {oi:Oper} {v:Value} (hi:ops[i]?=some oi) (hsel:∀ (j:Nat) (o:Oper) cs b,ops[j]?=some o→o.op≠.select cs b)
  (hQ:∀ c a w,Q (.panic c) (a.put oi.dst v) w→Q (.panic c) a w) (hki:i≠k) :
  ∀ (fuel:Nat) (listed:Array Bool) (a:Act) (w:World),
   (∀ j oj,ops[j]?=some oj→j≠i→listed.getD j true=false→(∀ e∈oj.after,Region.binds md e=true→e.on≠i)→oi.apart ops oj=true)→
   i∈Region.ready md ops listed→YieldsIf P ops B oi v a→gM k A B listed w→
   eH P md ops Q k A B fuel (listed.setIfInBounds i true) (a.put oi.dst v) w→eH P md ops Q k A B (fuel+1) listed a w:=by
 intro fuel
 induction fuel with
 | zero=>
  intro listed a w _ hr hy hS H
  refine ⟨fun h=>oB,fun j hj=>?_⟩
  by_cases hji:j=i
  ·exact tP
  ·have:=ready_mono hj hji
   rw [H.1] at this
   cases this
 | succ fuel ih=>
  intro listed a w hfree hr hy hS H
  refine ⟨fun h=>oB,fun j hj=>?_⟩
  by_cases hji:j=i
  ·exact tP
  ·have h1:=H.2 j (ready_mono hj hji)
   obtain ⟨hjun,oj,hoj,hall⟩:=mem_ready.1 hj
   have hnot:∀ e∈oj.after,Region.binds md e=true→e.on≠i:=fun e he hb heq=>by
    have h1:=hall e he hb
    have h0:=(mem_ready.1 hr).1
    rw [heq] at h1
    rcases Nat.lt_or_ge i listed.size with h' | h'
    ·exact aPb
    ·simp [Array.getElem?_eq_none h'] at h1
   have h2:=wpOp_putIf hoj (hfree j oj hoj hji hjun hnot) (fun cs b=>hsel i oi cs b hi) (fun cs b=>hsel j oj cs b hoj) hQ hy h1
   have hfree':∀ k ok,ops[k]?=some ok→k≠i→(listed.setIfInBounds j true).getD k true=false→
     (∀ e∈ok.after,Region.binds md e=true→e.on≠i)→oi.apart ops ok=true:=fun k ok hk hki hun hno=>by
    refine hfree k ok hk hki ?_ hno
    by_cases hjk:j=k
    ·subst hjk;exact hjun
    ·exact aOl
   refine wpOp_mono (fun a' w' h3=>?_) h2
   have hT:gM k A B (listed.setIfInBounds j true) w':=by
    have:=h3.2.1
    rw [Array.setIfInBounds_comm _ _ (Ne.symm hji)] at this
    exact (gM.skip hki).1 this
   refine ⟨hT,ih (listed.setIfInBounds j true) a' w' hfree' (ready_mono hr (Ne.symm hji)) h3.1 hT ?_⟩
   rw [Array.setIfInBounds_comm _ _ hji]
   exact h3.2.2
def ahead (md:Region.Mode) (ops:Array Oper) (i:Nat):Nat→Array Bool→Array Bool
 | 0,L=>L
 | n+1,L=>ahead md ops i n ((Region.ready md ops L).foldl (fun L j=>if j=i then L else L.setIfInBounds j true) L)
def yT (md:Region.Mode) (ops:Array Oper) (i k:Nat) (L:Array Bool):Bool:=
 let C:=ahead md ops i ops.size L
 (Region.ready md ops C).all (·==i)&&!(C.getD k true)&&(L.size==C.size)&&(List.range L.size).all fun j=>!(L.getD j false)||C.getD j false
theorem aDy {i k:Nat} {L:Array Bool} (h:yT md ops i k L=true):(∀ j∈Region.ready md ops (ahead md ops i ops.size L),j=i)∧(ahead md ops i ops.size L).getD k true=false∧Sub L (ahead md ops i ops.size L):=by
 unfold yT at h
 simp only [Bool.and_eq_true,List.all_eq_true,beq_iff_eq,Bool.not_eq_true',List.mem_range,Bool.or_eq_true] at h
 obtain ⟨⟨⟨h1,h2⟩,h3⟩,h4⟩:=h
 refine ⟨h1,h2,h3,fun j hj=>?_⟩
 by_cases hl:j<L.size
 ·rcases h4 j hl with e | e
  ·rw [e] at hj;cases hj
  ·exact e
 ·simp [Nat.le_of_not_lt hl] at hj
theorem jF {i:Nat} {oi:Oper} {v:Value} {fuel:Nat} {listed:Array Bool} {a:Act} {w:World} (hi:ops[i]?=some oi)
  (hs:Region.noSelect ops=true) (hf:Region.free md ops listed i=true) (hr:(Region.ready md ops listed).contains i=true) (hah:yT md ops i k listed=true) (hki:i≠k)
  (hQ:∀ c a w,Q (.panic c) (a.put oi.dst v) w→Q (.panic c) a w) (hw:Region.wanted oi (yielded ops a.tmps)=true) (hy:∀ w,A w→B w→(execOp a.eval oi).run P w=.ok (.value v) w) (hS:gM k A B listed w)
  (h:gM k A B (listed.setIfInBounds i true) w→eH P md ops Q k A B fuel (listed.setIfInBounds i true) (a.put oi.dst v) w):eH P md ops Q k A B (fuel+1) listed a w:=by
 obtain ⟨h1,h2,h3⟩:=aDy hah
 exact aFo hi (Region.noSelect_spec hs) hQ hki h1 h2 fuel listed a w (Region.free_spec hi hf) h3 (by simpa using hr) (.inl ⟨hw,fun w hw=>hy w hw.1 hw.2⟩) hS (h ((gM.skip hki).2 hS))
theorem vM {i:Nat} {oi:Oper} {v:Value} {fuel:Nat} {listed:Array Bool} {a:Act} {w:World} (hi:ops[i]?=some oi)
  (hs:Region.noSelect ops=true) (hf:Region.free md ops listed i=true) (hr:(Region.ready md ops listed).contains i=true) (hki:i≠k)
  (hQ:∀ c a w,Q (.panic c) (a.put oi.dst v) w→Q (.panic c) a w) (hw:Region.wanted oi (yielded ops a.tmps)=true) (hy:∀ w,B w→(execOp a.eval oi).run P w=.ok (.value v) w) (hS:gM k A B listed w)
  (h:gM k A B (listed.setIfInBounds i true) w→eH P md ops Q k A B fuel (listed.setIfInBounds i true) (a.put oi.dst v) w):eH P md ops Q k A B (fuel+1) listed a w:=
 aCh hi (Region.noSelect_spec hs) hQ hki fuel listed a w (Region.free_spec hi hf) (by simpa using hr) (.inl ⟨hw,hy⟩) hS (h ((gM.skip hki).2 hS))
theorem bC {listed:Array Bool} {a:Act} {w:World} (hr:Region.ready md ops listed=[]) (h:Q .normal a w) :
  ∀ fuel,eH P md ops Q k A B fuel listed a w
 | 0=>⟨hr,h⟩
 | _+1=>⟨fun _=>h,by rw [hr];simp⟩
theorem aK1 {i:Nat} {oi:Oper} {fuel:Nat} {listed:Array Bool} {a:Act} {w:World} (hi:ops[i]?=some oi) (hr:Region.ready md ops listed=[i])
  (h:∀ K':Act→World→Prop,Shut (∀ a w,gM k A B (listed.setIfInBounds i true) w→(gM k A B (listed.setIfInBounds i true) w→eH P md ops Q k A B fuel (listed.setIfInBounds i true) a w)→K' a w)→if Region.wanted oi (yielded ops a.tmps)=true then Oper.wp P oi a w K' Q else K' (a.put oi.dst undef) w):eH P md ops Q k A B (fuel+1) listed a w:=by
 refine ⟨fun e=>(by rw [hr] at e;cases e),fun j hj=>?_⟩
 rw [hr] at hj
 obtain rfl:=List.mem_singleton.1 hj
 exact wpOp_step hi (fun K' hK=>h K' (fun a w hS hW=>hK a w ⟨hS,hW hS⟩))
theorem aBw {i i2:Nat} {oi oi2:Oper} {fuel:Nat} {listed:Array Bool} {a:Act} {w:World} (hi:ops[i]?=some oi) (hi2:ops[i2]?=some oi2) (hr:Region.ready md ops listed=[i,i2])
  (h:∀ K':Act→World→Prop,Shut (∀ a w,gM k A B (listed.setIfInBounds i true) w→(gM k A B (listed.setIfInBounds i true) w→eH P md ops Q k A B fuel (listed.setIfInBounds i true) a w)→K' a w)→if Region.wanted oi (yielded ops a.tmps)=true then Oper.wp P oi a w K' Q else K' (a.put oi.dst undef) w)
  (h2:∀ K':Act→World→Prop,Shut (∀ a w,gM k A B (listed.setIfInBounds i2 true) w→(gM k A B (listed.setIfInBounds i2 true) w→eH P md ops Q k A B fuel (listed.setIfInBounds i2 true) a w)→K' a w)→if Region.wanted oi2 (yielded ops a.tmps)=true then Oper.wp P oi2 a w K' Q else K' (a.put oi2.dst undef) w):eH P md ops Q k A B (fuel+1) listed a w:=by
 refine ⟨fun e=>(by rw [hr] at e;cases e),fun j hj=>?_⟩
 rw [hr] at hj
 simp only [List.mem_cons,List.mem_nil_iff,or_false] at hj
 rcases hj with rfl | rfl
 ·exact wpOp_step hi (fun K' hK=>h K' (fun a w hS hW=>hK a w ⟨hS,hW hS⟩))
 ·exact wpOp_step hi2 (fun K' hK=>h2 K' (fun a w hS hW=>hK a w ⟨hS,hW hS⟩))
def nK (P:Program) (md:Region.Mode) (ops:Array Oper) (Q:Exit→Act→World→Prop) (k:Nat) (A B:World→Prop) (fuel:Nat) (listed:Array Bool) (a:Act) (w:World) (rs:List Nat):Prop:=
 ∀ i∈rs,wpOp P ops Q i (fun a' w'=>gM k A B (listed.setIfInBounds i true) w'∧eH P md ops Q k A B fuel (listed.setIfInBounds i true) a' w') a w
theorem nK.nil {fuel:Nat} {listed:Array Bool} {a:Act} {w:World}:nK P md ops Q k A B fuel listed a w []:=fun _ h=>by cases h
theorem nK.cons {fuel:Nat} {listed:Array Bool} {a:Act} {w:World} {i:Nat} {o:Oper} {rs:List Nat} (ho:ops[i]?=some o)
  (h:∀ K':Act→World→Prop,Shut (∀ a w,gM k A B (listed.setIfInBounds i true) w→(gM k A B (listed.setIfInBounds i true) w→eH P md ops Q k A B fuel (listed.setIfInBounds i true) a w)→K' a w)→if Region.wanted o (yielded ops a.tmps)=true then Oper.wp P o a w K' Q else K' (a.put o.dst undef) w)
  (hs:nK P md ops Q k A B fuel listed a w rs):nK P md ops Q k A B fuel listed a w (i::rs):=fun j hj=>by
 rcases List.mem_cons.1 hj with rfl | hj
 ·exact wpOp_step ho (fun K' hK=>h K' (fun a w hS hW=>hK a w ⟨hS,hW hS⟩))
 ·exact hs j hj
theorem aX {id:Nat} {a:Act} {w:World} (k:Nat) (A B:World→Prop) (hm:P.follows .mixedOrders=true) (hA:A w.drew) (hB:B w.drew)
  (h:gM k A B (Array.replicate ops.size false) w.drew→eH P .any ops Q k A B ops.size (Array.replicate ops.size false) a w.drew):(Code.region id ops true).wp P Q a w:=
 wp_region_any hm (sH _ _ _ _ (h ⟨fun _=>hA,hB⟩))
theorem tB (i:Nat) {oi:Oper} {v:Value} {fuel:Nat} {listed:Array Bool} {a:Act} {w:World} (hS:gM k A B listed w)
  (h:gM k A B (listed.setIfInBounds i true) w→eH P md ops Q k A B fuel (listed.setIfInBounds i true) (a.put oi.dst v) w)
  (hi:ops[i]?=some oi:=by exact rfl) (hs:Region.noSelect ops=true:=by kernel_rfl) (hf:Region.free md ops listed i=true:=by kernel_rfl) (hr:(Region.ready md ops listed).contains i=true:=by kernel_rfl) (hki:i≠k:=by decide)
  (hQ:∀ c a w,Q (.panic c) (a.put oi.dst v) w→Q (.panic c) a w:=by exact fun _ _ _ h=>h) (hw:Region.wanted oi (yielded ops a.tmps)=true:=by rfl) (hy:∀ w,B w→(execOp a.eval oi).run P w=.ok (.value v) w:=by intro w _;go_simp;first | done | with_reducible rfl):eH P md ops Q k A B (fuel+1) listed a w:=
 vM hi hs hf hr hki hQ hw hy hS h
theorem tA (i:Nat) {oi:Oper} {v:Value} {fuel:Nat} {listed:Array Bool} {a:Act} {w:World} (hS:gM k A B listed w)
  (h:gM k A B (listed.setIfInBounds i true) w→eH P md ops Q k A B fuel (listed.setIfInBounds i true) (a.put oi.dst v) w)
  (hi:ops[i]?=some oi:=by exact rfl) (hs:Region.noSelect ops=true:=by kernel_rfl) (hf:Region.free md ops listed i=true:=by kernel_rfl) (hr:(Region.ready md ops listed).contains i=true:=by kernel_rfl) (hah:yT md ops i k listed=true:=by kernel_rfl) (hki:i≠k:=by decide)
  (hQ:∀ c a w,Q (.panic c) (a.put oi.dst v) w→Q (.panic c) a w:=by exact fun _ _ _ h=>h) (hw:Region.wanted oi (yielded ops a.tmps)=true:=by rfl) (hy:∀ w,A w→B w→(execOp a.eval oi).run P w=.ok (.value v) w:=by intro w hA hB;(try dsimp only at hA);go_split_ands;go_simp;first | done | with_reducible rfl):eH P md ops Q k A B (fuel+1) listed a w:=
 jF hi hs hf hr hah hki hQ hw hy hS h
theorem tC (i:Nat) {oi:Oper} {v:Value} {fuel:Nat} {listed:Array Bool} {a:Act} {w:World} (hS:gM k A B listed w)
  (h:gM k A B (listed.setIfInBounds i true) w→eH P md ops Q k A B fuel (listed.setIfInBounds i true) (a.put oi.dst v) w)
  (hi:ops[i]?=some oi:=by exact rfl) (hs:Region.noSelect ops=true:=by kernel_rfl) (hf:Region.free md ops listed i=true:=by kernel_rfl) (hr:(Region.ready md ops listed).contains i=true:=by kernel_rfl) (hki:i≠k:=by decide)
  (hQ:∀ c a w,Q (.panic c) (a.put oi.dst v) w→Q (.panic c) a w:=by exact fun _ _ _ h=>h) (hw:Region.wanted oi (yielded ops a.tmps)=true:=by rfl) (hy:∀ w,B w→(execOp a.eval oi).run P w=.ok (.value v) w:=by intro w hB;(try dsimp only at hB);go_split_ands;go_simp;first | done | with_reducible rfl):eH P md ops Q k A B (fuel+1) listed a w:=
 vM hi hs hf hr hki hQ hw hy hS h
theorem tO (i:Nat) {oi:Oper} {fuel:Nat} {listed:Array Bool} {a:Act} {w:World}
  (h:∀ K':Act→World→Prop,Shut (∀ a w,gM k A B (listed.setIfInBounds i true) w→(gM k A B (listed.setIfInBounds i true) w→eH P md ops Q k A B fuel (listed.setIfInBounds i true) a w)→K' a w)→if Region.wanted oi (yielded ops a.tmps)=true then Oper.wp P oi a w K' Q else K' (a.put oi.dst undef) w)
  (hi:ops[i]?=some oi:=by exact rfl) (hr:Region.ready md ops listed=[i]:=by kernel_rfl):eH P md ops Q k A B (fuel+1) listed a w:=aK1 hi hr h
end
end Go.Proofs.YteapahcklcldkaaGreatDoor.Fx
