/-
  The statement is proved: all that it reaches, in parts.
-/
import Derived.Test.YteapahcklcldkaaGreatDoorW02
import Derived.Test.YteapahcklcldkaaGreatDoorW17
set_option maxRecDepth 100000
set_option maxHeartbeats 16000000
namespace Go.Proofs.YteapahcklcldkaaGreatDoor.Tpc
open Go.RowKit Go.Maps Go.Sort Go.WideElems Go.ChangeShapes Go.WideShapes Go.ChangeMaps Fx
def iE (l:List UInt8):ByteArray:=⟨l.toArray⟩
def mD:Value→Option (DataW Unit×List MemPlace):=fun _=>some (.lit (.bool true),[])
theorem sX (s:ByteArray) (hs:s.size≤maxLen):keyOf Tryz.prog 9 (.string s)=some (.string s.data.toList):=by
 simp [keyOf,Tryz.underlying9,mapKey,hs]
theorem aEw {w:World} {mb:Nat} {L:List (ByteArray×Value)} (h:bM .string w mb L) (hs:∀ p∈L,p.1.size≤100000) (hl:L.length≤100000) :
  ∃ D0:DataW Unit,w.ownsMap Tryz.prog 9 mD mb L.length D0∧Maps.size D0=L.length∧(strKeys D0).Perm (L.map fun p=>p.1.data.toList):=by
 obtain ⟨es,clock,hb,hst,hL⟩:=h
 have hlen:es.size=L.length:=eB
 have hkey:∀ x∈es.toList,∃ p∈L,x.key=.string p.1:=fun x hx=>by
  have:(x.key,x.val)∈L.map (fun p=>(Value.string p.1,p.2)):=hL▸List.mem_map.2 ⟨x,hx,rfl⟩
  obtain ⟨p,hp,e⟩:=List.mem_map.1 this
  exact ⟨p,hp,(congrArg Prod.fst e).symm⟩
 have hrd:∀ x∈es.toList,∀ p∈L,x.key=.string p.1→rd Tryz.prog 9 mD x=some (.string p.1.data.toList,.lit (.bool true)):=fun x hx p hp e=>by
  have hk:keyOf Tryz.prog 9 x.key=some (.string p.1.data.toList):=qW
  unfold WideElems.rd
  rw [hk]
  rfl
 have hperm:((es.toList.map (rg Tryz.prog 9 mD)).foldr DataW.insert []).Perm (es.toList.map (rg Tryz.prog 9 mD)):=sorted_perm _
 refine ⟨_,⟨es,clock,hb,⟨by unfold maxLen;omega,hst,fun x hx=>?_⟩,by omega,rfl⟩,?_,?_⟩
 ·obtain ⟨p,hp,e⟩:=hkey x hx
  exact ⟨_,hrd x hx p hp e⟩
 ·show ((es.toList.map (rg Tryz.prog 9 mD)).foldr DataW.insert []).length=L.length
  rw [hperm.length_eq]
  simpa using hlen
 ·have h1:((((es.toList.map (rg Tryz.prog 9 mD)).foldr DataW.insert [])).map fun p=>Go.strOf p.1).Perm ((es.toList.map (rg Tryz.prog 9 mD)).map fun p=>Go.strOf p.1):=hperm.map _
  have h2:((es.toList.map (rg Tryz.prog 9 mD)).map fun p=>Go.strOf p.1)=L.map fun p=>p.1.data.toList:=by
   have h3:es.toList.map (fun x=>(rg Tryz.prog 9 mD x).1)=L.map fun p=>Lit.string p.1.data.toList:=by
    have h4:es.toList.map (fun x=>(rg Tryz.prog 9 mD x).1)=(es.toList.map fun x=>(x.key,x.val)).map fun p=>(match p.1 with | .string s=>Lit.string s.data.toList | _=>.bool false):=by
     rw [List.map_map]
     apply List.map_congr_left
     intro x hx
     obtain ⟨p,hp,e⟩:=hkey x hx
     simp [WideElems.rg,hrd x hx p hp e,e]
    rw [h4,hL,List.map_map]
    rfl
   have h5:=congrArg (List.map Go.strOf) h3
   rw [List.map_map,List.map_map] at h5
   rw [List.map_map]
   exact h5
  rw [h2] at h1
  exact h1
theorem uS (mb:Option Nat) (W:World):Calls Tryz.prog 151 #[.map mb] W fun e w'=>e=.returned (.func (.func 225) #[] #[.pointer (some ⟨W.heap.size,0,none⟩)])∧w'=W.alloc (.cells #[.map mb] 180):=callsIn_wide.1 (aUv mb W)
structure tY (base:Nat) (w':World) (v:Value) (ss:List ByteArray) (L:List (ByteArray×Value)):Prop where
 perm:ss.Perm (L.map (·.1))
 row:w'.ownsRow base 9 1 v ss.length (ss.map .string)
 ord:(ss.map fun s=>s.data.toList).Pairwise (fun x y=>x≤y)
 nil:v=.slice none 0 0↔ss=[]
theorem pB {w:World} {mb:Nat} {L:List (ByteArray×Value)} (h:bM .string w mb L) (hs:∀ p∈L,p.1.size≤100000) (hl:L.length≤100000) :
  Calls Tryz.prog 79 #[.func (.func 225) #[] #[.pointer (some ⟨w.heap.size,0,none⟩)]] (w.alloc (.cells #[.map (some mb)] 180)) fun e w'=>∃ v ss,e=.returned v∧tY (w.heap.size+1) w' v ss L∧K0 (w.alloc (.cells #[.map (some mb)] 180)) w':=by
 obtain ⟨D0,h1,h2,h3⟩:=aEw h hs hl
 refine (callsIn_wide.1 (aOs mb L.length D0 mD w h1 (by rw [h2];unfold maxLen;omega) (by rw [h2];omega))).mono ?_
 rintro e w' ⟨v,ss,rfl,hp,hr,hn,hb⟩
 have hperm:(ss.mergeSort (fun x y=>decide (x≤y))).Perm ss:=List.mergeSort_perm _ _
 have hlen:(ss.mergeSort (fun x y=>decide (x≤y))).length=ss.length:=hperm.length_eq
 have hid:((ss.mergeSort (fun x y=>decide (x≤y))).map iE).map (fun s=>s.data.toList)=ss.mergeSort (fun x y=>decide (x≤y)):=by
  rw [List.map_map]
  conv=>rhs;rw [← List.map_id (ss.mergeSort (fun x y=>decide (x≤y)))]
  apply List.map_congr_left
  intro x _
  simp [iE]
 have hsz:(w.alloc (.cells #[.map (some mb)] 180)).heap.size=w.heap.size+1:=aK
 refine ⟨v,(ss.mergeSort (fun x y=>decide (x≤y))).map iE,rfl,⟨?_,?_,?_,?_⟩,?_⟩
 ·have h4:((ss.mergeSort (fun x y=>decide (x≤y))).map iE).Perm ((L.map fun p=>p.1.data.toList).map iE):=(hperm.trans (hp.trans h3)).map _
  rw [List.map_map] at h4
  refine h4.trans (List.Perm.of_eq ?_)
  apply List.map_congr_left
  intro p _
  simp [iE]
 ·rw [List.length_map,hlen,List.map_map]
  rw [hsz] at hr
  exact hr
 ·rw [hid]
  have:=List.pairwise_mergeSort (le:=fun x y:List UInt8=>decide (x≤y)) (fun a b c=>by simpa using List.le_trans) (fun a b=>by simpa using List.le_total a b) ss
  exact this.imp (fun h=>of_decide_eq_true h)
 ·rw [hn]
  constructor
  ·rintro rfl;simp
  ·intro e
   have:=congrArg List.length e
   simp [hlen] at this
   exact this
 ·exact K0.of_below hb
end Go.Proofs.YteapahcklcldkaaGreatDoor.Tpc
