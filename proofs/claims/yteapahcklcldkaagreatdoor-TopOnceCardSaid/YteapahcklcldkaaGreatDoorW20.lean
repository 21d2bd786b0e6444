/-
  The statement is proved: all that it reaches, in parts.
-/
import Derived.Test.YteapahcklcldkaaGreatDoorW17
import Derived.Test.YteapahcklcldkaaGreatDoorW19
set_option maxRecDepth 100000
set_option maxHeartbeats 16000000
namespace Go.Proofs.YteapahcklcldkaaGreatDoor.Dsk
open Go.RowKit Go.Maps Go.Sort Go.WideElems Go.ChangeShapes Go.WideShapes Go.ChangeMaps Fx
def iE (l:List UInt8):ByteArray:=⟨l.toArray⟩
def mD:Value→Option (DataW Unit×List MemPlace):=fun _=>some (.lit (.bool true),[])
theorem sX (s:ByteArray) (hs:s.size≤maxLen):keyOf Tryz.prog 9 (.string s)=some (.string s.data.toList):=by
 simp [keyOf,Tryz.underlying9,mapKey,hs]
theorem aEw {w:World} {mb:Nat} {L:List (ByteArray×Value)} (h:bM .string w mb L) (hs:∀ p∈L,p.1.size≤100000) (hl:L.length≤100000) :
  ∃ D0:DataW Unit,w.ownsMap Tryz.prog 9 mD mb L.length D0∧Maps.size D0=L.length∧(strKeys D0).Perm (L.map fun p=>p.1.data.toList):=by
 obtain ⟨es,clock,hb,hst,hL⟩:=h
 have hlen:es.size=L.length:=eB
 have hkey:∀ x∈es.toList,∃ p∈L,x.key=.string p.1:=fun x hx=>by
  have:(x.key,x.val)∈L.map (fun p=>(Value.string p.1,p.2)):=hL▸List.mem_map.2 ⟨x,hx,rfl⟩
  obtain ⟨p,hp,e⟩:=List.mem_map.1 this
  exact ⟨p,hp,(congrArg Prod.fst e).symm⟩
 have hrd:∀ x∈es.toList,∀ p∈L,x.key=.string p.1→rd Tryz.prog 9 mD x=some (.string p.1.data.toList,.lit (.bool true)):=fun x hx p hp e=>by
  have hk:keyOf Tryz.prog 9 x.key=some (.string p.1.data.toList):=qW
  unfold WideElems.rd
  rw [hk]
  rfl
 have hperm:((es.toList.map (rg Tryz.prog 9 mD)).foldr DataW.insert []).Perm (es.toList.map (rg Tryz.prog 9 mD)):=sorted_perm _
 refine ⟨_,⟨es,clock,hb,⟨by unfold maxLen;omega,hst,fun x hx=>?_⟩,by omega,rfl⟩,?_,?_⟩
 ·obtain ⟨p,hp,e⟩:=hkey x hx
  exact ⟨_,hrd x hx p hp e⟩
 ·show ((es.toList.map (rg Tryz.prog 9 mD)).foldr DataW.insert []).length=L.length
  rw [hperm.length_eq]
  simpa using hlen
 ·have h1:((((es.toList.map (rg Tryz.prog 9 mD)).foldr DataW.insert [])).map fun p=>Go.strOf p.1).Perm ((es.toList.map (rg Tryz.prog 9 mD)).map fun p=>Go.strOf p.1):=hperm.map _
  have h2:((es.toList.map (rg Tryz.prog 9 mD)).map fun p=>Go.strOf p.1)=L.map fun p=>p.1.data.toList:=by
   have h3:es.toList.map (fun x=>(rg Tryz.prog 9 mD x).1)=L.map fun p=>Lit.string p.1.data.toList:=by
    have h4:es.toList.map (fun x=>(rg Tryz.prog 9 mD x).1)=(es.toList.map fun x=>(x.key,x.val)).map fun p=>(match p.1 with | .string s=>Lit.string s.data.toList | _=>.bool false):=by
     rw [List.map_map]
     apply List.map_congr_left
     intro x hx
     obtain ⟨p,hp,e⟩:=hkey x hx
     simp [WideElems.rg,hrd x hx p hp e,e]
    rw [h4,hL,List.map_map]
    rfl
   have h5:=congrArg (List.map Go.strOf) h3
   rw [List.map_map,List.map_map] at h5
   rw [List.map_map]
   exact h5
  rw [h2] at h1
  exact h1
theorem uS (mb:Option Nat) (W:World):Calls Tryz.prog 80 #[.map mb] W fun e w'=>e=.returned (.func (.func 149) #[] #[.pointer (some ⟨W.heap.size,0,none⟩)])∧w'=W.alloc (.cells #[.map mb] 137):=callsIn_wide.1 (aWr mb W)
structure tY (base:Nat) (w':World) (v:Value) (ss:List ByteArray) (L:List (ByteArray×Value)):Prop where
 perm:ss.Perm (L.map (·.1))
 row:w'.ownsRow base 9 1 v ss.length (ss.map .string)
 ord:(ss.map fun s=>s.data.toList).Pairwise (fun x y=>x≤y)
 nil:v=.slice none 0 0↔ss=[]
theorem pB {w:World} {mb:Nat} {L:List (ByteArray×Value)} (h:bM .string w mb L) (hs:∀ p∈L,p.1.size≤100000) (hl:L.length≤100000) :
  Calls Tryz.prog 79 #[.func (.func 149) #[] #[.pointer (some ⟨w.heap.size,0,none⟩)]] (w.alloc (.cells #[.map (some mb)] 137)) fun e w'=>∃ v ss,e=.returned v∧tY (w.heap.size+1) w' v ss L∧K0 (w.alloc (.cells #[.map (some mb)] 137)) w':=by
 obtain ⟨D0,h1,h2,h3⟩:=aEw h hs hl
 refine (callsIn_wide.1 (aR0 mb L.length D0 mD w h1 (by rw [h2];unfold maxLen;omega) (by rw [h2];omega))).mono ?_
 rintro e w' ⟨v,ss,rfl,hp,hr,hn,hb⟩
 have hperm:(ss.mergeSort (fun x y=>decide (x≤y))).Perm ss:=List.mergeSort_perm _ _
 have hlen:(ss.mergeSort (fun x y=>decide (x≤y))).length=ss.length:=hperm.length_eq
 have hid:((ss.mergeSort (fun x y=>decide (x≤y))).map iE).map (fun s=>s.data.toList)=ss.mergeSort (fun x y=>decide (x≤y)):=by
  rw [List.map_map]
  conv=>rhs;rw [← List.map_id (ss.mergeSort (fun x y=>decide (x≤y)))]
  apply List.map_congr_left
  intro x _
  simp [iE]
 have hsz:(w.alloc (.cells #[.map (some mb)] 137)).heap.size=w.heap.size+1:=aK
 refine ⟨v,(ss.mergeSort (fun x y=>decide (x≤y))).map iE,rfl,⟨?_,?_,?_,?_⟩,?_⟩
 ·have h4:((ss.mergeSort (fun x y=>decide (x≤y))).map iE).Perm ((L.map fun p=>p.1.data.toList).map iE):=(hperm.trans (hp.trans h3)).map _
  rw [List.map_map] at h4
  refine h4.trans (List.Perm.of_eq ?_)
  apply List.map_congr_left
  intro p _
  simp [iE]
 ·rw [List.length_map,hlen,List.map_map]
  rw [hsz] at hr
  exact hr
 ·rw [hid]
  have:=List.pairwise_mergeSort (le:=fun x y:List UInt8=>decide (x≤y)) (fun a b c=>by simpa using List.le_trans) (fun a b=>by simpa using List.le_total a b) ss
  exact this.imp (fun h=>of_decide_eq_true h)
 ·rw [hn]
  constructor
  ·rintro rfl;simp
  ·intro e
   have:=congrArg List.length e
   simp [hlen] at this
   exact this
 ·exact K0.of_below hb
end Go.Proofs.YteapahcklcldkaaGreatDoor.Dsk
namespace Go.Proofs.YteapahcklcldkaaGreatDoor.Dsk
open Go.RowKit Fx
structure zT (w:World) (a:Option Addr) (ss:List ByteArray):Prop where
 len:ss.length≤9223372036854775807
 row:ss≠[]→∃ b,a=some ⟨b,0,none⟩∧b<w.heap.size∧∀ i (h:i<ss.length),w.cell? ⟨b,i,none⟩=some (.string ss[i])
theorem zT.keep {w w':World} {a:Option Addr} {ss:List ByteArray} (h:zT w a ss) (hk:K0 w w'):zT w' a ss:=
 ⟨h.len,fun hne=>by
  obtain ⟨b,h1,h2,h3⟩:=h.row hne
  exact ⟨b,h1,Nat.lt_of_lt_of_le h2 hk.size,fun i hi=>hk.cell' (h3 i hi) (fun e=>e)⟩⟩
theorem zT.nil (w:World) (a:Option Addr):zT w a []:=⟨by simp,fun h=>absurd rfl h⟩
theorem zT.of_own {w:World} {base:Nat} {e:TypeId} {v:Value} {ss:List ByteArray} (h:w.ownsRow base e 1 v ss.length (ss.map .string)):∃ a c,v=.slice a ss.length c∧zT w a ss∧∀ b,a=some ⟨b,0,none⟩→base≤b:=by
 have h0:=h
 rcases h.2 with ⟨rfl,h1⟩ | ⟨g,cap,cur,rfl,hb,hg,hc,hm,_⟩
 ·have h2:ss=[]:=List.eq_nil_of_length_eq_zero h1
  subst h2
  exact ⟨none,0,rfl,zT.nil _ _,fun b e=>by cases e⟩
 ·refine ⟨_,cap,rfl,⟨by unfold maxLen at hm;omega,fun _=>⟨g,rfl,aC hg,fun i hi=>?_⟩⟩,fun b e=>by cases e;exact hb⟩
  rw [h0.cellAt i aA,List.getElem?_map,List.getElem?_eq_getElem hi]
  rfl
def cR {α:Type} (L:List (ByteArray×α)):List ByteArray:=L.map (·.1)
section
variable {w0:iW} {w:World} {db mb:Nat} {D:aS} {L:List (ByteArray×(Nat×cN))}
theorem iC.small (h:iC w0 w db D mb L) (wf:fV D):∀ p∈dM mH L,p.1.size≤100000:=fun p hp=>by
 obtain ⟨q,hq,rfl⟩:=List.mem_map.1 hp
 have h1:aQ L q.1=Option.some q.2:=eO h.keys hq
 have h2:=wf.names q.1 q.2.2 (by rw [h.agetL,h1];rfl)
 show q.1.size≤_
 omega
def lX (w:World) (D:aS) (e:Ending) (w':World):Prop:=
 ∃ a c ss,e=.returned (.slice a ss.length c)∧zT w' a ss∧K0 w w'∧(D.fuse=0→ss=[])∧(¬ D.fuse=0→ss.Perm (cR D.files)∧(ss.map fun s=>s.data.toList).Pairwise fun x y=>x≤y)∧∀ b,a=some ⟨b,0,none⟩→w.heap.size≤b
theorem uU (h:iC w0 w db D mb L) (wf:fV D) (hl:D.files.length≤1000):Calls Tryz.prog 184 #[.pointer (some ⟨db,0,none⟩)] w (lX w D):=by
 have HA:=qG h
 unfold aIz at HA
 by_cases hf:D.fuse=0
 ·have HF:=Lib.hid hf
  rw [if_pos hf] at HA
  have HA:=Lib.hid HA
  clear h wf hf
  go_enter Tryz.func184,Tryz.ntmps184
  go_wp2_with fail
  refine HA.out.mono ?_
  rintro e w1 ⟨rfl,k1⟩
  have HK:=Lib.hid k1
  clear k1
  go_wp2
  go_ret
  exact ⟨none,0,[],rfl,zT.nil _ _,HK.out,fun _=>rfl,fun e=>absurd HF.out e,fun b e=>by cases e⟩
 ·have HF:=Lib.hid hf
  rw [if_neg hf] at HA
  have HA:=Lib.hid HA
  have hLl:L.length=D.files.length:=by rw [← h.core];simp [amap]
  have HSR:Hid (∀ w1,K0 w w1→Calls Tryz.prog 79 #[.func (.func 149) #[] #[.pointer (some ⟨w1.heap.size,0,none⟩)]] (w1.alloc (.cells #[.map (some mb)] 137)) fun e w'=>∃ v ss,e=.returned v∧tY (w1.heap.size+1) w' v ss (dM mH L)∧K0 (w1.alloc (.cells #[.map (some mb)] 137)) w'):=
   fun w1 k1=>pB (h.keep k1).map (h.small wf) (by simp [dM];omega)
  have hka:(dM mH L).map (·.1)=cR D.files:=by rw [← h.core];unfold cR;rw [vV];simp [dM,Function.comp_def]
  have HKA:=Lib.hid hka
  have HH:=Lib.hid h
  clear h wf hf hka hl hLl
  go_enter Tryz.func184,Tryz.ntmps184
  go_wp2_with fail
  refine HA.out.mono ?_
  rintro e w1 ⟨rfl,k1⟩
  have c3:w1.cell? ⟨db,3,none⟩=some (.map (some mb)):=aB (HH.out.keep k1).blk 3
  have hlt:=aC (HH.out.keep k1).blk
  have K1:=Lib.hid k1
  clear k1
  go_wp2_with fail
  refine (uS (some mb) w1).mono ?_
  rintro e w2 ⟨rfl,rfl⟩
  clear c3 hlt
  go_wp2_with fail
  refine (HSR.out w1 K1.out).mono ?_
  rintro e w2 ⟨v,ss,rfl,hN,k2⟩
  obtain ⟨a9,c9,rfl,hS,hnew⟩:=zT.of_own hN.row
  have HP:Hid (lX w D (.returned (.slice a9 ss.length c9)) w2):=⟨a9,c9,ss,rfl,hS,K0.tr K1.out (K0.tr ((aD.refl _ _).alloc _) k2),fun e=>absurd e HF.out,fun _=>⟨by rw [← HKA.out];exact hN.perm,hN.ord⟩,fun b e=>by have:=hnew b e;have:=K1.out.size;omega⟩
  clear hN hS k2 hnew
  go_wp2
  go_ret
  exact HP.out
end
section
variable {w0:iW} {w:World} {db mb:Nat} {D:aS} {L:List (ByteArray×(Nat×cN))}
theorem aJd (h:iC w0 w db D mb L) (wf:fV D) (hsf:∀ s x,aQ D.files s=Option.some x→x.safe=x.bytes.size) (hl:D.files.length≤1000) :
  Calls Tryz.prog 29 #[.pointer (some ⟨db,0,none⟩),.slice none 0 0] w fun e w'=>e=.returned (.int .i64 0)∧DSt w0 w' db ⟨D.room,D.used,-1,D.files⟩:=by
 have c3:w.cell? ⟨db,3,none⟩=some (.map (some mb)):=aB h.blk 3
 have hlt:=aC h.blk
 have hLl:L.length=D.files.length:=by rw [← h.core];simp [amap]
 have HSR:=Lib.hid (pB h.map (h.small wf) (by simp [dM];omega))
 have HKS:=Lib.hid (uS (some mb) w)
 have HH:=Lib.hid h
 have HSF:=Lib.hid hsf
 have HWF:=Lib.hid wf
 have HL:=Lib.hid hl
 have hka:(dM mH L).map (·.1)=D.files.map (·.1):=by rw [← h.core,vV];simp [dM,Function.comp_def]
 have HKA:=Lib.hid hka
 have hmem:Hid (∀ (ss:List ByteArray),ss.Perm (D.files.map (·.1))→∀ s∈ss,(aQ D.files s).isSome=true):=by
  show ∀ ss:List ByteArray,_→_
  intro ss hp s hs
  have:=hp.mem_iff.1 hs
  obtain ⟨q,hq,rfl⟩:=List.mem_map.1 this
  rw [eO wf.keys hq]
  rfl
 clear h wf hl hLl hka hsf
 go_enter Tryz.func29,Tryz.ntmps29
 go_wp2_with fail
 refine HKS.out.mono ?_
 rintro e w1 ⟨rfl,rfl⟩
 go_wp2_with fail
 refine HSR.out.mono ?_
 rintro e w1 ⟨v,ss,rfl,hN,k1⟩
 have hpm:ss.Perm (D.files.map (·.1)):=by rw [← HKA.out];exact hN.perm
 have HIN:=Lib.hid (hmem.out ss hpm)
 have hrow:=hN.row
 have K1:=Lib.hid (K0.tr ((aD.refl (fun _=>False) w).alloc _) k1)
 obtain ⟨a0,c0,rfl⟩:∃ a0 c0,v=.slice a0 ss.length c0:=by
  rcases hrow.2 with ⟨h1,h2⟩ | ⟨r,cp,cur,h1,_⟩
  ·rw [h1,h2];exact ⟨_,_,rfl⟩
  ·exact ⟨_,_,h1⟩
 have HROW:=Lib.hid hrow
 have hsl:ss.length≤1000:=aEf
 clear hN hrow k1 hpm c3 hlt
 go_wp2
 go_loopw [5,19] (fun n i wr=>∃ k:Nat,i=.int .i64 k∧k≤ss.length∧n=.int .i64 0∧K0 w1 wr) (fun _ i _=>ss.length - (intOf i).toNat)
 case atStart=>exact ⟨0,rfl,Nat.zero_le _,rfl,aD.refl _ _⟩
 case round=>
  obtain ⟨k,rfl,hk,rfl,hr⟩:=hrel
  by_cases hkl:k<ss.length
  ·have HR:=Lib.hid hr
   have hd:=(HH.out.keep K1.out).keep hr
   have h4:=HROW.out
   obtain ⟨x,hx⟩:=Option.isSome_iff_exists.1 (HIN.out ss[k] (List.getElem_mem _))
   obtain ⟨b,hb⟩:=hd.some hx
   obtain ⟨g,rfl⟩:∃ g,a0=some ⟨g,0,none⟩:=by
    rcases h4.2 with ⟨_,h2⟩ | ⟨r,cp,cur,h1,_⟩
    ·omega
    ·simp only [Value.slice.injEq] at h1
     exact ⟨r,h1.1⟩
   have hc0:w1.cell? ⟨g,k,none⟩=some (.string ss[k]):=by
    rw [h4.cellAt k aA,List.getElem?_map,List.getElem?_eq_getElem hkl]
    rfl
   have hc:wr.cell? ⟨g,k,none⟩=some (.string ss[k]):=hr.cell' hc0 (fun e=>e)
   have d3:wr.cell? ⟨db,3,none⟩=some (.map (some mb)):=aB hd.blk 3
   have hlt:=aC hd.blk
   have hltg:g<wr.heap.size:=Nat.lt_of_lt_of_le (h4.lt g rfl).2 hr.size
   have hm:=Lib.hid hd.map
   have HV:Hid (aQ (dM mH L) ss[k]=some (.pointer (some ⟨b,0,none⟩))):=pY
   have hf:=hd.fil _ _ hb
   have e0:wr.cell? ⟨b,0,none⟩=some (.string x.bytes):=aB hf 0
   have e1:wr.cell? ⟨b,1,none⟩=some (.int .i64 x.safe):=aB hf 1
   have hltb:=aC hf
   have hs:=HSF.out _ _ hx
   rw [hs] at e1
   clear hd h4 hf hx hb hc0 hs hr
   go_wp2_with (at_lookup;refine cI (eG Tryz.underlying9) rfl rfl Tryz.underlying137 lD rfl _ rfl hm.out _ HV.out ?_)
   go_quiet (fail)
   go_wp2
   go_roundw
   case rel=>exact ⟨k+1,by go_num,by omega,rfl,HR.out.trans ((aD.refl _ _).drewN _) (fun _ _ e=>e)⟩
   case measure=>simp [intOf];omega
  ·obtain rfl:k=ss.length:=by omega
   have hd:=(HH.out.keep K1.out).keep hr
   have hlt:=aC hd.blk
   have d2:wr.cell? ⟨db,2,none⟩=some (.int .i64 D.fuse):=aB hd.blk 2
   have f2:wr.frozen? ⟨db,2,none⟩=false:=aH hd.blk 2
   have HD:=Lib.hid hd
   clear hd hr
   go_wp2
   go_ret
   refine ⟨rfl,mb,L,?_⟩
   exact HD.out.own ((aD.refl (fun k=>k=db) wr).setC 2 _ (fun _=>rfl)) (aM HD.out.blk 2 _)
end
end Go.Proofs.YteapahcklcldkaaGreatDoor.Dsk
