/-
  The statement is proved: all that it reaches, in parts.
-/
import Derived.Test.YteapahcklcldkaaGreatDoorW00
import Derived.Test.YteapahcklcldkaaGreatDoorRows
set_option maxRecDepth 100000
set_option maxHeartbeats 16000000
namespace Go.Proofs.YteapahcklcldkaaGreatDoor
def eT (u:Nat):List Nat:=if u<128 then [u] else (u % 128+128)::eT (u / 128)
termination_by u
decreasing_by omega
def zz (n:Int):Nat:=if n<0 then 2*(-(n+1)).toNat+1 else 2*n.toNat
def dz (u:Nat):Int:=if u % 2=1 then -((u / 2:Nat):Int) - 1 else ((u / 2:Nat):Int)
theorem aXo (u:Nat):zz (dz u)=u:=by unfold zz dz;split <;> split <;> omega
theorem aVc (n:Int):dz (zz n)=n:=by unfold zz dz;split <;> split <;> omega
theorem aL9 {n:Int} (h:-9223372036854775808≤n∧n≤9223372036854775807):zz n<18446744073709551616:=by unfold zz;split <;> omega
theorem aW0 {n:Int} (h:0≤n):zz n=2*n.toNat:=by unfold zz;rw [if_neg aA]
theorem aXg {u:Nat} (h:u<18446744073709551616):-9223372036854775808≤dz u∧dz u≤9223372036854775807:=by unfold dz;split <;> omega
theorem kE {u:Nat} (h:u<128):eT u=[u]:=by rw [eT,if_pos h]
theorem lZ {u:Nat} (h:¬ u<128):eT u=(u % 128+128)::eT (u / 128):=by rw [eT,if_neg h]
theorem sQ (u:Nat):∀ b∈eT u,b<256:=by
 induction u using Nat.strongRecOn with
 | _ u ih=>
  by_cases h:u<128
  ·rw [kE h];intro b hb;simp at hb;omega
  ·rw [lZ h]
   intro b hb
   rcases List.mem_cons.1 hb with rfl | hb
   ·omega
   ·exact ih (u / 128) aA b hb
def hv:List Nat→Nat
 | []=>0
 | b::l=>b % 128+128*hv l
theorem aAs (u:Nat):hv (eT u)=u:=by
 induction u using Nat.strongRecOn with
 | _ u ih=>
  by_cases h:u<128
  ·rw [kE h];simp [hv];omega
  ·rw [lZ h,hv,ih (u / 128) aA];omega
theorem aQe (l:List Nat):hv l<128 ^ l.length:=by
 induction l with
 | nil=>simp [hv]
 | cons b l ih=>
  simp only [hv,List.length_cons,Nat.pow_succ]
  omega
theorem wH (l m:List Nat):hv (l++m)=hv l+128 ^ l.length*hv m:=by
 induction l with
 | nil=>simp [hv]
 | cons b l ih=>
  simp only [List.cons_append,hv,ih,List.length_cons,Nat.pow_succ,Nat.mul_add]
  rw [show 128 ^ l.length*128*hv m=128*(128 ^ l.length*hv m) by rw [Nat.mul_comm (128 ^ l.length) 128,Nat.mul_assoc]]
  omega
theorem aTr {l:List Nat} {i:Nat} (h:i<l.length):hv (l.take (i+1))=hv (l.take i)+128 ^ i*(l[i] % 128):=by
 rw [List.take_succ_eq_append_getElem h,wH,List.length_take,Nat.min_eq_left aA]
 simp [hv]
structure aPf (m:List Nat) (b:Nat):Prop where
 more:∀ x∈m,128≤x∧x<256
 last:b<128
theorem aAo (u:Nat):∃ m b,eT u=m++[b]∧aPf m b∧(b≠0∨m=[]):=by
 induction u using Nat.strongRecOn with
 | _ u ih=>
  by_cases h:u<128
  ·exact ⟨[],u,kE h,⟨fun x hx=>(List.not_mem_nil hx).elim,h⟩,.inr rfl⟩
  ·obtain ⟨m,b,e,hf,hb⟩:=ih (u / 128) aA
   refine ⟨(u % 128+128)::m,b,by rw [lZ h,e];rfl,⟨fun x hx=>?_,hf.last⟩,.inl ?_⟩
   ·rcases List.mem_cons.1 hx with rfl | hx
    ·omega
    ·exact hf.more x hx
   ·rcases hb with hb | rfl
    ·exact hb
    ·intro e0
     subst e0
     have h1:=aAs (u / 128)
     rw [e] at h1
     simp [hv] at h1
     omega
theorem aQc {m:List Nat} {b:Nat} (h:aPf m b) (hb:b≠0∨m=[]):eT (hv (m++[b]))=m++[b]:=by
 induction m with
 | nil=>
  have h1:=h.last
  have:hv [b]=b:=by simp [hv];omega
  rw [List.nil_append,this,kE h1]
 | cons x m ih=>
  have hx:=h.more x List.mem_cons_self
  have hb0:b≠0:=hb.resolve_right aK
  have h2:=ih ⟨fun y hy=>h.more y (List.mem_cons_of_mem _ hy),h.last⟩ (.inl hb0)
  have hp:0<hv (m++[b]):=by
   rw [wH]
   have h1:=h.last
   have:hv [b]=b:=by simp [hv];omega
   rw [this]
   have:0<128 ^ m.length*b:=Nat.mul_pos (Nat.pow_pos aA) aA
   omega
  rw [List.cons_append,hv,lZ aA]
  congr 1
  ·omega
  ·rw [show (x % 128+128*hv (m++[b])) / 128=hv (m++[b]) by omega,h2]
def aLj (m:List Nat) (b:Nat):Prop:=(b≠0∨m=[])∧(m.length<9∨b≤1)
theorem aRk:128 ^ 9=9223372036854775808:=by decide
theorem yZ {m:List Nat} {b:Nat} (h:b<128):hv (m++[b])=hv m+128 ^ m.length*b:=by
 rw [wH]
 congr 2
 simp [hv];omega
theorem aGa {m:List Nat} {b:Nat} (h:aPf m b) (hl:m.length≤9) (hc:aLj m b):hv (m++[b])<18446744073709551616:=by
 rcases hc.2 with h1 | h1
 ·have h2:=aQe (m++[b])
  have h3:128 ^ (m++[b]).length≤128 ^ 9:=Nat.pow_le_pow_right aA cX
  rw [aRk] at h3
  omega
 ·rw [yZ h.last]
  have h2:=aQe m
  have h3:128 ^ m.length≤128 ^ 9:=Nat.pow_le_pow_right aA hl
  have h4:128 ^ m.length*b≤128 ^ m.length*1:=Nat.mul_le_mul_left _ h1
  rw [aRk] at h3
  omega
theorem aTm {m:List Nat} {b:Nat} (h:aPf m b) (hl:m.length≤9):eT (hv (m++[b]) % 18446744073709551616)=m++[b]↔aLj m b:=by
 constructor
 ·intro e
  obtain ⟨m',b',e2,hf,hb⟩:=aAo (hv (m++[b]) % 18446744073709551616)
  rw [e] at e2
  obtain ⟨rfl,e3⟩:=List.append_inj' e2 rfl
  obtain rfl:b=b':=by simpa using e3
  refine ⟨hb,?_⟩
  by_cases h9:m.length<9
  ·exact .inl h9
  ·right
   have h1:=aAs (hv (m++[b]) % 18446744073709551616)
   rw [e] at h1
   have h2:hv (m++[b])<18446744073709551616:=aA
   rw [yZ h.last,show m.length=9 by omega,aRk] at h2
   omega
 ·intro hc
  rw [Nat.mod_eq_of_lt (aGa h hl hc)]
  exact aQc h hc.1
def bS:List Nat→Nat
 | []=>0
 | b::l=>if 128≤b then bS l+1 else 0
theorem aAf (l:List Nat):bS l≤l.length:=by
 induction l with
 | nil=>simp [bS]
 | cons b l ih=>simp only [bS];split <;> simp <;> omega
theorem mF:∀ {l:List Nat} {i:Nat} (_:i<bS l) (hi:i<l.length),128≤l[i]
 | [],_,_,hi=>absurd hi (Nat.not_lt_zero _)
 | b::l,i,h,hi=>by
  simp only [bS] at h
  split at h
  ·rename_i hb
   cases i with
   | zero=>exact hb
   | succ i=>exact mF (l:=l) aA fZ
  ·omega
theorem sO:∀ {l:List Nat} (hi:bS l<l.length),l[bS l]<128
 | [],hi=>absurd hi (Nat.not_lt_zero _)
 | b::l,hi=>by
  by_cases hb:128≤b
  ·have e:bS (b::l)=bS l+1:=by simp [bS,hb]
   have h1:bS l<l.length:=by rw [e] at hi;simpa using hi
   have h2:=sO (l:=l) h1
   simp only [e,List.getElem_cons_succ]
   exact h2
  ·have e:bS (b::l)=0:=by simp [bS,hb]
   simp only [e,List.getElem_cons_zero]
   omega
theorem aGl {l:List Nat} {k:Nat} (hk:k≤l.length) (h:∀ i (hi:i<l.length),i<k→128≤l[i]):k≤bS l:=by
 by_cases h1:bS l<k
 ·have h2:=sO (l:=l) aA
  have:=h (bS l) aA h1
  omega
 ·omega
theorem aP6 {l:List Nat} {k:Nat} (hk:k<l.length) (h:∀ i (hi:i<l.length),i<k→128≤l[i]) (h1:l[k]<128):bS l=k:=by
 have h2:=aGl (Nat.le_of_lt hk) h
 by_cases h3:k<bS l
 ·have:=mF h3 hk
  omega
 ·omega
def kC (l:List Nat):Bool:=(l.getD (bS l) 0 != 0||bS l==0)&&(decide (bS l<9)||decide (l.getD (bS l) 0≤1))
def mG (l:List Nat):Int:=if 10≤bS l then 3 else if l.length≤bS l then 2 else if kC l=true then 0 else 3
def uK (l:List Nat):Int:=if mG l=0 then dz (hv (l.take (bS l+1))) else 0
def uL (n:Int) (l:List Nat):Int:=if mG l=0 then n+bS l+1 else 0
theorem uJ {l:List Nat} (h:mG l=0):bS l<10∧bS l<l.length∧kC l=true:=by
 unfold mG at h
 split at h
 ·cases h
 ·split at h
  ·cases h
  ·split at h
   ·exact ⟨by omega,by omega,by assumption⟩
   ·cases h
theorem aDl {l:List Nat} (hb:∀ b∈l,b<256) (h:bS l<l.length):l.take (bS l+1)=l.take (bS l)++[l[bS l]]∧aPf (l.take (bS l)) l[bS l]:=by
 refine ⟨List.take_succ_eq_append_getElem h,fun x hx=>?_,sO h⟩
 obtain ⟨i,hi,rfl⟩:=List.mem_iff_getElem.1 hx
 have hi2:i<bS l:=by simp at hi;omega
 rw [List.getElem_take]
 exact ⟨mF hi2 aA,hb _ (List.getElem_mem _)⟩
theorem sN {l:List Nat} (h:bS l<l.length):kC l=true↔aLj (l.take (bS l)) l[bS l]:=by
 unfold kC aLj
 rw [show l.getD (bS l) 0=l[bS l] by simp [List.getD,h]]
 simp only [Bool.and_eq_true,Bool.or_eq_true,bne_iff_ne,ne_eq,beq_iff_eq,decide_eq_true_eq,List.length_take]
 rw [Nat.min_eq_left aA]
 have:l.take (bS l)=[]↔bS l=0:=by
  rw [List.take_eq_nil_iff]
  constructor
  ·rintro (h1 | h1)
   ·exact h1
   ·rw [h1] at h;exact absurd h (Nat.not_lt_zero _)
  ·exact .inl
 rw [this]
theorem aMi {l:List Nat} (hb:∀ b∈l,b<256) (hk:bS l<10) (h:bS l<l.length):eT (hv (l.take (bS l+1)) % 18446744073709551616)=l.take (bS l+1)↔kC l=true:=by
 obtain ⟨e,hf⟩:=aDl hb h
 rw [e,aTm hf cX,sN h]
theorem kO {l:List Nat} (hb:∀ b∈l,b<256) (hk:bS l<10) (h:bS l<l.length) (hc:kC l=true):hv (l.take (bS l+1))<18446744073709551616:=by
 obtain ⟨e,hf⟩:=aDl hb h
 rw [e]
 exact aGa hf cX ((sN h).1 hc)
theorem aMz (u:Nat) (l:List Nat):bS (eT u++l)+1=(eT u).length∧bS (eT u++l)<(eT u++l).length:=by
 induction u using Nat.strongRecOn with
 | _ u ih=>
  by_cases h:u<128
  ·rw [kE h]
   have h1:bS ([u]++l)=0:=by simp [bS];omega
   rw [h1]
   simp
  ·rw [lZ h]
   have:=ih (u / 128) aA
   simp only [List.cons_append,bS]
   rw [if_pos aA]
   simp only [List.length_cons]
   omega
theorem aEc {u:Nat} (h:u<18446744073709551616):(eT u).length≤10:=by
 obtain ⟨m,b,e,hf,hb⟩:=aAo u
 rw [e]
 by_cases h1:m.length≤9
 ·exact cX
 ·have h2:=aAs u
  rw [e,yZ hf.last] at h2
  have hb0:b≠0:=hb.resolve_right (fun e=>h1 (by rw [e];simp))
  have h3:128 ^ 10≤128 ^ m.length:=Nat.pow_le_pow_right aA aA
  have h4:128 ^ m.length*1≤128 ^ m.length*b:=Nat.mul_le_mul_left _ aA
  have h5:128 ^ 10=1180591620717411303424:=aE
  omega
theorem aLm {u:Nat} (hu:u<18446744073709551616) (l:List Nat):mG (eT u++l)=0∧bS (eT u++l)+1=(eT u).length∧uK (eT u++l)=dz u:=by
 obtain ⟨h1,h2⟩:=aMz u l
 have h3:=aEc hu
 have h4:(eT u++l).take (bS (eT u++l)+1)=eT u:=by rw [h1,List.take_left]
 have hc:kC (eT u++l)=true:=by
  rw [sN h2]
  obtain ⟨m,b,e,hf,hb⟩:=aAo u
  have h5:(eT u++l).take (bS (eT u++l)+1)=(eT u++l).take (bS (eT u++l))++[(eT u++l)[bS (eT u++l)]]:=List.take_succ_eq_append_getElem h2
  rw [h4] at h5
  generalize (eT u++l).take (bS (eT u++l))=m1 at h5 ⊢
  generalize (eT u++l)[bS (eT u++l)]=b1 at h5 ⊢
  rw [e] at h5
  obtain ⟨rfl,e2⟩:=List.append_inj' h5 rfl
  obtain rfl:b=b1:=by simpa using e2
  refine ⟨hb,?_⟩
  by_cases h9:m.length<9
  ·exact .inl h9
  ·right
   have h6:=aAs u
   rw [e,yZ hf.last] at h6
   have h7:m.length=9:=by rw [e] at h3;simp at h3;omega
   rw [h7,aRk] at h6
   omega
 have hE:mG (eT u++l)=0:=by
  unfold mG
  rw [if_neg aA,if_neg aA,if_pos hc]
 refine ⟨hE,h1,?_⟩
 unfold uK
 rw [if_pos hE,h4,aAs]
end Go.Proofs.YteapahcklcldkaaGreatDoor
