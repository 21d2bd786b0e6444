/-
  The statement is proved: all that it reaches, in parts.
-/
import Derived.Test.YteapahcklcldkaaGreatDoorW04
import Derived.ScopeJumps
set_option maxRecDepth 100000
set_option maxHeartbeats 16000000
namespace Go.Proofs.YteapahcklcldkaaGreatDoor
open Go.RowKit Fx
theorem aWe (a:Nat) (h:a<256):a ||| 128=a % 128+128:=by
 have h1:a % 128<2 ^ 7:=aA
 have h2:a=128*(a / 128)+a % 128:=aA
 have h3:a / 128=0∨a / 128=1:=aA
 rcases h3 with h3 | h3
 ·have e:=Nat.two_pow_add_eq_or_of_lt h1 1
  rw [show a=a % 128 by omega,Nat.or_comm]
  simpa using e.symm.trans aA
 ·have e:=Nat.two_pow_add_eq_or_of_lt h1 1
  have e2:a=2 ^ 7*1 ||| a % 128:=by rw [← e];omega
  rw [e2,Nat.or_comm,← Nat.or_assoc]
  simp only [Nat.mul_one,show (2:Nat) ^ 7=128 from rfl,Nat.or_self]
  rw [show a % 128=a % 128 from rfl] at e
  simp only [Nat.mul_one,show (2:Nat) ^ 7=128 from rfl] at e
  rw [← e]
  omega
theorem aEu (u:Nat):bits BinOp.or IntKind.u8 ((u:Int) % 256) 128=(u:Int) % 128+128:=by
 have h1:(u:Int) % 256=((u % 256:Nat):Int):=aA
 have h2:=(bits_nat .u8 8 aE wraps_u8 (u % 256) 128 aA aE).2
 rw [h1]
 rw [show ((128:Int))=((128:Nat):Int) from rfl,h2,aWe _ aA]
 omega
theorem vJ (n:Int) (w:World) (h0:0≤n) (h1:n≤9223372036854775807) :
  Calls Tryz.prog 172 #[.int .i64 n] w fun e w'=>e=.returned (.string (putB n))∧K0 w w':=by
 obtain ⟨m,rfl⟩:∃ m:Nat,n=m:=⟨n.toNat,by omega⟩
 have HM:Hid (zz (m:Int)=2*m):=by show _=_;rw [aW0 aA];rfl
 have HLT:Hid (2*m<18446744073709551616):=by show _<_;omega
 have HX:Hid (bits BinOp.xor IntKind.u64 ((m:Int)*2) ((m:Int) / 9223372036854775808)=((2*m:Nat):Int)):=by
  show _=_
  have e1:(m:Int) / 9223372036854775808=((0:Nat):Int):=aA
  have e2:(m:Int)*2=((2*m:Nat):Int):=aA
  rw [e1,e2,bits_xor_u64_nat (2*m) 0 HLT.out aE,Nat.xor_zero]
 go_enter Tryz.func172,Tryz.ntmps172
 go_wp2
 refine wp_scope_jumps 0 (fun a' w'=>∃ (u:Nat) (done:List Nat) (v:Value) (u5 u6 u7 u8 u9 u10 u11 u12 u13 u14 u15 u16 u17 u18 u19 u20 u21 u22 u23 u24 u25 u26 u27:Value),a'={tmps:=#[.int .i64 (m:Int),undef,.string ⟨#[]⟩,.int .u64 (u:Nat),v,u5,u6,u7,u8,u9,u10,u11,u12,u13,u14,u15,u16,u17,u18,u19,u20,u21,u22,u23,u24,u25,u26,u27],defers:=[]}∧vT w (2*m) u done v w') (fun a' _=>(intOf (a'.tmps.getD 3 undef)).toNat) rfl ?_ ?_
 ·go_wp2
  rw [HX.out]
  obtain ⟨u,hu0⟩:∃ u,u=2*m:=⟨_,rfl⟩
  obtain ⟨done,hd0⟩:∃ done:List Nat,done=[]:=⟨_,rfl⟩
  obtain ⟨v,hv0⟩:∃ v:Value,v=.slice none 0 0:=⟨_,rfl⟩
  have hr:vT w (2*m) u done v w:=aPa
  rw [← hu0,← hv0]
  clear hu0 hd0 hv0 h0 h1
  have HR:=Lib.hid hr
  have hown:=hr.own
  have HL:=Lib.hid hr.lt
  have hdl:=hr.len
  have hz:=hr.k0.size
  obtain ⟨va,vc,rfl⟩:=oY hown
  clear hr
  by_cases hu:u<128
  ·have i1:(u:Int)<128:=by omega
   have i0:(0:Int)≤u:=aA
   have HU:=Lib.hid hu
   go_step3
   go_wp2_with (at_builtin;refine bW (v:=.slice va done.length vc) rfl rfl Tryz.underlying230 jN rfl aE rfl (hown.alloc _) rfl (aI _ _ _ rfl) rfl rfl ⟨by omega,by decide⟩ bG ?_;intro g1 cap1 w1 hA;obtain ⟨hcv,hk1⟩:=HR.out.stop HU.out hA;have HK:=Lib.hid hk1;clear hA hk1)
   try simp only [Exit.jump]
   go_ret
   exact ⟨by unfold putB;rw [HM.out];rfl,HK.out⟩
  ·have i1:(128:Int)≤u:=by omega
   have HU:=Lib.hid hu
   have HO:Hid (bits BinOp.or IntKind.u8 ((u:Int) % 256) 128=(u:Int) % 128+128):=by
    show _=_
    exact aEu u
   go_step3
   go_wp2_with (at_builtin;refine bW (v:=.slice va done.length vc) rfl rfl Tryz.underlying230 jN rfl aE rfl (hown.alloc _) rfl (aI _ _ _ rfl) rfl rfl ⟨by omega,by decide⟩ bG ?_;intro g1 cap1 w1 hA;rw [HO.out] at hA;have hst:=Lib.hid (HR.out.step HU.out HLT.out hA);clear hA)
   go_step3
   exact ⟨rfl,u / 128,_,_,_,_,_,_,_,_,_,_,_,_,_,_,_,_,_,_,_,_,_,_,_,_,_,rfl,hst.out⟩
 ·rintro a' w' ⟨u,done,v,u5,u6,u7,u8,u9,u10,u11,u12,u13,u14,u15,u16,u17,u18,u19,u20,u21,u22,u23,u24,u25,u26,u27,rfl,hr⟩
  clear h0 h1
  have HR:=Lib.hid hr
  have hown:=hr.own
  have HL:=Lib.hid hr.lt
  have hdl:=hr.len
  have hz:=hr.k0.size
  obtain ⟨va,vc,rfl⟩:=oY hown
  clear hr
  by_cases hu:u<128
  ·have i1:(u:Int)<128:=by omega
   have i0:(0:Int)≤u:=aA
   have HU:=Lib.hid hu
   go_wp2_with (at_builtin;refine bW (v:=.slice va done.length vc) rfl rfl Tryz.underlying230 jN rfl aE rfl (hown.alloc _) rfl (aI _ _ _ rfl) rfl rfl ⟨by omega,by decide⟩ bG ?_;intro g1 cap1 w1 hA;obtain ⟨hcv,hk1⟩:=HR.out.stop HU.out hA;have HK:=Lib.hid hk1;clear hA hk1)
   try simp only [Exit.jump]
   go_ret
   exact ⟨by unfold putB;rw [HM.out];rfl,HK.out⟩
  ·have i1:(128:Int)≤u:=by omega
   have HU:=Lib.hid hu
   have HO:Hid (bits BinOp.or IntKind.u8 ((u:Int) % 256) 128=(u:Int) % 128+128):=by
    show _=_
    exact aEu u
   go_wp2_with (at_builtin;refine bW (v:=.slice va done.length vc) rfl rfl Tryz.underlying230 jN rfl aE rfl (hown.alloc _) rfl (aI _ _ _ rfl) rfl rfl ⟨by omega,by decide⟩ bG ?_;intro g1 cap1 w1 hA;rw [HO.out] at hA;have hst:=Lib.hid (HR.out.step HU.out HLT.out hA);clear hA)
   go_step3
   refine ⟨rfl,⟨u / 128,_,_,_,_,_,_,_,_,_,_,_,_,_,_,_,_,_,_,_,_,_,_,_,_,_,rfl,hst.out⟩,?_⟩
   simp [intOf]
   omega
def cF (s:ByteArray) (p:Nat):List Nat:=(s.data.toList.drop p).map fun b=>b.toNat
theorem kJ (s:ByteArray) (p:Nat):(cF s p).length=s.size - p:=by
 simp only [cF,List.length_map,List.length_drop,Array.length_toList]
 rfl
theorem wU {s:ByteArray} {p k:Nat} (h:p+k<s.size) (h':k<(cF s p).length):(cF s p)[k]=s[p+k].toNat:=by
 simp only [cF,List.getElem_map,List.getElem_drop,Array.getElem_toList]
 rfl
theorem iB (s:ByteArray) (p:Nat):∀ b∈cF s p,b<256:=fun b hb=>by
 obtain ⟨x,_,rfl⟩:=List.mem_map.1 hb
 exact x.toNat_lt
def dE (s:ByteArray) (a:Int):Int:=if a<0∨s.size<a then 0 else uK (cF s a.toNat)
def dW (s:ByteArray) (a:Int):Int:=if a<0∨s.size<a then 0 else uL a (cF s a.toNat)
def gD (s:ByteArray) (a:Int):Int:=if a<0∨s.size<a then 1 else mG (cF s a.toNat)
def iO (w:World) (s:ByteArray) (a:Int) (e:Ending) (w':World):Prop:=e=.returned (.tuple #[.int .i64 (dE s a),.int .i64 (dW s a),.int .i64 (gD s a)])∧w'=w
theorem aWi (k:Nat):(2:Nat) ^ (7*k)=128 ^ k:=by rw [Nat.pow_mul]
theorem aUc {k:Nat} (h:k≤9):128 ^ k≤9223372036854775808:=by
 have:=Nat.pow_le_pow_right (n:=128) aA h
 rw [aRk] at this
 exact this
theorem aS1 (x:Nat) (h:x<256):bits BinOp.and IntKind.u8 (x:Int) 127=((x % 128:Nat):Int):=by
 have:=bits_mask .u8 8 aE wraps_u8 7 aE x aA aA
 have e:(2:Int) ^ 7 - 1=127:=aE
 rw [e] at this
 rw [this]
 omega
theorem aFg {u x k:Nat} (hx:x<256) (hk:k≤9) (hu:u<128 ^ k) (h9:k<9∨x % 128≤1) :
  bits BinOp.or IntKind.u64 (u:Int) (IntKind.u64.wrap (IntKind.u64.wrap (bits BinOp.and IntKind.u8 (x:Int) 127)*2 ^ (7*k)))=((u+128 ^ k*(x % 128):Nat):Int):=by
 have hp:=aUc hk
 have hs:128 ^ k*(x % 128)≤9223372036854775808:=by
  rcases h9 with h9 | h9
  ·have h1:128 ^ k≤128 ^ 8:=Nat.pow_le_pow_right aA aA
   have h2:128 ^ k*(x % 128)≤128 ^ 8*128:=Nat.mul_le_mul h1 aA
   have h3:128 ^ 8*128=9223372036854775808:=aE
   omega
  ·have h2:128 ^ k*(x % 128)≤128 ^ k*1:=Nat.mul_le_mul_left _ h9
   omega
 have e1:IntKind.u64.wrap (((x % 128:Nat):Int))=((x % 128:Nat):Int):=by rw [IntKind.wrap_u64];omega
 have e2:((x % 128:Nat):Int)*2 ^ (7*k)=((128 ^ k*(x % 128):Nat):Int):=by
  rw [Int.natCast_mul,Int.mul_comm]
  congr 1
  have:=aWi k
  exact_mod_cast this
 rw [aS1 x hx,e1,e2,IntKind.wrap_u64,Int.emod_eq_of_lt aA aA,bits_or_u64_nat u _ aA aA]
 have h4:=Nat.two_pow_add_eq_or_of_lt (i:=7*k) (b:=u) (by rw [aWi];exact hu) (x % 128)
 rw [aWi] at h4
 rw [Nat.or_comm,← h4,Nat.add_comm]
theorem aKy {U:Nat} (h:U<18446744073709551616):bits BinOp.xor IntKind.i64 (wrap64 (((U:Nat):Int) / 2)) (wrap64 (-wrap64 (bits BinOp.and IntKind.u64 ((U:Nat):Int) 1)))=dz U:=by
 have e0:bits BinOp.and IntKind.u64 ((U:Nat):Int) 1=((U % 2:Nat):Int):=by
  rw [show (1:Int)=((1:Nat):Int) from rfl,bits_and_u64_nat U 1 h aE,Nat.and_one_is_mod]
 have e1:wrap64 (((U:Nat):Int) / 2)=((U / 2:Nat):Int):=jY
 rw [e0,e1]
 have h2:(BitVec.ofInt 64 (((U / 2:Nat):Int))).toNat=U / 2:=by
  rw [BitVec.ofInt_natCast,BitVec.toNat_ofNat];exact Nat.mod_eq_of_lt aA
 unfold dz
 by_cases h1:U % 2=1
 ·rw [if_pos h1,h1]
  have e3:wrap64 (-wrap64 (((1:Nat):Int)))=-1:=jY
  rw [e3]
  show IntKind.i64.wrap ((BitVec.ofInt 64 (((U / 2:Nat):Int)) ^^^ BitVec.ofInt 64 (-1)).toNat:Int)=_
  have e4:BitVec.ofInt 64 (-1)=BitVec.allOnes 64:=aE
  rw [e4,BitVec.xor_allOnes,BitVec.toNat_not,h2,IntKind.wrap_i64]
  omega
 ·rw [if_neg h1,show U % 2=0 by omega]
  have e3:wrap64 (-wrap64 (((0:Nat):Int)))=0:=jY
  rw [e3]
  show IntKind.i64.wrap ((BitVec.ofInt 64 (((U / 2:Nat):Int)) ^^^ BitVec.ofInt 64 0).toNat:Int)=_
  have e4:BitVec.ofInt 64 0=0#64:=aE
  rw [e4,BitVec.xor_zero,h2,IntKind.wrap_i64]
  omega
theorem vI (s:ByteArray) (a:Int) (w:World) (hs:s.size≤9223372036854775807) (ha:a≤9223372036854775807) :
  Calls Tryz.prog 170 #[.string s,.int .i64 a] w (iO w s a):=by
 by_cases hbad:a<0∨s.size<a
 ·have HP:Hid (iO w s a (.returned (.tuple #[.int .i64 0,.int .i64 0,.int .i64 1])) w):=by
   show iO _ _ _ _ _
   unfold iO dE dW gD
   rw [if_pos hbad,if_pos hbad,if_pos hbad]
   exact ⟨rfl,rfl⟩
  have hb2:a<0∨(¬ a<0∧s.size<a):=aA
  clear hbad
  rcases hb2 with h1 | ⟨h1,h2⟩
  all_goals
   go_enter Tryz.func170,Tryz.ntmps170
   go_wp2
   go_ret3
   exact HP.out
 ·obtain ⟨p,rfl⟩:∃ p:Nat,a=p:=⟨a.toNat,by omega⟩
  have hp:p≤s.size:=aA
  have HP:Hid (∀ n t e,uK (cF s p)=n→uL p (cF s p)=t→mG (cF s p)=e→iO w s p (.returned (.tuple #[.int .i64 n,.int .i64 t,.int .i64 e])) w):=by
   show ∀ _ _ _,_→_→_→_
   rintro n t e rfl rfl rfl
   unfold iO dE dW gD
   rw [if_neg hbad,if_neg hbad,if_neg hbad]
   exact ⟨rfl,rfl⟩
  have HL:=Lib.hid (kJ s p)
  have HBY:=Lib.hid (iB s p)
  have HGT:Hid (∀ k,p+k<s.size→∀ h':k<(cF s p).length,∀ h2:p+k<s.size,(cF s p)[k]=s[p+k].toNat):=fun k h1 h' h2=>wU h1 h'
  generalize cF s p=l at HP HL HBY HGT
  have p0:(0:Int)≤p:=aA
  have p1:(p:Int)≤s.size:=aA
  have b1:decide ((p:Int)<0)=false:=aK
  have b2:decide (s.size<p)=false:=cX
  have b3:decide ((s.size:Int)<p)=false:=cX
  clear hbad
  go_enter Tryz.func170,Tryz.ntmps170
  go_wp2
  go_loop [18,7] (fun i uv=>∃ k:Nat,i=.int .i64 k∧k≤10∧k≤bS l∧∃ z:Int,uv=.int .u64 z∧(k<10→z=(hv (l.take k):Nat))) (fun i _=>10 - (intOf i).toNat)
  case atStart=>exact ⟨0,rfl,by omega,by omega,0,rfl,fun _=>rfl⟩
  case round=>
   obtain ⟨k,rfl,hk10,hkc,z,rfl,hu⟩:=hrel
   have HKC:=Lib.hid hkc
   clear hkc
   by_cases h10:k<10
   ·obtain rfl:=hu h10
    clear hu
    have hult:hv (l.take k)<128 ^ k:=by
     have h1:=aQe (l.take k)
     rw [List.length_take,Nat.min_eq_left (by have:=HKC.out;have:=aAf l;omega)] at h1
     exact h1
    have HTK:Hid (∀ hkl:k<l.length,hv (l.take (k+1))=hv (l.take k)+128 ^ k*(l[k] % 128)):=fun hkl=>aTr hkl
    generalize hv (l.take k)=u at hult HTK ⊢
    have HULT:=Lib.hid hult
    clear hult
    have j0:(0:Int)≤k:=aA
    have j1:(k:Int)<10:=aA
    have j10:(p:Int)+k≤s.size:=by have:=HKC.out;have:=HL.out;have:=aAf l;omega
    by_cases hlen:p+k<s.size
    ·have j2:(p:Int)+k<s.size:=by omega
     have hx0:=s[p+k].toNat_lt
     have hkl:k<l.length:=dZ
     have hxl:=HGT.out k hlen hkl hlen
     generalize hxx:s[p+k]=x at hx0 hxl
     have HXL:=Lib.hid hxl
     by_cases hb:128≤x.toNat
     ·have j3:(128:Int)≤x.toNat:=by omega
      have HKN:Hid (k+1≤bS l):=aGl aA fun i hi hik=>by
       by_cases hik2:i=k
       ·subst hik2;rw [HXL.out];exact hb
       ·exact mF (by have:=HKC.out;omega) hi
      clear hxl
      go_wp2
      go_round
      case rel=>
       refine ⟨k+1,by go_num,by omega,HKN.out,_,rfl,fun h9=>?_⟩
       rw [aFg aA aA HULT.out aA,HTK.out hkl,HXL.out]
      case measure=>simp [intOf];omega
     ·have j3:(x.toNat:Int)<128:=by omega
      have HCK:Hid (bS l=k):=aP6 hkl (fun i hi hik=>mF (by have:=HKC.out;omega) hi) (by rw [HXL.out];omega)
      have HGD:Hid (l.getD k 0=x.toNat):=by show _=_;rw [← HXL.out];simp [List.getD,hkl]
      clear hxl
      by_cases hx00:x.toNat=0
      ·have q0:((x.toNat:Int)==0)=true:=by simp;omega
       by_cases hk0:0<k
       ·have q1:(0:Int)<k:=by omega
        have hE:mG l=3:=fT
        have HF:=Lib.hid (HP.out 0 0 3 mQ mR hE)
        clear hE hx00 hk0
        go_wp2
        go_ret3
        exact HF.out
       ·obtain rfl:k=0:=by omega
        have hE:mG l=0:=by unfold mG;rw [HCK.out,if_neg aA,if_neg aA,if_pos (by unfold kC;rw [HCK.out,HGD.out];simp)]
        have HF:=Lib.hid (HP.out _ ((p:Int)+1) _ nJ (by unfold uL;rw [if_pos hE,HCK.out];simp) hE)
        have HEX:Hid (bits BinOp.or IntKind.u64 (u:Int) (IntKind.u64.wrap (IntKind.u64.wrap (bits BinOp.and IntKind.u8 (x.toNat:Int) 127)))=((hv (l.take (0+1)):Nat):Int)):=by
         show _=_
         have h1:=aFg (u:=u) (x:=x.toNat) (k:=0) aA aA HULT.out aA
         rw [show (2:Int) ^ (7*0)=1 from rfl,Int.mul_one] at h1
         rw [h1,HTK.out hkl,HXL.out]
        have HUU:Hid (hv (l.take (0+1))<18446744073709551616):=by
         have h1:=kO HBY.out aSm aFs ((uJ hE).2.2)
         rw [HCK.out] at h1
         exact h1
        have hlp:p<s.size:=aA
        have hxp:s[p]=x:=hxx
        have j7:(p:Int)<s.size:=aA
        clear hE hx00 hk0 hxx
        go_wp2
        rw [HEX.out,aKy HUU.out]
        go_ret3
        exact HF.out
      ·have q0:((x.toNat:Int)==0)=false:=by simp;omega
       by_cases hk9:k=9
       ·have q9:((k:Int)==9)=true:=by simp;omega
        by_cases hx1:1<x.toNat
        ·have q1:(1:Int)<x.toNat:=by omega
         have hE:mG l=3:=fT
         have HF:=Lib.hid (HP.out 0 0 3 mQ mR hE)
         clear hE hx00 hk9
         go_wp2
         go_ret3
         exact HF.out
        ·have q1:¬ (1:Int)<x.toNat:=by omega
         have hE:mG l=0:=fU
         have HF:=Lib.hid (HP.out _ _ _ nJ (by unfold uL;rw [if_pos hE,HCK.out]) hE)
         have HEX:Hid (bits BinOp.or IntKind.u64 (u:Int) (IntKind.u64.wrap (IntKind.u64.wrap (bits BinOp.and IntKind.u8 (x.toNat:Int) 127)*2 ^ (7*k)))=((hv (l.take (k+1)):Nat):Int)):=by
          show _=_
          rw [aFg aA aA HULT.out aA,HTK.out hkl,HXL.out]
         have HUU:Hid (hv (l.take (k+1))<18446744073709551616):=by
          have h1:=kO HBY.out aSm aFs ((uJ hE).2.2)
          rw [HCK.out] at h1
          exact h1
         clear hE hx00 hk9
         go_wp2
         rw [HEX.out,aKy HUU.out]
         go_ret3
         exact HF.out
       ·have q1:((k:Int)==9)=false:=by simp;omega
        have hE:mG l=0:=fU
        have HF:=Lib.hid (HP.out _ _ _ nJ (by unfold uL;rw [if_pos hE,HCK.out]) hE)
        have HEX:Hid (bits BinOp.or IntKind.u64 (u:Int) (IntKind.u64.wrap (IntKind.u64.wrap (bits BinOp.and IntKind.u8 (x.toNat:Int) 127)*2 ^ (7*k)))=((hv (l.take (k+1)):Nat):Int)):=by
         show _=_
         rw [aFg aA aA HULT.out aA,HTK.out hkl,HXL.out]
        have HUU:Hid (hv (l.take (k+1))<18446744073709551616):=by
         have h1:=kO HBY.out aSm aFs ((uJ hE).2.2)
         rw [HCK.out] at h1
         exact h1
        clear hE hx00 hk9
        go_wp2
        rw [HEX.out,aKy HUU.out]
        go_ret3
        exact HF.out
    ·have j2:¬ (p:Int)+k<s.size:=by omega
     have hkk:bS l=k∧l.length=k:=by
      have:=HKC.out
      have:=aAf l
      have:=HL.out
      omega
     have hE:mG l=2:=by unfold mG;rw [if_neg aA,if_pos aA]
     have HF:=Lib.hid (HP.out 0 0 2 mQ mR hE)
     clear hkk hE
     go_wp2
     go_ret3
     exact HF.out
   ·obtain rfl:k=10:=by omega
    have hE:mG l=3:=by unfold mG;rw [if_pos HKC.out]
    have HF:=Lib.hid (HP.out 0 0 3 mQ mR hE)
    clear hE
    go_wp2
    go_ret3
    exact HF.out
end Go.Proofs.YteapahcklcldkaaGreatDoor
