/-
  The statement is proved: all that it reaches, in parts.
-/
import Derived.Test.YteapahcklcldkaaGreatDoorW06
import Derived.Deep.RegionWith
set_option maxRecDepth 100000
set_option maxHeartbeats 16000000
namespace Go.Proofs.YteapahcklcldkaaGreatDoor
open Go.RowKit Fx
theorem aU6 {x:Nat} (h:x<18446744073709551616):x ^^^ 18446744073709551615=18446744073709551615 - x:=by
 have e:=congrArg BitVec.toNat (BitVec.xor_allOnes (x:=BitVec.ofNat 64 x))
 rw [BitVec.toNat_xor,BitVec.toNat_not,BitVec.toNat_ofNat,BitVec.toNat_allOnes] at e
 rw [Nat.mod_eq_of_lt aA] at e
 exact e
theorem aU7 {n:Int} (h:-9223372036854775808≤n∧n≤9223372036854775807):bits BinOp.xor IntKind.u64 (IntKind.u64.wrap (IntKind.u64.wrap n*2)) (IntKind.u64.wrap (n / 9223372036854775808))=((zz n:Nat):Int):=by
 simp only [IntKind.wrap_u64]
 by_cases h0:n<0
 ·have e1:n % 18446744073709551616*2 % 18446744073709551616=((2*(n+9223372036854775808).toNat:Nat):Int):=by omega
  have e2:n / 9223372036854775808 % 18446744073709551616=((18446744073709551615:Nat):Int):=aA
  rw [e1,e2,bits_xor_u64_nat _ _ aA aE]
  have hz:zz n=18446744073709551615 - 2*(n+9223372036854775808).toNat:=by unfold zz;rw [if_pos h0];omega
  rw [hz]
  congr 1
  exact aU6 aA
 ·have e1:n % 18446744073709551616*2 % 18446744073709551616=((2*n.toNat:Nat):Int):=by omega
  have e2:n / 9223372036854775808 % 18446744073709551616=((0:Nat):Int):=aA
  rw [e1,e2,bits_xor_u64_nat _ _ aA aE,Nat.xor_zero]
  unfold zz
  rw [if_neg h0]
theorem rB (n:Int) (w:World) (hn:-9223372036854775808≤n∧n≤9223372036854775807) :
  Calls Tryz.prog 172 #[.int .i64 n] w fun e w'=>e=.returned (.string (putB n))∧K0 w w':=by
 have HM:Hid (putB n=bP (eT (zz n))):=rfl
 have HLT:Hid (zz n<18446744073709551616):=aL9 hn
 have HX:Hid (bits BinOp.xor IntKind.u64 (IntKind.u64.wrap (IntKind.u64.wrap n*2)) (IntKind.u64.wrap (n / 9223372036854775808))=((zz n:Nat):Int)):=aU7 hn
 clear hn
 go_enter Tryz.func172,Tryz.ntmps172
 go_wp2
 refine wp_scope_jumps 0 (fun a' w'=>∃ (u:Nat) (done:List Nat) (v:Value) (u5 u6 u7 u8 u9 u10 u11 u12 u13 u14 u15 u16 u17 u18 u19 u20 u21 u22 u23 u24 u25 u26 u27:Value),a'={tmps:=#[.int .i64 n,undef,.string ⟨#[]⟩,.int .u64 (u:Nat),v,u5,u6,u7,u8,u9,u10,u11,u12,u13,u14,u15,u16,u17,u18,u19,u20,u21,u22,u23,u24,u25,u26,u27],defers:=[]}∧vT w (zz n) u done v w') (fun a' _=>(intOf (a'.tmps.getD 3 undef)).toNat) rfl ?_ ?_
 ·go_wp2
  rw [HX.out]
  obtain ⟨u,hu0⟩:∃ u,u=zz n:=⟨_,rfl⟩
  obtain ⟨done,hd0⟩:∃ done:List Nat,done=[]:=⟨_,rfl⟩
  obtain ⟨v,hv0⟩:∃ v:Value,v=.slice none 0 0:=⟨_,rfl⟩
  have hr:vT w (zz n) u done v w:=aPa
  rw [← hu0,← hv0]
  clear hu0 hd0 hv0
  have HR:=Lib.hid hr
  have hown:=hr.own
  have HL:=Lib.hid hr.lt
  have hdl:=hr.len
  have hz:=hr.k0.size
  obtain ⟨va,vc,rfl⟩:=oY hown
  clear hr
  by_cases hu:u<128
  ·have i1:(u:Int)<128:=by omega
   have i0:(0:Int)≤u:=aA
   have HU:=Lib.hid hu
   go_step3
   go_wp2_with (at_builtin;refine bW (v:=.slice va done.length vc) rfl rfl Tryz.underlying230 jN rfl aE rfl (hown.alloc _) rfl (aI _ _ _ rfl) rfl rfl ⟨by omega,by decide⟩ bG ?_;intro g1 cap1 w1 hA;obtain ⟨hcv,hk1⟩:=HR.out.stop HU.out hA;have HK:=Lib.hid hk1;clear hA hk1)
   try simp only [Exit.jump]
   go_ret
   exact ⟨by rw [HM.out];rfl,HK.out⟩
  ·have i1:(128:Int)≤u:=by omega
   have HU:=Lib.hid hu
   have HO:Hid (bits BinOp.or IntKind.u8 ((u:Int) % 256) 128=(u:Int) % 128+128):=by
    show _=_
    exact aEu u
   go_step3
   go_wp2_with (at_builtin;refine bW (v:=.slice va done.length vc) rfl rfl Tryz.underlying230 jN rfl aE rfl (hown.alloc _) rfl (aI _ _ _ rfl) rfl rfl ⟨by omega,by decide⟩ bG ?_;intro g1 cap1 w1 hA;rw [HO.out] at hA;have hst:=Lib.hid (HR.out.step HU.out HLT.out hA);clear hA)
   go_step3
   exact ⟨rfl,u / 128,_,_,_,_,_,_,_,_,_,_,_,_,_,_,_,_,_,_,_,_,_,_,_,_,_,rfl,hst.out⟩
 ·rintro a' w' ⟨u,done,v,u5,u6,u7,u8,u9,u10,u11,u12,u13,u14,u15,u16,u17,u18,u19,u20,u21,u22,u23,u24,u25,u26,u27,rfl,hr⟩
  have HR:=Lib.hid hr
  have hown:=hr.own
  have HL:=Lib.hid hr.lt
  have hdl:=hr.len
  have hz:=hr.k0.size
  obtain ⟨va,vc,rfl⟩:=oY hown
  clear hr
  by_cases hu:u<128
  ·have i1:(u:Int)<128:=by omega
   have i0:(0:Int)≤u:=aA
   have HU:=Lib.hid hu
   go_wp2_with (at_builtin;refine bW (v:=.slice va done.length vc) rfl rfl Tryz.underlying230 jN rfl aE rfl (hown.alloc _) rfl (aI _ _ _ rfl) rfl rfl ⟨by omega,by decide⟩ bG ?_;intro g1 cap1 w1 hA;obtain ⟨hcv,hk1⟩:=HR.out.stop HU.out hA;have HK:=Lib.hid hk1;clear hA hk1)
   try simp only [Exit.jump]
   go_ret
   exact ⟨by rw [HM.out];rfl,HK.out⟩
  ·have i1:(128:Int)≤u:=by omega
   have HU:=Lib.hid hu
   have HO:Hid (bits BinOp.or IntKind.u8 ((u:Int) % 256) 128=(u:Int) % 128+128):=by
    show _=_
    exact aEu u
   go_wp2_with (at_builtin;refine bW (v:=.slice va done.length vc) rfl rfl Tryz.underlying230 jN rfl aE rfl (hown.alloc _) rfl (aI _ _ _ rfl) rfl rfl ⟨by omega,by decide⟩ bG ?_;intro g1 cap1 w1 hA;rw [HO.out] at hA;have hst:=Lib.hid (HR.out.step HU.out HLT.out hA);clear hA)
   go_step3
   refine ⟨rfl,⟨u / 128,_,_,_,_,_,_,_,_,_,_,_,_,_,_,_,_,_,_,_,_,_,_,_,_,_,rfl,hst.out⟩,?_⟩
   simp [intOf]
   omega
end Go.Proofs.YteapahcklcldkaaGreatDoor
