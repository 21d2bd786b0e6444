/-
  The statement is proved: all that it reaches, in parts.
-/
import Derived.Test.YteapahcklcldkaaGreatDoorRows
import Derived.WalkKit
set_option maxRecDepth 100000
set_option maxHeartbeats 16000000
namespace Go.Proofs.YteapahcklcldkaaGreatDoor
theorem Sw:(∀{α:Type}(l:List α)(i:Nat)(a:α),l.toArray.setIfInBounds i a=(l.set i a).toArray)∧(∀{α:Type}(x:α)(l:List α)(a:α),(x::l).set 0 a=a::l)∧∀{α:Type}(x:α)(l:List α)(n:Nat)(a:α),(x::l).set (n+1) a=x::l.set n a:=⟨by simp,by simp,by simp⟩
theorem aA {P:Prop} (h:P:=by omega):P:=h
theorem aE {P:Prop} (h:P:=by decide):P:=h
theorem aF {P:Prop} (h:P:=by kernel_rfl):P:=h
theorem aG {P:Prop} (h:P:=by assumption):P:=h
theorem aJ {P:Prop} (h:P:=by first | (simp;done) | exact aB (fA _ _ _ (by simp)) 0 | exact aB (aI _ _ _ (by simp)) 0 | exact aB (aL (aI _ _ _ (by simp)) _) 0 | exact aB (aL (aL (aI _ _ _ (by simp)) _) _) 0):P:=h
theorem aK {P:Prop} (h:P:=by simp):P:=h
theorem aN {P:Prop} (h:P:=by first | omega | (simp;done) | (simp;omega)):P:=h
theorem aT {P:Prop} (h:P:=by rw [hW];exact aI _ _ _ (by simp)):P:=h
theorem aV {P:Prop} (h:P:=by rw [hW];exact (aD.refl _ _).alloc _):P:=h
theorem bG {P:Prop} (h:P:=by first | (simp;done) | (simp;omega)):P:=h
theorem bH {P:Prop} (h:P:=by rw [hW];exact dU (aD.refl (fun _=>False) w1) HBN.out HI.out):P:=h
theorem bL {P:Prop} (h:P:=by rintro e w' ⟨rfl,c,k⟩;exact ⟨rfl,h.step c k⟩):P:=h
theorem bQ {P:Prop} (h:P:=by rw [hW];exact ((aD.refl _ _).alloc _).alloc _):P:=h
theorem cB {P:Prop} (h:P:=by rw [beq_eq_false_iff_ne];exact he):P:=h
theorem cG {P:Prop} (h:P:=by rename_i h1 h2;exact absurd (h1.symm.trans h2) hne):P:=h
theorem cO {P:Prop} (h:P:=by push_cast;omega):P:=h
theorem cQ {P:Prop} (h:P:=by have e':0=sb:=e;exact e'.symm):P:=h
theorem cS {P:Prop} (h:P:=by simp only [h,if_false,List.map_cons];rw [ih]):P:=h
theorem cV {P:Prop} (h:P:=by rw [beq_eq_false_iff_ne];exact hx0):P:=h
theorem cW {P:Prop} (h:P:=by rintro e w' ⟨rfl,c,b,k⟩;exact ⟨rfl,h.step c b k,k⟩):P:=h
theorem cX {P:Prop} (h:P:=by simp;omega):P:=h
theorem dF {P:Prop} (h:P:=by (repeat (with_reducible refine aD.setC ?_ _ _ (fun _=>rfl)));exact aD.refl _ _):P:=h
theorem dK {P:Prop} (h:P:=by rcases hop with ⟨rfl,_⟩ | ⟨rfl,_⟩ <;> omega):P:=h
theorem dZ {P:Prop} (h:P:=by have:=HL.out;omega):P:=h
theorem eB {P:Prop} (h:P:=by have:=congrArg List.length hL;simpa using this):P:=h
theorem eE {P:Prop} (h:P:=by rw [hW];exact aB (aL (aI _ _ _ (by simp)) _) 0):P:=h
theorem eF {P:Prop} (h:P:=by unfold kC;rw [HCK.out,HGD.out];simp;omega):P:=h
theorem eI {P:Prop} (h:P:=by rw [hW];exact ((((aD.refl _ _).alloc _).alloc _).alloc _).alloc _):P:=h
theorem eL {P:Prop} (h:P:=by cases e):P:=h
theorem eM {P:Prop} (h:P:=by rw [ByteArray.size_append];omega):P:=h
theorem eN {P:Prop} (h:P:=by rw [hW1];exact HK1.out.setC 0 _ (fun h=>absurd h (Nat.lt_irrefl _))):P:=h
theorem eQ {P:Prop} (h:P:=by show (gY bZ).size≤_;rw [kM];decide):P:=h
theorem eU {P:Prop} (h:P:=by show (pV++_).size≠18;rw [ByteArray.size_append,iU];decide):P:=h
theorem eV {P:Prop} (h:P:=by show ¬ (pV++_).size=4;rw [ByteArray.size_append,iU];decide):P:=h
theorem eY {P:Prop} (h:P:=by rw [hW];exact aB (aL (aI w _ _ rfl) _) 0):P:=h
theorem fC {P:Prop} (h:P:=by rintro e w' ⟨rfl,c,b,k⟩;exact ⟨rfl,q.step c b k,((aD.refl _ _).trans k0 (fun _ _ e=>e.elim)).trans k (fun _ _ e=>e)⟩):P:=h
theorem fI {P:Prop} (h:P:=by simp [Builtin.delete_,run_underlying ht,MapKept.run_getObj_map hb,E.check,hf,run_setObj_map _ hb,Result.andThen,aO]):P:=h
theorem fM {P:Prop} (h:P:=by rw [hW];exact (((aD.refl _ _).alloc _).alloc _).alloc _):P:=h
theorem fT {P:Prop} (h:P:=by unfold mG;rw [HCK.out,if_neg (by omega),if_neg (by omega),if_neg (by unfold kC;rw [HCK.out,HGD.out];simp;omega)]):P:=h
theorem fU {P:Prop} (h:P:=by unfold mG;rw [HCK.out,if_neg (by omega),if_neg (by omega),if_pos (by unfold kC;rw [HCK.out,HGD.out];simp;omega)]):P:=h
theorem fZ {P:Prop} (h:P:=by simpa using hi):P:=h
theorem gH {P:Prop} (h:P:=by rw [hW];exact aL (aI _ _ _ (by simp)) _):P:=h
theorem gI {P:Prop} (h:P:=by rw [hr.headers];exact ⟨⟨Nat.le_refl _,by unfold maxLen;omega,fun e=>absurd rfl e⟩,fun e=>absurd rfl e⟩):P:=h
theorem gK {P:Prop} (h:P:=by rw [List.take_add_one,List.getElem?_eq_getElem h];rfl):P:=h
theorem gN {P:Prop} (h:P:=by simp only [ByteArray.append_assoc]):P:=h
theorem gO {P:Prop} (h:P:=by have:=HIN.out;omega):P:=h
theorem gR {P:Prop} (h:P:=by rw [hW];exact ((kF w2).keep ((((aD.refl (fun _=>False) _).alloc _).alloc _).alloc _) (fun e=>e))):P:=h
theorem iD {P:Prop} (h:P:=by rw [hW];exact aL (aI w _ _ rfl) _):P:=h
theorem iI {P:Prop} (h:P:=by show _=_;rw [fW,e];rfl):P:=h
theorem iJ {P:Prop} (h:P:=by unfold aZ;simp only [ByteArray.append_assoc]):P:=h
theorem jH {P:Prop} (h:P:=by rw [kT];decide):P:=h
theorem jI {P:Prop} (h:P:=by simp only [ByteArray.size_append,dB]):P:=h
theorem jQ {P:Prop} (h:P:=by cases h):P:=h
theorem jU {P:Prop} (h:P:=by subst hji;exact hy.wpOp hi ⟨hS.1 (hsub.open hk),hS.2⟩ ⟨(gM.skip hki).2 hS,H⟩):P:=h
theorem jW {P:Prop} (h:P:=by rw [kM];decide):P:=h
theorem jX {P:Prop} (h:P:=by unfold maxLen;omega):P:=h
theorem jY {P:Prop} (h:P:=by unfold wrap64;omega):P:=h
theorem lE {P:Prop} (h:P:=by rw [hW1];exact aM B1.out 0 _):P:=h
theorem lM {P:Prop} (h:P:=by rw [IntWalk.i64_in _ (by omega)];omega):P:=h
theorem lR {P:Prop} (h:P:=by have:=Tpc.mZ hR R.all.length;rw [List.take_length] at this;exact this):P:=h
theorem lW {P:Prop} (h:P:=by show K0 w W;rw [hW];exact HK2.out.setC 0 _ (fun e=>absurd e (Nat.lt_irrefl _))):P:=h
theorem mA {P:Prop} (h:P:=by have:=(hFR _ e).1;have:=k0.size;omega):P:=h
theorem mL {P:Prop} (h:P:=by rw [hW];exact ((aD.refl (fun j=>j=stb) w2).setC 5 _ (fun _=>rfl)).alloc _):P:=h
theorem mO {P:Prop} (h:P:=by rw [dC];decide):P:=h
theorem mP {P:Prop} (h:P:=by show ¬ epoch<(dL M 3).epoch;omega):P:=h
theorem mQ {P:Prop} (h:P:=by unfold uK;rw [hE];rfl):P:=h
theorem mR {P:Prop} (h:P:=by unfold uL;rw [hE];rfl):P:=h
theorem nI {P:Prop} (h:P:=by rw [dX];have:=ho.size;omega):P:=h
theorem nJ {P:Prop} (h:P:=by unfold uK;rw [if_pos hE,HCK.out]):P:=h
theorem nW {P:Prop} (h:P:=by rw [hW];exact aL (aL (aI _ _ _ (by simp)) _) _):P:=h
theorem oB {P:Prop} (h:P:=by rw [h] at hr;cases hr):P:=h
theorem pG {P:Prop} (h:P:=by have h1:=hperm.length_eq;have:=HFL.out;simp [Dsk.cR] at h1;omega):P:=h
theorem pJ {P:Prop} (h:P:=by rw [hW];exact aI _ _ _ rfl):P:=h
theorem pP {P:Prop} (h:P:=by rw [HPE.out,HFF.out]):P:=h
theorem pQ {P:Prop} (h:P:=by rw [kJ];omega):P:=h
theorem pU {P:Prop} (h:P:=by intro e;rw [e] at hi;simp at hi):P:=h
theorem pX {P:Prop} (h:P:=by rw [dC,jL];omega):P:=h
theorem pY {P:Prop} (h:P:=by show _=_;rw [fW,hb];rfl):P:=h
theorem pZ {P:Prop} (h:P:=by simp [dI,hx]):P:=h
theorem qA {P:Prop} (h:P:=by simp only [h,if_false];exact ih):P:=h
theorem qW {P:Prop} (h:P:=by rw [e];exact sX _ (by have:=hs p hp;unfold maxLen;omega)):P:=h
theorem qX {P:Prop} (h:P:=by rw [hW];exact aL (aL (aI _ _ _ rfl) _) _):P:=h
theorem sB {P:Prop} (h:P:=by rename_i he;exact absurd h he):P:=h
theorem tH {P:Prop} (h:P:=by rw [iU];decide):P:=h
theorem tK {P:Prop} (h:P:=by simpa [hm] using c):P:=h
theorem tP {P:Prop} (h:P:=by subst hji;exact hy.wpOp hi hS.2 ⟨(gM.skip hki).2 hS,H⟩):P:=h
theorem tT {P:Prop} (h:P:=by have q':j=sb:=q;exact q'▸e):P:=h
theorem vD {P:Prop} (h:P:=by rw [← q4];exact List.mem_map_of_mem (List.getElem_mem _)):P:=h
theorem vP {P:Prop} (h:P:=by simp [hn]):P:=h
theorem wP {P:Prop} (h:P:=by rintro en w' ⟨rfl,c,k⟩;exact ⟨rfl,(h.one c k).1⟩):P:=h
theorem xK {P:Prop} (h:P:=by intro e;subst e;simp at hk):P:=h
theorem xV {P:Prop} (h:P:=by rw [hW];exact aL (aM HB2.out 5 _) _):P:=h
theorem xX {P:Prop} (h:P:=by show _=_;simp [vK];omega):P:=h
theorem xY {P:Prop} (h:P:=by show ¬ _<pre.size+1;omega):P:=h
theorem yO {P:Prop} (h:P:=by rw [List.take_add_one,List.getElem?_eq_getElem hk];rfl):P:=h
theorem yP {P:Prop} (h:P:=by show some (Value.int .i64 (H.count:Int))=_;rw [hc];rfl):P:=h
theorem zG {P:Prop} (h:P:=by rintro e w' ⟨rfl,c,k⟩;exact ⟨rfl,h1.step c k⟩):P:=h
theorem zH {P:Prop} (h:P:=by rw [bX,if_pos rfl]):P:=h
theorem aBi {P:Prop} (h:P:=by rintro en w' ⟨rfl,c,k⟩;exact ⟨rfl,h.one c k⟩):P:=h
theorem aBx {P:Prop} (h:P:=by rfl):P:=h
theorem aBy {P:Prop} (h:P:=by rw [List.size_toArray,HL8.out];exact Nat.le_refl 10):P:=h
theorem aD9 {P:Prop} (h:P:=by decide +kernel):P:=h
theorem aEf {P:Prop} (h:P:=by have:=hpm.length_eq;have:=HL.out;simp at *;omega):P:=h
theorem aFd {P:Prop} (h:P:=by simpa using hj):P:=h
theorem aFe {P:Prop} (h:P:=by simpa using n3):P:=h
theorem aFs {P:Prop} (h:P:=by rw [HCK.out];exact hkl):P:=h
theorem aH8 {P:Prop} (h:P:=by rw [List.size_toArray,hl];exact Nat.le_refl 10):P:=h
theorem aIn {P:Prop} (h:P:=by rw [hW];exact h.k0 ((aD.refl _ _).alloc _)):P:=h
theorem aIo {P:Prop} (h:P:=by simp [hL,jK hg]):P:=h
theorem aKc {P:Prop} (h:P:=by rename_i hk;simp [List.findIdx_cons,hk,ih h]):P:=h
theorem aOl {P:Prop} (h:P:=by rw [getD_set_ne true hjk] at hun;exact hun):P:=h
theorem aO6 {P:Prop} (h:P:=by cases q.flag <;> (constructor <;> decide)):P:=h
theorem aO7 {P:Prop} (h:P:=by have:=hFP j e;omega):P:=h
theorem aO9 {P:Prop} (h:P:=by rw [hW];exact HK1.out.cell' e1 (fun e=>e)):P:=h
theorem aPa {P:Prop} (h:P:=by rw [hu0,hd0,hv0];exact vT.start HLT.out):P:=h
theorem aPb {P:Prop} (h:P:=by simp [h'] at h0 h1;rw [h0] at h1;cases h1):P:=h
theorem aPc {P:Prop} (h:P:=by subst hx;simp [aQ,hv,List.findIdx_cons]):P:=h
theorem aSc {P:Prop} (h:P:=by unfold hY;split <;> split <;> decide):P:=h
theorem aSl {P:Prop} (h:P:=by have:=h.name;omega):P:=h
theorem aSm {P:Prop} (h:P:=by rw [HCK.out];omega):P:=h
theorem aSn {P:Prop} (h:P:=by rw [h.agetL,e];rfl):P:=h
theorem aSo {P:Prop} (h:P:=by rw [hW5];exact (aD.refl _ _).alloc _):P:=h
theorem aSp {P:Prop} (h:P:=by rw [hW];exact aM HY2.out 0 _):P:=h
theorem aSq {P:Prop} (h:P:=by rw [hw4];exact (aD.refl _ _).drewN _):P:=h
theorem aSr {P:Prop} (h:P:=by rw [hwb];exact (aD.refl _ _).alloc _):P:=h
theorem aSs {P:Prop} (h:P:=by simp only [List.length_cons] at h;omega):P:=h
end Go.Proofs.YteapahcklcldkaaGreatDoor
