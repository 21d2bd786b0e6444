/-
  The statement is proved: all that it reaches, in parts.
-/
import Derived.Test.YteapahcklcldkaaGreatDoorW05
import Derived.IntWalk
import Derived.Laws.IdiomStrings
import Derived.Deep.OwnRows
import Derived.LoopN
import Derived.Lib.EndianBits
import Derived.Deep.CutRange
import Derived.Shelf.Strings.BuilderX
import Derived.Lib.Builder
import Derived.Lib.AppendStr
import Derived.Lib.UnsafeStr
import Derived.Laws.Externs
import Derived.Shelf.RegionOpenPlain
set_option maxRecDepth 100000
set_option maxHeartbeats 16000000
namespace Go.Proofs.YteapahcklcldkaaGreatDoor
open Go.RowKit Fx
theorem aV7 {a b:Nat} (ha:a<256) (hb:b<256) (h:UInt8.ofNat (a:Int).toNat=UInt8.ofNat (b:Int).toNat):a=b:=by
 have:=congrArg UInt8.toNat h
 simp only [Int.toNat_natCast,UInt8.toNat_ofNat'] at this
 omega
theorem aAd:∀ {m m':List Nat},(∀ b∈m,b<256)→(∀ b∈m',b<256)→(m.map fun b:Nat=>UInt8.ofNat (b:Int).toNat)=(m'.map fun b:Nat=>UInt8.ofNat (b:Int).toNat)→m=m'
 | [],[],_,_,_=>rfl
 | [],_::_,_,_,h=>by cases h
 | _::_,[],_,_,h=>by cases h
 | a::m,b::m',h1,h2,h=>by
  simp only [List.map_cons,List.cons.injEq] at h
  rw [aV7 (h1 a List.mem_cons_self) (h2 b List.mem_cons_self) h.1,aAd (fun x hx=>h1 x (List.mem_cons_of_mem _ hx)) (fun x hx=>h2 x (List.mem_cons_of_mem _ hx)) h.2]
theorem eZ (m:List Nat):(bP m).data.toList=m.map fun b:Nat=>UInt8.ofNat (b:Int).toNat:=by
 unfold bP
 rw [strOfNums_data,List.map_map]
 rfl
theorem aMr {m m':List Nat} (h1:∀ b∈m,b<256) (h2:∀ b∈m',b<256):bP m=bP m'↔m=m':=by
 refine ⟨fun e=>aAd h1 h2 ?_,fun e=>by rw [e]⟩
 rw [← eZ,← eZ,e]
theorem aM9 (s:ByteArray) (p n:Nat):s.extract p (p+n)=bP ((cF s p).take n):=by
 have h:(s.extract p (p+n)).data.toList=(bP ((cF s p).take n)).data.toList:=by
  rw [eZ]
  simp only [ByteArray.data_extract,Array.toList_extract,cF,List.extract_eq_take_drop,Nat.add_sub_cancel_left,List.map_take,List.map_map]
  rw [List.map_congr_left (g:=id)]
  ·simp
  ·intro x _
   simp [Function.comp]
 cases hs:s.extract p (p+n)
 cases hb:bP ((cF s p).take n)
 rw [hs,hb] at h
 exact congrArg ByteArray.mk (Array.toList_inj.1 h)
theorem aOw {l:List Nat} (h:∀ b∈l,b<256) (n:Nat):∀ b∈l.take n,b<256:=fun b hb=>h b (List.mem_of_mem_take hb)
theorem aOc {s:ByteArray} {p:Nat} (hk:bS (cF s p)<10) (h:bS (cF s p)<(cF s p).length) :
  putB (dz (hv ((cF s p).take (bS (cF s p)+1)) % 18446744073709551616))=s.extract p (p+bS (cF s p)+1)↔kC (cF s p)=true:=by
 rw [Nat.add_assoc,aM9]
 unfold putB
 rw [aXo,aMr (sQ _) (aOw (iB s p) _),aMi (iB s p) hk h]
theorem aTx {a b:ByteArray}:(a.toList==b.toList)=decide (a=b):=by
 by_cases h:a=b
 ·subst h;simp
 ·rw [decide_eq_false h]
  simp only [beq_eq_false_iff_ne,ne_eq]
  intro e
  rw [ByteArray.toList_eq,ByteArray.toList_eq] at e
  refine h ?_
  cases a;cases b
  simp only [ByteArray.mk.injEq]
  exact Array.toList_inj.1 e
theorem aWw {x:Int} (h1:-9223372036854775808≤x) (h2:x≤9223372036854775807):wrap64 x=x:=by unfold wrap64;omega
theorem nB {s:ByteArray} {a:Int} (h:gD s a=0):0≤a∧a<dW s a∧dW s a≤s.size∧-9223372036854775808≤dE s a∧dE s a≤9223372036854775807:=by
 unfold gD at h
 split at h
 ·cases h
 ·rename_i hb
  unfold dW dE
  rw [if_neg hb,if_neg hb]
  obtain ⟨h1,h2,h3⟩:=uJ h
  unfold uL uK
  rw [if_pos h,if_pos h]
  have hl:=kJ s a.toNat
  have hv:=aXg (kO (iB s a.toNat) h1 h2 h3)
  omega
theorem aSd {s:ByteArray} {a:Int} (h:¬ gD s a=0):dE s a=0∧dW s a=0:=by
 unfold gD at h
 unfold dE dW
 split at h
 ·rename_i hb;rw [if_pos hb,if_pos hb];exact ⟨rfl,rfl⟩
 ·rename_i hb
  rw [if_neg hb,if_neg hb]
  unfold uK uL
  rw [if_neg h,if_neg h]
  exact ⟨rfl,rfl⟩
def tU (s:ByteArray) (a m:Int):Int:=if gD s a=0 then (if dE s a<0∨m<dE s a then 3 else if s.size - dW s a<dE s a then 2 else 0) else gD s a
def tkT (s:ByteArray) (a m:Int):Int:=if tU s a m=0 then dW s a+dE s a else 0
def tkS (s:ByteArray) (a m:Int):ByteArray:=if tU s a m=0 then s.extract (dW s a).toNat (dW s a+dE s a).toNat else ⟨#[]⟩
theorem aR7 {s:ByteArray} {a m:Int} (h:tU s a m=0):0≤a∧a<tkT s a m∧tkT s a m≤s.size∧gD s a=0∧0≤dE s a∧dE s a≤m:=by
 unfold tkT
 rw [if_pos h]
 unfold tU at h
 split at h
 ·rename_i h1
  have:=nB h1
  split at h
  ·cases h
  ·split at h
   ·cases h
   ·omega
 ·rename_i h1;exact absurd h h1
theorem bU {n:Int} (h:-9223372036854775808≤n∧n≤9223372036854775807):(putB n).size≤10:=by
 unfold putB bP
 rw [strOfNums_size,List.length_map]
 exact aEc (aL9 h)
def kN (w:World) (s:ByteArray) (a m:Int) (e:Ending) (w':World):Prop:=e=.returned (.tuple #[.string (tkS s a m),.int .i64 (tkT s a m),.int .i64 (tU s a m)])∧K0 w w'
theorem aBu (s:ByteArray) (a m:Int) (w:World) (hs:s.size≤9223372036854775807) (ha:a≤9223372036854775807) :
  Calls Tryz.prog 174 #[.string s,.int .i64 a,.int .i64 m] w (kN w s a m):=by
 have HG:=Lib.hid (vI s a w hs ha)
 have HP:Hid (∀ r t x w',tkS s a m=r→tkT s a m=t→tU s a m=x→K0 w w'→kN w s a m (.returned (.tuple #[.string r,.int .i64 t,.int .i64 x])) w'):=by
  show ∀ _ _ _ _,_→_→_→_→_
  rintro r t x w' rfl rfl rfl hk
  exact ⟨rfl,hk⟩
 have HB:Hid (∀ x w',¬ x=0→tU s a m=x→K0 w w'→kN w s a m (.returned (.tuple #[.string ⟨#[]⟩,.int .i64 0,.int .i64 x])) w'):=by
  show ∀ _ _,_→_→_→_
  intro x w' hx hx2 hk
  exact HP.out _ _ _ w' (by unfold tkS;rw [hx2,if_neg hx]) (by unfold tkT;rw [hx2,if_neg hx]) hx2 hk
 unfold iO at HG
 by_cases he:gD s a=0
 ·have hok:=nB he
  have hE:tU s a m=if dE s a<0∨m<dE s a then 3 else if s.size - dW s a<dE s a then 2 else 0:=by unfold tU;rw [if_pos he]
  have hS:tU s a m=0→tkS s a m=s.extract (dW s a).toNat (dW s a+dE s a).toNat:=fun h=>by unfold tkS;rw [if_pos h]
  have hT:tU s a m=0→tkT s a m=dW s a+dE s a:=fun h=>by unfold tkT;rw [if_pos h]
  rw [he] at HG
  generalize dE s a=n at HG hok hE hS hT
  generalize dW s a=t at HG hok hE hS hT
  obtain ⟨p,rfl⟩:∃ p:Nat,t=p:=⟨t.toNat,by omega⟩
  obtain ⟨k1,k2,k3,k4,k5⟩:=hok
  clear he
  by_cases h1:n<0
  ·have HX:=Lib.hid (HB.out 3)
   have HE:Hid (tU s a m=3):=by show _=_;rw [hE,if_pos (.inl h1)]
   clear hE hS hT
   go_enter Tryz.func174,Tryz.ntmps174
   go_wp2_with fail
   refine HG.out.mono ?_
   rintro e w1 ⟨rfl,rfl⟩
   go_wp2
   go_ret3
   exact HX.out _ aE HE.out (aD.refl _ _)
  ·by_cases h2:m<n
   ·have HX:=Lib.hid (HB.out 3)
    have HE:Hid (tU s a m=3):=by show _=_;rw [hE,if_pos (.inr h2)]
    clear hE hS hT
    go_enter Tryz.func174,Tryz.ntmps174
    go_wp2_with fail
    refine HG.out.mono ?_
    rintro e w1 ⟨rfl,rfl⟩
    go_wp2
    go_ret3
    exact HX.out _ aE HE.out (aD.refl _ _)
   ·rw [if_neg aA] at hE
    by_cases h3:(s.size:Int) - p<n
    ·have HX:=Lib.hid (HB.out 2)
     have HE:Hid (tU s a m=2):=by show _=_;rw [hE,if_pos h3]
     clear hE hS hT
     go_enter Tryz.func174,Tryz.ntmps174
     go_wp2_with fail
     refine HG.out.mono ?_
     rintro e w1 ⟨rfl,rfl⟩
     go_wp2
     go_ret3
     exact HX.out _ aE HE.out (aD.refl _ _)
    ·rw [if_neg h3] at hE
     obtain ⟨q,rfl⟩:∃ q:Nat,n=q:=⟨n.toNat,by omega⟩
     have HE:=Lib.hid hE
     have HS:=Lib.hid (hS hE)
     have HT:=Lib.hid (hT hE)
     have g1:(p:Int)+q≤s.size:=aA
     have g2:(p:Int)≤p+q:=aA
     clear hE hS hT
     go_enter Tryz.func174,Tryz.ntmps174
     go_wp2_with fail
     refine HG.out.mono ?_
     rintro e w1 ⟨rfl,rfl⟩
     go_wp2
     go_ret3
     exact HP.out _ _ _ _ (by rw [HS.out];congr 1) HT.out HE.out (aD.refl _ _)
 ·have HE:Hid (tU s a m=gD s a):=by show _=_;unfold tU;rw [if_neg he]
  have q0:(gD s a==0)=false:=cB
  have HNE:=Lib.hid he
  generalize gD s a=x at HG HE q0 HNE
  clear he
  go_enter Tryz.func174,Tryz.ntmps174
  go_wp2_with fail
  refine HG.out.mono ?_
  rintro e w1 ⟨rfl,rfl⟩
  go_wp2
  go_ret3
  exact HB.out _ _ HNE.out HE.out (aD.refl _ _)
theorem aIk (s:ByteArray) (w:World) (hs:s.size≤1000000000000):Calls Tryz.prog 173 #[.string s] w fun e w'=>e=.returned (.string (putB s.size++s))∧K0 w w':=by
 have HP:Hid (∀ wx,Calls Tryz.prog 172 #[.int .i64 s.size] wx fun e w'=>e=.returned (.string (putB s.size))∧K0 wx w'):=by
  show ∀ _,_
  intro wx
  exact vJ s.size wx aA aA
 have hcc:¬ 9223372036854775807<(putB (s.size:Int)).size+s.size:=by
  have:=bU (n:=(s.size:Int)) ⟨by omega,by omega⟩
  omega
 go_enter Tryz.func173,Tryz.ntmps173
 go_wp2_with fail
 refine (HP.out _).mono ?_
 rintro e w1 ⟨rfl,hk⟩
 have HK:=Lib.hid hk
 clear hk
 go_wp2
 go_ret
 exact ⟨rfl,HK.out⟩
def be4 (n:Nat):List Nat:=[n / 16777216 % 256,n / 65536 % 256,n / 256 % 256,n % 256]
def dR (n:Nat):ByteArray:=bP (be4 n)
theorem aM0 {w:World} {g cap:Nat} {a b c d:Nat} (h0:w.cell? ⟨g,0,none⟩=some (.int .u8 (a:Int))) (h1:w.cell? ⟨g,1,none⟩=some (.int .u8 (b:Int))) (h2:w.cell? ⟨g,2,none⟩=some (.int .u8 (c:Int))) (h3:w.cell? ⟨g,3,none⟩=some (.int .u8 (d:Int))) :
  (convert 230 9 (.slice (some ⟨g,0,none⟩) 4 cap)).run Tryz.prog w=.ok (.string (bP [a,b,c,d])) w:=by
 refine run_convert_bytes_arg w 230 5 Tryz.underlying230 Tryz.underlying5 g 0 4 cap ([a,b,c,d].map fun b:Nat=>(b:Int)) rfl (fun j hj=>?_) 9 Tryz.underlying9
 rw [Nat.zero_add]
 match j,hj with
 | 0,_=>exact h0
 | 1,_=>exact h1
 | 2,_=>exact h2
 | 3,_=>exact h3
theorem wF (n:Nat) (w:World) (h:n<4294967296) :
  Calls Tryz.prog 48 #[.int .i64 n,.int .i64 4] w fun e w'=>e=.returned (.tuple #[.string (dR n),.int .i64 0])∧K0 w w':=by
 have hmc:madeCells #[Value.int .u8 0] 4=#[.int .u8 0,.int .u8 0,.int .u8 0,.int .u8 0]:=aF
 have hmk:∀ w:World,(Instr.makeSlice 230 (.int .i64 4) (.int .i64 4)).run Tryz.prog w=.ok (.slice (some ⟨w.heap.size,0,none⟩) 4 4) (w.alloc (.cells (madeCells #[.int .u8 0] 4) 5)):=run_make_row' (P:=Tryz.prog) 230 5 (.int .u8 0) 1 Tryz.underlying230 jN rfl .i64 .i64 4 aE aE
 rw [hmc] at hmk
 have hcv:(convert 230 9 (.slice (some ⟨w.heap.size,0,none⟩) 4 4)).run Tryz.prog (w.alloc (.cells #[.int .u8 ((n:Int) / 16777216),.int .u8 ((n:Int) / 65536 % 256),.int .u8 ((n:Int) / 256 % 256),.int .u8 ((n:Int) % 256)] 5)) =
   .ok (.string (dR n)) (w.alloc (.cells #[.int .u8 ((n:Int) / 16777216),.int .u8 ((n:Int) / 65536 % 256),.int .u8 ((n:Int) / 256 % 256),.int .u8 ((n:Int) % 256)] 5)):=by
  have e0:(n:Int) / 16777216=((n / 16777216 % 256:Nat):Int):=aA
  have e1:(n:Int) / 65536 % 256=((n / 65536 % 256:Nat):Int):=aA
  have e2:(n:Int) / 256 % 256=((n / 256 % 256:Nat):Int):=aA
  have e3:(n:Int) % 256=((n % 256:Nat):Int):=aA
  rw [e0,e1,e2,e3]
  exact aM0 (aB (aI w _ _ rfl) 0) (aB (aI w _ _ rfl) 1) (aB (aI w _ _ rfl) 2) (aB (aI w _ _ rfl) 3)
 have i0:(n:Int) / 4294967296=0:=aA
 have i1:(0:Int)≤n:=aA
 go_enter Tryz.func48,Tryz.ntmps48
 go_wp2
 refine wp_loop_rounds 5 ?_
 rw [rounds_succ]
 go_wp2
 rw [rounds_succ]
 go_wp2
 rw [rounds_succ]
 go_wp2
 rw [rounds_succ]
 go_wp2
 rw [rounds_succ]
 go_wp2
 go_ret2
 exact ⟨rfl,(aD.refl _ _).alloc _⟩
def rd4 (s:ByteArray) (p:Nat):Nat:=(((cF s p).getD 0 0*256+(cF s p).getD 1 0)*256+(cF s p).getD 2 0)*256+(cF s p).getD 3 0
def rdE (s:ByteArray) (a:Int):Int:=if a<0∨s.size<a then 1 else if s.size - a<4 then 2 else 0
theorem aUa (u x:Nat) (hu:u<72057594037927936) (hx:x<256):bits BinOp.or IntKind.u64 ((u:Int)*256) (x:Int)=((u*256+x:Nat):Int):=by
 have h1:(u:Int)*256=((u*256:Nat):Int):=aA
 rw [h1,bits_or_u64_nat (u*256) x aA aA]
 have:=Nat.two_pow_add_eq_or_of_lt (i:=8) (b:=x) aA u
 rw [show (2:Nat) ^ 8=256 from rfl] at this
 rw [show u*256=256*u by omega,← this]
theorem aRp (s:ByteArray) (a:Int) (w:World) (hs:s.size≤9223372036854775807) (ha:a≤9223372036854775807) (h:rdE s a≠0) :
  Calls Tryz.prog 56 #[.string s,.int .i64 a,.int .i64 4] w fun e w'=>e=.returned (.tuple #[.int .i64 0,.int .i64 0,.int .i64 (rdE s a)])∧K0 w w':=by
 have hb2:(a<0∧rdE s a=1)∨(¬ a<0∧s.size<a∧rdE s a=1)∨(0≤a∧a≤s.size∧s.size - a<4∧rdE s a=2):=by
  unfold rdE at h ⊢
  by_cases h1:a<0∨s.size<a
  ·rw [if_pos h1];omega
  ·rw [if_neg h1] at h ⊢
   by_cases h2:s.size - a<4
   ·rw [if_pos h2];omega
   ·rw [if_neg h2] at h;exact absurd rfl h
 clear h
 rcases hb2 with ⟨h1,h2⟩ | ⟨h0,h1,h2⟩ | ⟨h0,h1,h3,h2⟩
 all_goals
  rw [h2]
  clear h2
  go_enter Tryz.func56,Tryz.ntmps56
  go_wp2
  go_ret3
  exact ⟨rfl,aD.refl _ _⟩
theorem sM (s:ByteArray) (w:World):∃ cap W,(convert 9 230 (.string s)).run Tryz.prog w=.ok (.slice (some ⟨w.heap.size,0,none⟩) s.size cap) W∧K0 w W∧
  (∀ i (h:i<s.size),W.cell? ⟨w.heap.size,i,none⟩=some (.int .u8 (s[i].toNat:Nat)))∧w.heap.size<W.heap.size:=by
 refine ⟨_,_,run_bytes_of_string w 9 230 5 s Tryz.underlying9 Tryz.underlying230 Tryz.underlying5,((aD.refl (fun _=>False) w).drew).alloc _,fun i h=>?_,by simp⟩
 exact (aB (aI w.drew _ w.heap.size rfl) i).trans (bytesRow_at s _ i h)
theorem aTo {s:ByteArray} {p n i:Nat} (h:p+n≤s.size) (hi:i<n) (h2:i<(s.extract p (p+n)).size):(s.extract p (p+n))[i].toNat=(cF s p).getD i 0:=by
 have h3:i<(cF s p).length:=pQ
 rw [List.getD_eq_getElem?_getD,List.getElem?_eq_getElem h3,wU aA]
 show ((s.extract p (p+n)).data[i]'_).toNat=(s.data[p+i]'_).toNat
 simp [ByteArray.data_extract]
theorem aGv {s:ByteArray} {p n:Nat} (h:p+n≤s.size):(s.extract p (p+n)).size=n:=by simp;omega
def beU (l:List Nat) (k:Nat):Nat:=(l.take k).foldl (fun u x=>u*256+x) 0
theorem aF5 {l:List Nat} {k:Nat} (h:k<l.length):beU l (k+1)=beU l k*256+l[k]:=by
 unfold beU
 rw [List.take_succ_eq_append_getElem h,List.foldl_append]
 rfl
theorem aI0 {l:List Nat} (hb:∀ b∈l,b<256):∀ k,k≤l.length→beU l k<256 ^ k
 | 0,_=>by simp [beU]
 | k+1,h=>by
  rw [aF5 aA]
  have h1:=aI0 hb k aA
  have h2:=hb l[k] (List.getElem_mem _)
  rw [Nat.pow_succ]
  omega
theorem aX1 {l:List Nat} (h:4≤l.length):beU l 4=((l.getD 0 0*256+l.getD 1 0)*256+l.getD 2 0)*256+l.getD 3 0:=by
 match l,h with
 | a::b::c::d::_,_=>simp [beU]
theorem aYp {k:Nat} (h:k≤4):256 ^ k≤4294967296:=Nat.pow_le_pow_right (n:=256) aA h
theorem aE7 (s:ByteArray) (p:Nat) (w:World) (hs:s.size≤9223372036854775807) (h:p+4≤s.size) :
  Calls Tryz.prog 56 #[.string s,.int .i64 p,.int .i64 4] w fun e w'=>e=.returned (.tuple #[.int .i64 (rd4 s p),.int .i64 ((p:Int)+4),.int .i64 0])∧K0 w w':=by
 obtain ⟨cap,W,hcv,hk,hcell,hlt⟩:=sM (s.extract p (p+4)) w
 rw [aGv h] at hcv
 have hrow:∀ i,i<4→W.cell? ⟨w.heap.size,i,none⟩=some (.int .u8 (((cF s p).getD i 0:Nat):Int)):=fun i hi=>by
  have h2:i<(s.extract p (p+4)).size:=by rw [aGv h];exact hi
  rw [hcell i h2,aTo h hi h2]
 have hl:4≤(cF s p).length:=pQ
 have HR:Hid (rd4 s p=beU (cF s p) 4):=by show _=_;rw [aX1 hl];rfl
 have hby:=iB s p
 generalize cF s p=l at hrow hl HR hby
 have HL:=Lib.hid hl
 have HBY:=Lib.hid hby
 have HROW:=Lib.hid hrow
 have HK:=Lib.hid hk
 have hx1:(p:Int)+4≤s.size:=aA
 have hx0:(0:Int)≤p:=aA
 have b1:decide ((p:Int)<0)=false:=aK
 have b3:decide ((s.size:Int)<p)=false:=cX
 clear hcell hrow hl hby hk
 go_enter Tryz.func56,Tryz.ntmps56
 go_wp2
 go_loop [44,9] (fun i u=>∃ k:Nat,i=.int .i64 k∧k≤4∧u=.int .u64 (beU l k:Nat)) (fun i _=>4 - (intOf i).toNat)
 case atStart=>exact ⟨0,rfl,by omega,rfl⟩
 case round=>
  obtain ⟨k,rfl,hk4,rfl⟩:=hrel
  by_cases h4:k<4
  ·have i0:(0:Int)≤k:=by omega
   have i1:(k:Int)<4:=aA
   have c:=HROW.out k h4
   have hx:=HBY.out _ (List.getElem_mem (l:=l) (n:=k) dZ)
   have hu:=aI0 HBY.out k dZ
   have hp:=aYp hk4
   have HS:Hid (beU l (k+1)=beU l k*256+l.getD k 0):=by
    show _=_
    have h3:k<l.length:=dZ
    rw [aF5 h3];simp [List.getD,h3]
   have hgd:l.getD k 0<256:=by
    have h3:k<l.length:=dZ
    simpa [List.getD,h3] using hx
   clear hx
   generalize l.getD k 0=x at c HS hgd
   generalize beU l k=u at hu HS
   have hu2:u<4294967296:=aA
   have HO:=Lib.hid (aUa u x aA hgd)
   clear hu hp
   go_wp2
   go_round
   case rel=>exact ⟨k+1,by go_num,by omega,by rw [HO.out,HS.out]⟩
   case measure=>simp [intOf];omega
  ·obtain rfl:k=4:=by omega
   have hu:=aI0 HBY.out 4 HL.out
   rw [show 256 ^ 4=4294967296 from rfl] at hu
   clear h4
   generalize beU l 4=u at hu HR
   go_wp2
   go_ret3
   exact ⟨by rw [HR.out];rfl,HK.out⟩
theorem dC (l:List Nat):(bP l).size=l.length:=by
 have:=congrArg List.length (eZ l)
 rw [List.length_map,Array.length_toList] at this
 exact this
theorem dB (n:Nat):(dR n).size=4:=dC _
theorem aDk (a b:ByteArray) (p:Nat):cF (a++b) p=cF a p++cF b (p - a.size):=by
 unfold cF
 rw [ByteArray.data_append,Array.toList_append,List.drop_append,List.map_append,Array.length_toList]
 rfl
theorem aKw (n:Nat):cF (dR n) 0=be4 n:=by
 unfold cF dR
 rw [eZ,List.drop_zero,List.map_map]
 simp only [be4,List.map_cons,List.map_nil,Function.comp]
 have h:∀ x:Nat,(UInt8.ofNat ((x % 256:Nat):Int).toNat).toNat=x % 256:=fun x=>by simp;omega
 rw [h,h,h,h]
theorem aE5 (a b:ByteArray) (n:Nat) (h:n<4294967296):rd4 (a++(dR n++b)) a.size=n:=by
 unfold rd4
 have h1:cF (a++(dR n++b)) a.size=be4 n++cF b 0:=by
  rw [aDk,aDk,dB]
  have:cF a a.size=[]:=by
   apply List.eq_nil_of_length_eq_zero
   rw [kJ];omega
  rw [this,show a.size - a.size=0 by omega,aKw]
  rfl
 rw [h1]
 simp [be4]
 omega
def rA:List Nat:=[0,274646895,549293790,820201905,1098587580,1361435347,1640403810,1905808397,2197175160,2460548119,2722870694,2987750089,3280807620,3553878443,3811616794,4084100981]
def stT (i:Nat):Nat:=rA.getD i 0
def bF (w:World):Prop:=∀ i,i<16→w.cell? ⟨0,i,none⟩=some (.int .u32 ((stT i:Nat):Int))
theorem bF.keep {S:Nat→Prop} {w w':World} (h:bF w) (hk:aD S w w') (h0:¬ S 0):bF w':=fun i hi=>hk.cell' (h i hi) h0
theorem bF.keep0 {w w':World} (h:bF w) (hk:K0 w w'):bF w':=h.keep hk (fun e=>e)
def stp (r:Nat):Nat:=(r / 16) ^^^ stT (r % 16)
def uH (r x:Nat):Nat:=stp (stp (r ^^^ x))
def aAk (l:List Nat):Nat:=l.foldl uH 4294967295
def aXf (l:List Nat):Nat:=4294967295 ^^^ aAk l
def crc (s:ByteArray):Nat:=aXf (cF s 0)
theorem aIi (i:Nat):stT i<4294967296:=by
 unfold stT
 by_cases h:i<16
 ·have:∀ j:Fin 16,rA.getD j.val 0<4294967296:=by decide
  exact this ⟨i,h⟩
 ·rw [List.getD_eq_getElem?_getD,List.getElem?_eq_none (by show 16≤i;omega)]
  decide
theorem aKt {r:Nat} (h:r<4294967296):stp r<4294967296:=Nat.xor_lt_two_pow (n:=32) aA (aIi _)
theorem aJe {r x:Nat} (h:r<4294967296) (hx:x<256):uH r x<4294967296:=aKt (aKt (Nat.xor_lt_two_pow (n:=32) h aA))
theorem aCw {l:List Nat} {k:Nat} (h:k<l.length):aAk (l.take (k+1))=uH (aAk (l.take k)) l[k]:=by
 unfold aAk
 rw [List.take_succ_eq_append_getElem h,List.foldl_append]
 rfl
theorem yV {l:List Nat} (hb:∀ b∈l,b<256):∀ k,k≤l.length→aAk (l.take k)<4294967296
 | 0,_=>by simp [aAk]
 | k+1,h=>by
  rw [aCw aA]
  exact aJe (yV hb k aA) (hb _ (List.getElem_mem _))
theorem aFp (a b:Nat) (ha:a<4294967296) (hb:b<4294967296):bits .xor .u32 (a:Int) (b:Int)=((a ^^^ b:Nat):Int):=by
 have hx:a ^^^ b<2 ^ 32:=Nat.xor_lt_two_pow aA aA
 have h1:(BitVec.ofInt 32 (a:Int)).toNat=a:=by
  rw [BitVec.ofInt_natCast,BitVec.toNat_ofNat];exact Nat.mod_eq_of_lt aA
 have h2:(BitVec.ofInt 32 (b:Int)).toNat=b:=by
  rw [BitVec.ofInt_natCast,BitVec.toNat_ofNat];exact Nat.mod_eq_of_lt aA
 show IntKind.u32.wrap ((BitVec.ofInt 32 (a:Int) ^^^ BitVec.ofInt 32 (b:Int)).toNat:Int)=_
 rw [BitVec.toNat_xor,h1,h2,IntKind.wrap_u32]
 omega
theorem aL3 (r:Nat) (h:r<4294967296):bits .xor .u32 ((r:Int) / 16) ((stT (r % 16):Nat):Int)=((stp r:Nat):Int):=by
 rw [show (r:Int) / 16=((r / 16:Nat):Int) by omega]
 exact aFp _ _ aA (aIi _)
theorem aPo (r:Nat) (h:r<4294967296):bits .and .u32 (r:Int) 15=((r % 16:Nat):Int):=by
 have:=bits_mask .u32 32 aE wraps_u32 4 aE r aA aA
 rw [show (2:Int) ^ 4 - 1=15 by decide] at this
 rw [this]
 omega
theorem aJk (s:ByteArray) (w:World) (hst:bF w) (hs:s.size≤9223372036854775807) :
  Calls Tryz.prog 229 #[.int .u32 0,.string s] w fun e w'=>e=.returned (.int .u32 (crc s:Nat))∧K0 w w':=by
 obtain ⟨cap,W,hcv,hk,hcell,hlt⟩:=sM s w
 have hrow:∀ i,i<s.size→W.cell? ⟨w.heap.size,i,none⟩=some (.int .u8 (((cF s 0).getD i 0:Nat):Int)):=fun i hi=>by
  have h3:i<(cF s 0).length:=pQ
  have h4:=wU (s:=s) (p:=0) (k:=i) aA h3
  simp only [Nat.zero_add] at h4
  rw [hcell i hi,List.getD_eq_getElem?_getD,List.getElem?_eq_getElem h3,h4]
  rfl
 have hl:(cF s 0).length=s.size:=pQ
 have hby:=iB s 0
 have HR:Hid (crc s=aXf (cF s 0)):=rfl
 generalize cF s 0=l at hrow hl HR hby
 have HL:=Lib.hid hl
 have HBY:=Lib.hid hby
 have HROW:=Lib.hid hrow
 have HK:=Lib.hid hk
 have HST:=Lib.hid (hst.keep0 hk)
 have hsz:0<W.heap.size:=aA
 clear hcell hrow hl hby hk hst
 go_enter Tryz.func229,Tryz.ntmps229
 go_wp2
 go_loop [13,5] (fun i u=>∃ k:Nat,i=.int .i64 k∧k≤s.size∧u=.int .u32 (aAk (l.take k):Nat)) (fun i _=>s.size - (intOf i).toNat)
 case atStart=>exact ⟨0,rfl,by omega,rfl⟩
 case round=>
  obtain ⟨k,rfl,hk4,rfl⟩:=hrel
  by_cases h4:k<s.size
  ·have i0:(0:Int)≤k:=by omega
   have i1:(k:Int)<s.size:=aA
   have c:=HROW.out k h4
   have h3:k<l.length:=dZ
   have hx:=HBY.out _ (List.getElem_mem (l:=l) (n:=k) h3)
   have hu:=yV HBY.out k dZ
   have HS:Hid (aAk (l.take (k+1))=uH (aAk (l.take k)) (l.getD k 0)):=by
    show _=_
    rw [aCw h3];simp [List.getD,h3]
   have hgd:l.getD k 0<256:=by simpa [List.getD,h3] using hx
   clear hx h3
   generalize l.getD k 0=x at c HS hgd
   generalize aAk (l.take k)=u at hu HS
   have hv:u ^^^ x<4294967296:=Nat.xor_lt_two_pow (n:=32) hu aA
   have e1:=aFp u x hu aA
   have HN:Hid (uH u x=stp (stp (u ^^^ x))):=rfl
   generalize u ^^^ x=v at hv e1 HN
   have e2:=aPo v hv
   have c2:=HST.out (v % 16) aA
   have e3:=aL3 v hv
   have j2:(v:Int) % 16<16:=aA
   have j3:(0:Int)≤(v:Int) % 16:=aA
   have hv2:=aKt hv
   generalize stp v=v2 at e3 hv2 HN
   have f2:=aPo v2 hv2
   have d2:=HST.out (v2 % 16) aA
   have f3:=aL3 v2 hv2
   generalize stp v2=v3 at f3 HN
   have HV:=Lib.hid hv
   have HV2:=Lib.hid hv2
   clear hv hv2 hu
   go_wp2
   refine wp_loop_rounds 3 ?_
   rw [rounds_succ]
   go_wp2
   rw [rounds_succ]
   go_wp2
   rw [rounds_succ]
   go_wp2
   go_round
   case rel=>exact ⟨k+1,by go_num,by omega,by rw [HS.out,HN.out]⟩
   case measure=>simp [intOf];omega
  ·obtain rfl:k=s.size:=by omega
   have HC:=Lib.hid (yV HBY.out s.size dZ)
   rw [← HL.out,List.take_length] at HC
   rw [← HL.out,List.take_length]
   have HE:=Lib.hid (aFp 4294967295 (aAk l) aE HC.out)
   clear h4
   go_wp2
   go_ret
   refine ⟨?_,HK.out⟩
   rw [HR.out]
   exact congrArg (fun x=>Ending.returned (Value.int .u32 x)) HE.out
theorem aJf (s:ByteArray):crc s<4294967296:=by
 have h:=yV (iB s 0) (cF s 0).length (Nat.le_refl _)
 rw [List.take_length] at h
 exact Nat.xor_lt_two_pow (n:=32) aE h
theorem aL4 (s:ByteArray) (w:World) (hst:bF w) (hs:s.size≤9223372036854775807) :
  Calls Tryz.prog 153 #[.string s] w fun e w'=>e=.returned (.int .u32 (crc s:Nat))∧K0 w w':=by
 have H:=Lib.hid (aJk s w hst hs)
 clear hst
 go_enter Tryz.func153,Tryz.ntmps153
 go_wp2_with fail
 refine H.out.mono ?_
 rintro e w1 ⟨rfl,k1⟩
 go_wp2
 go_ret
 exact ⟨rfl,k1⟩
structure yE where
 key:ByteArray
 value:ByteArray
structure dY where
 at_:Int
 time:Int
 bare:Bool
 key:ByteArray
 gone:Bool
 value:ByteArray
 headers:List yE
structure aR where
 base:Int
 span:Int
 prod:Int
 epoch:Int
 seq:Int
 recs:List dY
def zS {α:Type} (D:Nat→Prop) (n:Nat) (R:Rdr α) (w:World) (a:Option Addr) (cap:Nat) (l:List α):Prop:=
 rS n R w a cap l∧(l≠[]→∃ b off,a=some ⟨b,off,none⟩∧D b)
def aRn:Rdr yE:=fun _ cs h=>cs=[.string h.key,.string h.value]∧h.key.size≤maxLen∧h.value.size≤maxLen
def aH1 (D:Nat→Prop):Rdr dY:=fun w cs r=>(∃ a cap,cs=[.int .i64 r.at_,.int .i64 r.time,.bool r.bare,.string r.key,.bool r.gone,.string r.value,.slice a r.headers.length cap]∧zS D 2 aRn w a cap r.headers)∧r.key.size≤maxLen∧r.value.size≤maxLen
def gB (D:Nat→Prop) (w:World) (b:aR) (a:Option Addr) (cap:Nat):Prop:=zS D 7 (aH1 D) w a cap b.recs
section
variable {D D' S:Nat→Prop} {w w':World} {a:Option Addr} {cap:Nat}
theorem zS.lt {α:Type} {n:Nat} {R:Rdr α} {l:List α} (h:zS D n R w a cap l) (hn:0<n) {b off:Nat} (hb:a=some ⟨b,off,none⟩) (hl:l≠[]):b<w.heap.size:=by
 obtain ⟨b',off',h1,h2⟩:=h.1.2.2 hl
 rw [hb] at h1
 cases h1
 obtain ⟨cs,hc1,hc2,_⟩:=h2 0 (List.length_pos_iff.2 hl)
 have:=hc2 0 hn
 rw [List.getElem?_eq_getElem aA] at this
 exact World.block_lt_of_cell? w _ this
theorem zS.keep {α:Type} {n:Nat} {R R':Rdr α} {l:List α} (h:zS D n R w a cap l) (hk:aD S w w') (hD:∀ k,D k→¬ S k) (hDD:∀ k,D k→D' k) (hR:∀ cs x,R w cs x→R' w' cs x):zS D' n R' w' a cap l:=by
 refine ⟨⟨h.1.1,h.1.2.1,fun hne=>?_⟩,fun hne=>?_⟩
 ·obtain ⟨b,off,h1,h2⟩:=h.1.2.2 hne
  obtain ⟨b',off',h3,h4⟩:=h.2 hne
  rw [h1] at h3
  cases h3
  refine ⟨b,off,h1,fun i hi=>?_⟩
  obtain ⟨cs,hc1,hc2,hc3⟩:=h2 i hi
  refine ⟨cs,hc1,fun j hj=>?_,hR _ _ hc3⟩
  have e:=hc2 j hj
  rw [List.getElem?_eq_getElem aA] at e ⊢
  exact hk.cell' e (hD _ h4)
 ·obtain ⟨b',off',h3,h4⟩:=h.2 hne
  exact ⟨b',off',h3,hDD _ h4⟩
theorem aH1.keep {cs:List Value} {r:dY} (h:aH1 D w cs r) (hk:aD S w w') (hD:∀ k,D k→¬ S k) (hDD:∀ k,D k→D' k):aH1 D' w' cs r:=by
 obtain ⟨⟨a,cap,h1,h2⟩,h3⟩:=h
 exact ⟨⟨a,cap,h1,h2.keep hk hD hDD (fun _ _ e=>e)⟩,h3⟩
theorem gB.keep {b:aR} (h:gB D w b a cap) (hk:aD S w w') (hD:∀ k,D k→¬ S k) (hDD:∀ k,D k→D' k):gB D' w' b a cap:=
 zS.keep h hk hD hDD fun _ _ e=>e.keep hk hD hDD
theorem gB.keep0 {b:aR} (h:gB D w b a cap) (hk:K0 w w'):gB D w' b a cap:=h.keep hk (fun _ _ e=>e) (fun _ e=>e)
theorem aH1.keep0 {cs:List Value} {r:dY} (h:aH1 D w cs r) (hk:K0 w w'):aH1 D w' cs r:=h.keep hk (fun _ _ e=>e) (fun _ e=>e)
theorem gB.nil (D:Nat→Prop) (w:World) (b:aR) (h:b.recs=[]):gB D w b none 0:=by
 unfold gB
 rw [h]
 exact ⟨⟨Nat.le_refl _,by unfold maxLen;omega,fun e=>absurd rfl e⟩,fun e=>absurd rfl e⟩
theorem zS.cells {α:Type} {n:Nat} {R:Rdr α} {l:List α} (h:zS D n R w a cap l) {b off:Nat} (ha:a=some ⟨b,off,none⟩) {k:Nat} (hk:k<l.length):∃ cs,cs.length=n∧(∀ j,j<n→w.cell? ⟨b,off+k*n+j,none⟩=cs[j]?)∧R w cs l[k]:=by
 obtain ⟨b',off',h1,h2⟩:=h.1.2.2 xK
 rw [ha] at h1
 cases h1
 exact h2 k hk
theorem zS.addr {α:Type} {n:Nat} {R:Rdr α} {l:List α} (h:zS D n R w a cap l) {k:Nat} (hk:k<l.length):∃ b off,a=some ⟨b,off,none⟩∧D b:=h.2 xK
theorem aC4 {l:List yE} (h:zS D 2 aRn w a cap l) {k:Nat} (hk:k<l.length):∃ b off,a=some ⟨b,off,none⟩∧w.cell? ⟨b,off+k*2,none⟩=some (.string l[k].key)∧w.cell? ⟨b,off+k*2+1,none⟩=some (.string l[k].value)∧b<w.heap.size∧l[k].key.size≤maxLen∧l[k].value.size≤maxLen:=by
 obtain ⟨b,off,ha,_⟩:=h.addr hk
 obtain ⟨cs,h1,h2,rfl,h3,h4⟩:=h.cells ha hk
 have e0:w.cell? ⟨b,off+k*2,none⟩=some (.string l[k].key):=h2 0 aA
 exact ⟨b,off,ha,e0,h2 1 aA,World.block_lt_of_cell? w _ e0,h3,h4⟩
end
def lK (h:yE):Bool:=!h.key.toList.isEmpty&&decide (h.key.size≤1000∧h.value.size≤1000)
def aBg (r:dY):Bool:=
 decide (0≤r.at_∧r.at_≤49∧0≤r.time∧r.time≤1099511627776)&&decide (r.key.size≤1000∧r.value.size≤1000∧r.headers.length≤10) &&
 !(r.bare&&(!r.key.toList.isEmpty||r.gone)||r.gone&&!r.value.toList.isEmpty)
def jV (r:dY):Bool:=aBg r&&r.headers.all lK
theorem aJn {l:List yE} {k:Nat} (hk:k<l.length) (h:lK l[k]=false):l.all lK=false:=by
 rw [List.all_eq_false]
 exact ⟨l[k],List.getElem_mem _,by rw [h];decide⟩
theorem aNg {l:List yE} (h:∀ k (hk:k<l.length),lK l[k]=true):l.all lK=true:=by
 rw [List.all_eq_true]
 intro x hx
 obtain ⟨k,hk,rfl⟩:=List.getElem_of_mem hx
 exact h k hk
theorem uM (s:ByteArray):s.toList=[]↔s.size=0:=by
 rw [ByteArray.toList_eq]
 show s.data.toList=[]↔s.data.size=0
 rw [← List.length_eq_zero_iff,Array.length_toList]
def aQb (b:Bool):Int:=if b then 0 else 1
theorem nO (D:Nat→Prop) (r:dY) (a:Option Addr) (cap:Nat) (w:World) (h:zS D 2 aRn w a cap r.headers) (h1:r.key.size≤maxLen) (h2:r.value.size≤maxLen) :
  Calls Tryz.prog 234 #[.agg #[.int .i64 r.at_,.int .i64 r.time,.bool r.bare,.string r.key,.bool r.gone,.string r.value,.slice a r.headers.length cap]] w fun e w'=>e=.returned (.int .i64 (aQb (jV r)))∧K0 w w':=by
 have hc1:=h1
 have hc2:=h2
 unfold maxLen at hc1 hc2
 have hhl:=h.1.1
 have hhc:=h.1.2.1
 unfold maxLen at hhc
 have HH:=Lib.hid h
 clear h h1 h2
 go_enter Tryz.func234,Tryz.ntmps234
 have HF:Hid (aBg r=false→∀ w',K0 w w'→(Ending.returned (.int .i64 1)=Ending.returned (.int .i64 (aQb (jV r)))∧K0 w w')):=fun e w' k=>⟨by unfold jV;rw [e];rfl,k⟩
 have HFH:Hid (∀ k (hk:k<r.headers.length),lK r.headers[k]=false→∀ w',K0 w w'→(Ending.returned (.int .i64 1)=Ending.returned (.int .i64 (aQb (jV r)))∧K0 w w')):=fun k hk e w' k0=>⟨by unfold jV;rw [aJn hk e,Bool.and_false];rfl,k0⟩
 have HT:Hid (aBg r=true→(∀ k (hk:k<r.headers.length),lK r.headers[k]=true)→∀ w',K0 w w'→(Ending.returned (.int .i64 0)=Ending.returned (.int .i64 (aQb (jV r)))∧K0 w w')):=fun e hh w' k0=>⟨by unfold jV;rw [aNg hh,e];rfl,k0⟩
 cases hvv:r.value.toList.isEmpty
 all_goals go_wp2
 all_goals first
  | (
    go_ret
    exact HF.out (by simp [aBg, *] <;> omega) _ ((aD.refl _ _).alloc _))
  | skip
 all_goals
  have HP:Hid (aBg r=true):=by
   show _=_
   simp [aBg, *] <;> omega
 all_goals
  go_loopw [8] (fun i wr=>∃ k:Nat,i=.int .i64 k∧k≤r.headers.length∧(∀ j (hj:j<r.headers.length),j<k→lK r.headers[j]=true)∧K0 w wr) (fun i _=>r.headers.length - (intOf i).toNat)
  case atStart=>exact ⟨0,rfl,by omega,fun j hj h=>absurd h aA,(aD.refl _ _).alloc _⟩
  case round=>
   obtain ⟨k,rfl,hk,hall,k0⟩:=hrel
   by_cases hlt:k<r.headers.length
   ·obtain ⟨b,off,rfl,c0,c1,hb,m1,m2⟩:=aC4 (HH.out.keep (D':=D) k0 (fun _ _ e=>e) (fun _ e=>e) (fun _ _ e=>e)) hlt
    unfold maxLen at m1 m2
    have HALL:Hid (lK r.headers[k]=true→∀ j (hj:j<r.headers.length),j<k+1→lK r.headers[j]=true):=fun e j hj h=>by
     by_cases hjk:j=k
     ·subst hjk;exact e
     ·exact hall j hj aA
    have HK:=Lib.hid k0
    have HFK:Hid (lK r.headers[k]=false→∀ w',K0 w w'→(Ending.returned (.int .i64 1)=Ending.returned (.int .i64 (aQb (jV r)))∧K0 w w')):=fun e=>HFH.out k hlt e
    have i0:(0:Int)≤k:=aA
    have i1:(k:Int)<r.headers.length:=aA
    clear hall k0
    generalize r.headers[k]=hd at c0 c1 m1 m2 HALL HFK
    go_wp2
    all_goals first
     | (
       go_ret
       have HQ:lK hd=false:=by
        clear HALL HFK HK HT HP HFH HF HH
        cases hq:hd.key.toList.isEmpty <;> simp_all [lK] <;> omega
       exact HFK.out HQ _ (HK.out.alloc _))
     | (
       go_roundw
       case rel=>
        have HQ:lK hd=true:=by
         clear HALL HFK HK HT HP HFH HF HH
         cases hq:hd.key.toList.isEmpty <;> simp_all [lK] <;> omega
        exact ⟨k+1,by go_num,by omega,HALL.out HQ,HK.out.alloc _⟩
       case measure=>simp [intOf];omega)
   ·obtain rfl:k=r.headers.length:=by omega
    have HALL:=Lib.hid hall
    have HK:=Lib.hid k0
    clear hall k0
    go_wp2
    go_ret
    exact HT.out HP.out (fun j hj=>HALL.out j hj hj) _ HK.out
theorem sizeBuilder:∃ j,Tryz.prog.info? 445=some j∧j.size=2:=by
 have h:(Tryz.prog.info? 445).map (·.size)=some 2:=by kernel_rfl
 obtain ⟨j,hj,hs⟩:=Option.map_eq_some_iff.1 h
 exact ⟨j,hj,hs⟩
def jZ (w:World) (B b:Nat) (k:Nat):Prop:=k=b∨(B≤k∧∃ cs fr,w.heap[k]?=some (.cells cs 5 fr))
theorem jZ.trans {w w1 w2:World} {B b:Nat} (h1:aD (jZ w B b) w w1) (h2:aD (jZ w1 B b) w1 w2):aD (jZ w B b) w w2:=
 h1.trans h2 fun k hk e=>by
  rcases e with rfl | ⟨hB,cs,fr,e⟩
  ·exact .inl rfl
  ·by_cases hb:jZ w B b k
   ·exact hb
   ·exact .inr ⟨hB,cs,fr,(h1.block k hk hb).symm.trans e⟩
theorem jZ.k0 {w w1 w2:World} {B b:Nat} (h1:aD (jZ w B b) w w1) (h2:K0 w1 w2):aD (jZ w B b) w w2:=h1.trans h2 fun _ _ e=>e.elim
def Bld (w:World) (B b:Nat) (bs:List Value):Prop:=Lib.IsBuilder 445 5 B b bs w
theorem Bld.keep {w w':World} {B b:Nat} {bs:List Value} (h:Bld w B b bs) (hk:K0 w w'):Bld w' B b bs:=by
 have key:∀ p,Lib.BuilderAt 445 5 B b p bs w→Lib.BuilderAt 445 5 B b p bs w':=fun p h=>by
  have hlt:=h.lt
  obtain ⟨hB,v,hb,hown,hne⟩:=h
  exact ⟨hB,v,(hk.block b hlt (fun e=>e)).trans hb,hown.kept (row:=none) ⟨hk.os,hk.tape,hk.output,hk.size,fun k hk' _=>hk.block k hk' (fun e=>e)⟩ (by by_cases hv:v.ownBlock=none;exact .inl hv;exact .inr hv),hne⟩
 exact h.elim (fun h=>.inl (key _ h)) (fun h=>.inr (key _ h))
theorem aAh (b:Nat) (w:World) (h0:w.cell? ⟨b,0,none⟩=some (.pointer (some ⟨b,0,none⟩))) :
  Calls Tryz.prog 358 #[.pointer (some ⟨b,0,none⟩)] w fun e w'=>e=.returned (.tuple #[])∧w'=w:=by
 obtain ⟨j,hj,hjs⟩:=sizeBuilder
 go_enter Tryz.func358,Tryz.ntmps358
 go_wp2
 rw [Lib.run_neq_ptr_same w _ Tryz.underlying443 hj]
 go_wp2
 go_end0
 exact ⟨rfl,rfl⟩
theorem yI (b:Nat) (w:World) (h0:w.cell? ⟨b,0,none⟩=some (.pointer none)) (hsh:w.shape? b=some (445,2)) (hfz:w.frozen? ⟨b,0,none⟩=false) :
  Calls Tryz.prog 358 #[.pointer (some ⟨b,0,none⟩)] w fun e w'=>e=.returned (.tuple #[])∧w'=w.setCell ⟨b,0,none⟩ (.pointer (some ⟨b,0,none⟩)):=by
 obtain ⟨j,hj,hjs⟩:=sizeBuilder
 go_enter Tryz.func358,Tryz.ntmps358
 go_wp2
 rw [Lib.run_to_unsafe w ⟨b,0,none⟩ Tryz.underlying443 Tryz.underlying518 hj (by rw [hjs];decide) hsh (Nat.zero_lt_succ 1)]
 simp only [Result.andThen]
 rw [Oper.upon_value]
 go_wp2
 rw [run_callFunc_extern Tryz.func383 aF aF aF (e:=Extern.AbiNoEscape.same) aF]
 rw [Lib.run_noEscape]
 simp only [Result.andThen]
 rw [Oper.upon_value]
 go_wp2
 rw [Lib.run_from_unsafe w ⟨b,0,none⟩ Tryz.underlying518 Tryz.underlying443 hj hsh aF]
 simp only [Result.andThen]
 rw [Oper.upon_value]
 go_wp2
 go_end0
 exact ⟨rfl,rfl⟩
theorem aB4 (B b:Nat) (bs:List Value) (w:World) (h:Bld w B b bs) :
  Calls Tryz.prog 358 #[.pointer (some ⟨b,0,none⟩)] w fun e w'=>e=.returned (.tuple #[])∧Lib.BuilderAt 445 5 B b (.pointer (some ⟨b,0,none⟩)) bs w'∧aD (jZ w B b) w w':=by
 rcases h with h | h
 ·refine (yI b w h.cell0 h.shape h.frozen0).mono ?_
  rintro e w' ⟨rfl,rfl⟩
  exact ⟨rfl,h.used _,(aD.refl _ w).setC 0 _ (fun _=>.inl rfl)⟩
 ·refine (aAh b w h.cell0).mono ?_
  rintro e w' ⟨rfl,rfl⟩
  exact ⟨rfl,h,aD.refl _ _⟩
theorem aI2 (B b:Nat) (bs:List Value) (s:ByteArray) (w:World) (h:Bld w B b bs) (hlen:bs.length+s.size≤140737488355328) (hBw:B≤w.heap.size) :
  Calls Tryz.prog 295 #[.pointer (some ⟨b,0,none⟩),.string s] w fun e w'=>e=.returned (.tuple #[.int .i64 s.size,.nilIface])∧Bld w' B b (bs++Lib.strCells s)∧aD (jZ w B b) w w':=by
 obtain ⟨i0,hi,hz0,hz1,hz2⟩:=info_parts jN
 go_enter Tryz.func295,Tryz.ntmps295
 go_wp2_with fail
 refine (aB4 B b bs w h).mono ?_
 rintro e w1 ⟨rfl,h1,hb1⟩
 obtain ⟨hB,v,hbk,hown,hne⟩:=h1
 have c0:w1.cell? ⟨b,0,none⟩=some (.pointer (some ⟨b,0,none⟩)):=by rw [Lib.cell_of_heap hbk];rfl
 have c1:w1.cell? ⟨b,1,none⟩=some v:=by rw [Lib.cell_of_heap hbk];rfl
 go_wp2_with (at_builtin;refine Lib.wpList_append_own_string _ rfl _ _ 230 9 rfl B 5 i0 Tryz.underlying230 Tryz.underlying9 hi hz0 hz1 hz2 _ _ _ rfl hown s rfl ?c3 ?c4 ?c5 ?_)
 case c3=>unfold maxLen;omega
 case c4=>omega
 case c5=>have:=hb1.size;omega
 intro v' w2 hown' hgrow _
 have hlt:b<w1.heap.size:=aC hbk
 have hb2:w2.heap[b]?=some (.cells #[.pointer (some ⟨b,0,none⟩),v] 445 (0,0)):=(hgrow.block b hlt (fun e=>hne e.symm)).trans hbk
 have d0:w2.cell? ⟨b,0,none⟩=some (.pointer (some ⟨b,0,none⟩)):=by rw [Lib.cell_of_heap hb2];rfl
 have d1:w2.cell? ⟨b,1,none⟩=some v:=by rw [Lib.cell_of_heap hb2];rfl
 have f1:w2.frozen? ⟨b,1,none⟩=false:=Lib.frozen_of_heap hb2 1
 obtain ⟨ao,n',cap,rfl⟩:∃ ao n' cap,v'=.slice ao n' cap:=by
  rcases hown'.2 with ⟨hv,_⟩ | ⟨g,cap,cur,hv,_⟩
  ·exact ⟨_,_,_,hv⟩
  ·exact ⟨_,_,_,hv⟩
 have hk2:aD (jZ w1 B b) w1 (w2.setCell ⟨b,1,none⟩ (.slice ao n' cap)):=by
  refine ((aD.refl (jZ w1 B b) w1).grown hgrow fun k e hk=>?_).setC 1 _ (fun _=>.inl rfl)
  rcases hown.2 with ⟨rfl,_⟩ | ⟨g,cp,cur,rfl,hBg,hg,_⟩
  ·simp [Value.ownBlock] at e
  ·simp only [Value.ownBlock,Option.some.injEq] at e
   subst e
   exact .inr ⟨hBg,cur,_,hg⟩
 have HK:=Lib.hid (jZ.trans hb1 hk2)
 have HP:=Lib.hid (Lib.BuilderAt.put (T:=445) (e:=5) hB hb2 (bs':=bs++Lib.strCells s) (by simpa [Lib.strCells_length] using hown') aE)
 clear hk2 hb1 hgrow hown hown' h
 go_wp2
 go_ret2
 exact ⟨rfl,.inr HP.out,HK.out⟩
end Go.Proofs.YteapahcklcldkaaGreatDoor
