/-
  The statement is proved: all that it reaches, in parts.
-/
import Derived.Test.YteapahcklcldkaaGreatDoorW21
set_option maxRecDepth 100000
set_option maxHeartbeats 16000000
namespace Go.Proofs.YteapahcklcldkaaGreatDoor.Idm
open Go.RowKit Fx
def lJ (H:aW) (seq span:Int):Nat→Option iZ
 | 0=>none
 | k+1=>if (zE H k).seq=seq∧(zE H k).span=span then some (zE H k) else lJ H seq span k
def yA (seq next:Int):Int×Bool×Int:=if seq=next then (0,false,0) else (0,false,9)
def eR (b:cY):cY:={b with base:=0}
def nD (H:aW) (b:cY):Int×Bool×Int:=
 if b.epoch<H.epoch then (0,false,8)
 else if b.epoch=H.epoch then (match lJ H b.seq b.span H.count with | some s=>(s.base,true,0) | none=>yA b.seq (pI H))
 else yA b.seq 0
def eP (M:List (Int×aW)) (b:cY):Int×Bool×Int:=
 if b.prod=-1 then (0,false,0) else if mT (eR b)=true then nD (dL M b.prod) b else (0,false,1)
def aUj (r:Int×Bool×Int):Value:=.tuple #[.int .i64 r.1,.bool r.2.1,.int .i64 r.2.2]
section
variable {w0:iW} {w w':World}
theorem kD (pv:Option Addr) (b:cY) (hp:b.prod=-1) (w:World):Calls Tryz.prog 93 #[.pointer pv,.agg #[.int .i64 b.base,.int .i64 b.span,.int .i64 b.prod,.int .i64 b.epoch,.int .i64 b.seq,.slice b.ra b.rn b.rc]] w fun e w'=>fH w e (.tuple #[.int .i64 0,.bool false,.int .i64 0]) w':=by
 have hB:(w.alloc (.cells (bO b) 39)).heap[w.heap.size]?=some (.cells (bO b) 39 (0,0)):=aI _ _ _ rfl
 have hK:K0 w (w.alloc (.cells (bO b) 39)):=(aD.refl _ _).alloc _
 unfold bO at hB hK
 have c2:=aB hB 2
 have hlt:=aC hB
 have HK:=Lib.hid hK
 rw [hp] at *
 have c2':_=some (Value.int .i64 (-1)):=c2
 clear hB hK c2
 go_enter Tryz.func93,Tryz.ntmps93
 go_wp2
 go_ret3
 exact ⟨rfl,HK.out⟩
theorem aMx (pv:Option Addr) (b:cY) (hp:¬ b.prod=-1) (hb:mT (eR b)=false) (w:World):Calls Tryz.prog 93 #[.pointer pv,.agg #[.int .i64 b.base,.int .i64 b.span,.int .i64 b.prod,.int .i64 b.epoch,.int .i64 b.seq,.slice b.ra b.rn b.rc]] w fun e w'=>fH w e (.tuple #[.int .i64 0,.bool false,.int .i64 1]) w':=by
 have hB:(w.alloc (.cells (bO (eR b)) 39)).heap[w.heap.size]?=some (.cells (bO (eR b)) 39 (0,0)):=aI _ _ _ rfl
 have hK:K0 w (w.alloc (.cells (bO (eR b)) 39)):=(aD.refl _ _).alloc _
 have hA:(w.alloc (.cells (bO b) 39)).heap[w.heap.size]?=some (.cells (bO b) 39 (0,0)):=aI _ _ _ rfl
 have a2:=aB hA 2
 have fr:=aH hA 0
 have la:=aC hA
 unfold bO eR at hB hK
 unfold bO at a2 fr la
 have a2:(w.alloc (.cells #[.int .i64 b.base,.int .i64 b.span,.int .i64 b.prod,.int .i64 b.epoch,.int .i64 b.seq,.slice b.ra b.rn b.rc] 39)).cell? ⟨w.heap.size,2,none⟩=some (.int .i64 b.prod):=a2
 clear hA
 have HB:=Lib.hid hB
 have HK:=Lib.hid hK
 clear hB hK
 have HM:Hid (∀ wx,Calls Tryz.prog 154 #[.agg #[.int .i64 0,.int .i64 b.span,.int .i64 b.prod,.int .i64 b.epoch,.int .i64 b.seq,.slice b.ra b.rn b.rc]] wx fun e w'=>fH wx e (.bool false) w'):=fun wx=>by rw [← hb];exact lT (eR b) wx
 go_enter Tryz.func93,Tryz.ntmps93
 go_wp2_with fail
 refine (HM.out _).mono ?_
 rintro e w1 ⟨rfl,k1⟩
 go_wp2
 go_ret3
 exact ⟨rfl,K0.tr HK.out k1⟩
theorem aD5 (pv:Option Addr) (b:cY) (H:aW) (hp:¬ b.prod=-1) (hb:mT (eR b)=true) (w:World) (hof:∀ w1,K0 w w1→Calls Tryz.prog 155 #[.pointer pv,.int .i64 b.prod] w1 fun e w'=>∃ hb,e=.returned (.pointer (some ⟨hb,0,none⟩))∧vQ w' hb H∧K0 w1 w')
  (hE:b.epoch<H.epoch):Calls Tryz.prog 93 #[.pointer pv,.agg #[.int .i64 b.base,.int .i64 b.span,.int .i64 b.prod,.int .i64 b.epoch,.int .i64 b.seq,.slice b.ra b.rn b.rc]] w fun e w'=>fH w e (.tuple #[.int .i64 0,.bool false,.int .i64 8]) w':=by
 have hB:(w.alloc (.cells (bO (eR b)) 39)).heap[w.heap.size]?=some (.cells (bO (eR b)) 39 (0,0)):=aI _ _ _ rfl
 have hK:K0 w (w.alloc (.cells (bO (eR b)) 39)):=(aD.refl _ _).alloc _
 have hA:(w.alloc (.cells (bO b) 39)).heap[w.heap.size]?=some (.cells (bO b) 39 (0,0)):=aI _ _ _ rfl
 have a2:=aB hA 2
 have fr:=aH hA 0
 have la:=aC hA
 unfold bO eR at hB hK
 unfold bO at a2 fr la
 have a2:(w.alloc (.cells #[.int .i64 b.base,.int .i64 b.span,.int .i64 b.prod,.int .i64 b.epoch,.int .i64 b.seq,.slice b.ra b.rn b.rc] 39)).cell? ⟨w.heap.size,2,none⟩=some (.int .i64 b.prod):=a2
 clear hA
 have HB:=Lib.hid hB
 have HK:=Lib.hid hK
 clear hB hK
 have HM:Hid (∀ wx,Calls Tryz.prog 154 #[.agg #[.int .i64 0,.int .i64 b.span,.int .i64 b.prod,.int .i64 b.epoch,.int .i64 b.seq,.slice b.ra b.rn b.rc]] wx fun e w'=>fH wx e (.bool true) w'):=fun wx=>by rw [← hb];exact lT (eR b) wx
 have HF:=Lib.hid hof
 clear hof hb
 go_enter Tryz.func93,Tryz.ntmps93
 go_wp2_with fail
 refine (HM.out _).mono ?_
 rintro e w1 ⟨rfl,k1⟩
 have HB1:=Lib.hid ((k1.block _ (aC HB.out) (fun e=>e)).trans HB.out)
 have HK1:=Lib.hid (K0.tr HK.out k1)
 have c2:w1.cell? ⟨w.heap.size,2,none⟩=some (.int .i64 b.prod):=aB HB1.out 2
 have hlt:=aC HB1.out
 clear k1
 go_wp2_with fail
 refine (HF.out _ HK1.out).mono ?_
 rintro e w2 ⟨hb2,rfl,hh,k2⟩
 have hb2':=(k2.block _ (aC HB1.out) (fun e=>e)).trans HB1.out
 have HK2:=Lib.hid (K0.tr HK1.out k2)
 have HB2:=Lib.hid hb2'
 have HO:=Lib.hid hh
 have c1:w2.cell? ⟨w.heap.size,1,none⟩=some (.int .i64 b.span):=aB hb2' 1
 have c2:w2.cell? ⟨w.heap.size,2,none⟩=some (.int .i64 b.prod):=aB hb2' 2
 have c3:w2.cell? ⟨w.heap.size,3,none⟩=some (.int .i64 b.epoch):=aB hb2' 3
 have c4:w2.cell? ⟨w.heap.size,4,none⟩=some (.int .i64 b.seq):=aB hb2' 4
 have hlt:=aC hb2'
 have e0:w2.cell? ⟨hb2,0,none⟩=some (.int .i64 H.epoch):=aB hh 0
 have e17:w2.cell? ⟨hb2,17,none⟩=some (.int .i64 H.count):=aB hh 17
 have hlt2:=aC hh
 clear k2 hb2' hh
 go_wp2
 go_quiet (fail)
 go_wp2
 go_ret3
 exact ⟨rfl,HK2.out.drewN _⟩
theorem aGe (pv:Option Addr) (b:cY) (H:aW) (hp:¬ b.prod=-1) (hb:mT (eR b)=true) (w:World) (hof:∀ w1,K0 w w1→Calls Tryz.prog 155 #[.pointer pv,.int .i64 b.prod] w1 fun e w'=>∃ hb,e=.returned (.pointer (some ⟨hb,0,none⟩))∧vQ w' hb H∧K0 w1 w')
  (hE:¬ b.epoch<H.epoch) (hE2:¬ b.epoch=H.epoch):Calls Tryz.prog 93 #[.pointer pv,.agg #[.int .i64 b.base,.int .i64 b.span,.int .i64 b.prod,.int .i64 b.epoch,.int .i64 b.seq,.slice b.ra b.rn b.rc]] w fun e w'=>fH w e (.tuple #[.int .i64 0,.bool false,.int .i64 (if b.seq=0 then 0 else 9)]) w':=by
 by_cases hs:b.seq=0
 ·rw [if_pos hs]
  have HSQ:=Lib.hid hs
  clear hs
  have hB:(w.alloc (.cells (bO (eR b)) 39)).heap[w.heap.size]?=some (.cells (bO (eR b)) 39 (0,0)):=aI _ _ _ rfl
  have hK:K0 w (w.alloc (.cells (bO (eR b)) 39)):=(aD.refl _ _).alloc _
  have hA:(w.alloc (.cells (bO b) 39)).heap[w.heap.size]?=some (.cells (bO b) 39 (0,0)):=aI _ _ _ rfl
  have a2:=aB hA 2
  have fr:=aH hA 0
  have la:=aC hA
  unfold bO eR at hB hK
  unfold bO at a2 fr la
  have a2:(w.alloc (.cells #[.int .i64 b.base,.int .i64 b.span,.int .i64 b.prod,.int .i64 b.epoch,.int .i64 b.seq,.slice b.ra b.rn b.rc] 39)).cell? ⟨w.heap.size,2,none⟩=some (.int .i64 b.prod):=a2
  clear hA
  have HB:=Lib.hid hB
  have HK:=Lib.hid hK
  clear hB hK
  have HM:Hid (∀ wx,Calls Tryz.prog 154 #[.agg #[.int .i64 0,.int .i64 b.span,.int .i64 b.prod,.int .i64 b.epoch,.int .i64 b.seq,.slice b.ra b.rn b.rc]] wx fun e w'=>fH wx e (.bool true) w'):=fun wx=>by rw [← hb];exact lT (eR b) wx
  have HF:=Lib.hid hof
  clear hof hb
  go_enter Tryz.func93,Tryz.ntmps93
  go_wp2_with fail
  refine (HM.out _).mono ?_
  rintro e w1 ⟨rfl,k1⟩
  have HB1:=Lib.hid ((k1.block _ (aC HB.out) (fun e=>e)).trans HB.out)
  have HK1:=Lib.hid (K0.tr HK.out k1)
  have c2:w1.cell? ⟨w.heap.size,2,none⟩=some (.int .i64 b.prod):=aB HB1.out 2
  have hlt:=aC HB1.out
  clear k1
  go_wp2_with fail
  refine (HF.out _ HK1.out).mono ?_
  rintro e w2 ⟨hb2,rfl,hh,k2⟩
  have hb2':=(k2.block _ (aC HB1.out) (fun e=>e)).trans HB1.out
  have HK2:=Lib.hid (K0.tr HK1.out k2)
  have HB2:=Lib.hid hb2'
  have HO:=Lib.hid hh
  have c1:w2.cell? ⟨w.heap.size,1,none⟩=some (.int .i64 b.span):=aB hb2' 1
  have c2:w2.cell? ⟨w.heap.size,2,none⟩=some (.int .i64 b.prod):=aB hb2' 2
  have c3:w2.cell? ⟨w.heap.size,3,none⟩=some (.int .i64 b.epoch):=aB hb2' 3
  have c4:w2.cell? ⟨w.heap.size,4,none⟩=some (.int .i64 b.seq):=aB hb2' 4
  have hlt:=aC hb2'
  have e0:w2.cell? ⟨hb2,0,none⟩=some (.int .i64 H.epoch):=aB hh 0
  have e17:w2.cell? ⟨hb2,17,none⟩=some (.int .i64 H.count):=aB hh 17
  have hlt2:=aC hh
  clear k2 hb2' hh
  go_wp2
  go_quiet (fail)
  go_wp2
  go_quiet (fail)
  have hs:=HSQ.out
  go_wp2
  go_ret3
  exact ⟨rfl,HK2.out.drewN _⟩
 ·rw [if_neg hs]
  have HSQ:=Lib.hid hs
  clear hs
  have hB:(w.alloc (.cells (bO (eR b)) 39)).heap[w.heap.size]?=some (.cells (bO (eR b)) 39 (0,0)):=aI _ _ _ rfl
  have hK:K0 w (w.alloc (.cells (bO (eR b)) 39)):=(aD.refl _ _).alloc _
  have hA:(w.alloc (.cells (bO b) 39)).heap[w.heap.size]?=some (.cells (bO b) 39 (0,0)):=aI _ _ _ rfl
  have a2:=aB hA 2
  have fr:=aH hA 0
  have la:=aC hA
  unfold bO eR at hB hK
  unfold bO at a2 fr la
  have a2:(w.alloc (.cells #[.int .i64 b.base,.int .i64 b.span,.int .i64 b.prod,.int .i64 b.epoch,.int .i64 b.seq,.slice b.ra b.rn b.rc] 39)).cell? ⟨w.heap.size,2,none⟩=some (.int .i64 b.prod):=a2
  clear hA
  have HB:=Lib.hid hB
  have HK:=Lib.hid hK
  clear hB hK
  have HM:Hid (∀ wx,Calls Tryz.prog 154 #[.agg #[.int .i64 0,.int .i64 b.span,.int .i64 b.prod,.int .i64 b.epoch,.int .i64 b.seq,.slice b.ra b.rn b.rc]] wx fun e w'=>fH wx e (.bool true) w'):=fun wx=>by rw [← hb];exact lT (eR b) wx
  have HF:=Lib.hid hof
  clear hof hb
  go_enter Tryz.func93,Tryz.ntmps93
  go_wp2_with fail
  refine (HM.out _).mono ?_
  rintro e w1 ⟨rfl,k1⟩
  have HB1:=Lib.hid ((k1.block _ (aC HB.out) (fun e=>e)).trans HB.out)
  have HK1:=Lib.hid (K0.tr HK.out k1)
  have c2:w1.cell? ⟨w.heap.size,2,none⟩=some (.int .i64 b.prod):=aB HB1.out 2
  have hlt:=aC HB1.out
  clear k1
  go_wp2_with fail
  refine (HF.out _ HK1.out).mono ?_
  rintro e w2 ⟨hb2,rfl,hh,k2⟩
  have hb2':=(k2.block _ (aC HB1.out) (fun e=>e)).trans HB1.out
  have HK2:=Lib.hid (K0.tr HK1.out k2)
  have HB2:=Lib.hid hb2'
  have HO:=Lib.hid hh
  have c1:w2.cell? ⟨w.heap.size,1,none⟩=some (.int .i64 b.span):=aB hb2' 1
  have c2:w2.cell? ⟨w.heap.size,2,none⟩=some (.int .i64 b.prod):=aB hb2' 2
  have c3:w2.cell? ⟨w.heap.size,3,none⟩=some (.int .i64 b.epoch):=aB hb2' 3
  have c4:w2.cell? ⟨w.heap.size,4,none⟩=some (.int .i64 b.seq):=aB hb2' 4
  have hlt:=aC hb2'
  have e0:w2.cell? ⟨hb2,0,none⟩=some (.int .i64 H.epoch):=aB hh 0
  have e17:w2.cell? ⟨hb2,17,none⟩=some (.int .i64 H.count):=aB hh 17
  have hlt2:=aC hh
  clear k2 hb2' hh
  go_wp2
  go_quiet (fail)
  go_wp2
  go_quiet (fail)
  have hs:=HSQ.out
  go_wp2
  go_ret3
  exact ⟨rfl,HK2.out.drewN _⟩
theorem aI6 (pv:Option Addr) (b:cY) (H:aW) (hp:¬ b.prod=-1) (hb:mT (eR b)=true) (w:World) (hof:∀ w1,K0 w w1→Calls Tryz.prog 155 #[.pointer pv,.int .i64 b.prod] w1 fun e w'=>∃ hb,e=.returned (.pointer (some ⟨hb,0,none⟩))∧vQ w' hb H∧K0 w1 w')
  (ok:HOk H) (_hE:¬ b.epoch<H.epoch) (hE2:b.epoch=H.epoch) (R:Value) (hR:R=match lJ H b.seq b.span H.count with | some s=>.tuple #[.int .i64 s.base,.bool true,.int .i64 0] | none=>.tuple #[.int .i64 0,.bool false,.int .i64 (if b.seq=pI H then 0 else 9)]):Calls Tryz.prog 93 #[.pointer pv,.agg #[.int .i64 b.base,.int .i64 b.span,.int .i64 b.prod,.int .i64 b.epoch,.int .i64 b.seq,.slice b.ra b.rn b.rc]] w fun e w'=>fH w e (R) w':=by
 have HR:=Lib.hid hR
 clear hR
 have HE2:=Lib.hid hE2
 clear hE2
 have hB:(w.alloc (.cells (bO (eR b)) 39)).heap[w.heap.size]?=some (.cells (bO (eR b)) 39 (0,0)):=aI _ _ _ rfl
 have hK:K0 w (w.alloc (.cells (bO (eR b)) 39)):=(aD.refl _ _).alloc _
 have hA:(w.alloc (.cells (bO b) 39)).heap[w.heap.size]?=some (.cells (bO b) 39 (0,0)):=aI _ _ _ rfl
 have a2:=aB hA 2
 have fr:=aH hA 0
 have la:=aC hA
 unfold bO eR at hB hK
 unfold bO at a2 fr la
 have a2:(w.alloc (.cells #[.int .i64 b.base,.int .i64 b.span,.int .i64 b.prod,.int .i64 b.epoch,.int .i64 b.seq,.slice b.ra b.rn b.rc] 39)).cell? ⟨w.heap.size,2,none⟩=some (.int .i64 b.prod):=a2
 clear hA
 have HB:=Lib.hid hB
 have HK:=Lib.hid hK
 clear hB hK
 have HM:Hid (∀ wx,Calls Tryz.prog 154 #[.agg #[.int .i64 0,.int .i64 b.span,.int .i64 b.prod,.int .i64 b.epoch,.int .i64 b.seq,.slice b.ra b.rn b.rc]] wx fun e w'=>fH wx e (.bool true) w'):=fun wx=>by rw [← hb];exact lT (eR b) wx
 have HF:=Lib.hid hof
 clear hof hb
 go_enter Tryz.func93,Tryz.ntmps93
 go_wp2_with fail
 refine (HM.out _).mono ?_
 rintro e w1 ⟨rfl,k1⟩
 have HB1:=Lib.hid ((k1.block _ (aC HB.out) (fun e=>e)).trans HB.out)
 have HK1:=Lib.hid (K0.tr HK.out k1)
 have c2:w1.cell? ⟨w.heap.size,2,none⟩=some (.int .i64 b.prod):=aB HB1.out 2
 have hlt:=aC HB1.out
 clear k1
 go_wp2_with fail
 refine (HF.out _ HK1.out).mono ?_
 rintro e w2 ⟨hb2,rfl,hh,k2⟩
 have hb2':=(k2.block _ (aC HB1.out) (fun e=>e)).trans HB1.out
 have HK2:=Lib.hid (K0.tr HK1.out k2)
 have HB2:=Lib.hid hb2'
 have HO:=Lib.hid hh
 have c1:w2.cell? ⟨w.heap.size,1,none⟩=some (.int .i64 b.span):=aB hb2' 1
 have c2:w2.cell? ⟨w.heap.size,2,none⟩=some (.int .i64 b.prod):=aB hb2' 2
 have c3:w2.cell? ⟨w.heap.size,3,none⟩=some (.int .i64 b.epoch):=aB hb2' 3
 have c4:w2.cell? ⟨w.heap.size,4,none⟩=some (.int .i64 b.seq):=aB hb2' 4
 have hlt:=aC hb2'
 have e0:w2.cell? ⟨hb2,0,none⟩=some (.int .i64 H.epoch):=aB hh 0
 have e17:w2.cell? ⟨hb2,17,none⟩=some (.int .i64 H.count):=aB hh 17
 have hlt2:=aC hh
 clear k2 hb2' hh
 have hcn:=ok.c
 have hE2:=HE2.out
 go_wp2
 go_quiet (fail)
 go_wp2
 go_quiet (fail)
 go_wp2
 go_loopw [9] (fun i wr=>∃ k:Nat,i=.int .i64 ((k:Int) - 1)∧k≤H.count∧lJ H b.seq b.span k=lJ H b.seq b.span H.count∧K0 w2 wr) (fun i _=>(intOf i+1).toNat)
 case atStart=>exact ⟨H.count,rfl,Nat.le_refl _,rfl,(aD.refl _ _).drewN _⟩
 case round=>
  obtain ⟨k,rfl,hk,hf,hkk⟩:=hrel
  have hh:=(hkk.block _ (aC HO.out) (fun e=>e)).trans HO.out
  have hbb:=(hkk.block _ (aC HB2.out) (fun e=>e)).trans HB2.out
  have HKR:=Lib.hid (K0.tr HK2.out hkk)
  have HKK:=Lib.hid hkk
  have HFF:=Lib.hid hf
  clear hf hkk c1 c2 c3 c4 e0 e17 hlt hlt2
  cases k with
  | zero=>
   rw [show (((0:Nat):Int) - 1)=-1 from rfl]
   have HNX:=Lib.hid (uW hh ok)
   have HBB:=Lib.hid hbb
   clear hh hbb
   go_wp2_with fail
   refine HNX.out.mono ?_
   rintro e w3 ⟨rfl,k3⟩
   have c4:w3.cell? ⟨w.heap.size,4,none⟩=some (.int .i64 b.seq):=k3.cell' (aB HBB.out 4) (fun e=>e)
   have hlt:=Nat.lt_of_lt_of_le (aC HBB.out) k3.size
   have HK3:=Lib.hid (K0.tr HKR.out k3)
   clear k3
   by_cases hs:b.seq=pI H
   ·have hs2:(b.seq != pI H)=false:=by simp [hs]
    have HSQ:=Lib.hid hs
    clear hs
    go_wp2
    go_ret3
    refine ⟨?_,HK3.out⟩
    have e:=HR.out
    rw [← HFF.out] at e
    simp only [lJ] at e
    rw [if_pos HSQ.out] at e
    rw [e]
    rfl
   ·have hs2:(b.seq != pI H)=true:=by simpa using hs
    have HSQ:=Lib.hid hs
    clear hs
    go_wp2
    go_ret3
    refine ⟨?_,HK3.out⟩
    have e:=HR.out
    rw [← HFF.out] at e
    simp only [lJ] at e
    rw [if_neg HSQ.out] at e
    rw [e]
    rfl
  | succ k=>
   rw [show (((k+1:Nat):Int) - 1)=(k:Int) by omega]
   have A:=Lib.hid (zZ hh ok k aA)
   have hs:=vF H k
   have cs:=rI H hs
   have d0:wr.cell? ⟨hb2,1+jG H k*3,none⟩=some (.int .i64 (zE H k).seq):=(aB hh _).trans cs.1
   have d1:wr.cell? ⟨hb2,1+jG H k*3+1,none⟩=some (.int .i64 (zE H k).base):=(aB hh _).trans cs.2.1
   have d2:wr.cell? ⟨hb2,1+jG H k*3+2,none⟩=some (.int .i64 (zE H k).span):=(aB hh _).trans cs.2.2
   have b1:wr.cell? ⟨w.heap.size,1,none⟩=some (.int .i64 b.span):=aB hbb 1
   have b4:wr.cell? ⟨w.heap.size,4,none⟩=some (.int .i64 b.seq):=aB hbb 4
   have l1:=aC hh
   have l2:=aC hbb
   clear cs hh hbb
   go_wp2_with fail
   refine A.out.mono ?_
   rintro e w3 ⟨rfl,k3⟩
   have HK23:=Lib.hid (K0.tr HKK.out k3)
   have HK3:=Lib.hid (K0.tr HKR.out k3)
   have d0:=k3.cell' d0 (fun e=>e)
   have d1:=k3.cell' d1 (fun e=>e)
   have d2:=k3.cell' d2 (fun e=>e)
   have b1:=k3.cell' b1 (fun e=>e)
   have b4:=k3.cell' b4 (fun e=>e)
   have l1:=Nat.lt_of_lt_of_le l1 k3.size
   have l2:=Nat.lt_of_lt_of_le l2 k3.size
   clear k3 A
   by_cases q1:(zE H k).seq=b.seq
   ·have p1:((zE H k).seq==b.seq)=true:=by simpa using q1
    by_cases q2:(zE H k).span=b.span
    ·have p2:((zE H k).span==b.span)=true:=by simpa using q2
     have HQ:=Lib.hid (⟨q1,q2⟩:(zE H k).seq=b.seq∧(zE H k).span=b.span)
     clear q1 q2
     go_wp2
     go_quiet (fail)
     go_wp2
     go_ret3
     refine ⟨?_,HK3.out.drewN _⟩
     have e:=HR.out
     rw [← HFF.out] at e
     simp only [lJ,if_pos HQ.out] at e
     rw [e]
     rfl
    ·have p2:((zE H k).span==b.span)=false:=by simpa using q2
     have HQ:Hid (¬ ((zE H k).seq=b.seq∧(zE H k).span=b.span)):=fun e=>q2 e.2
     clear q1 q2
     go_wp2
     go_quiet (fail)
     go_wp2
     go_roundw
     case rel=>exact ⟨k,rfl,by omega,by rw [← HFF.out];simp only [lJ,if_neg HQ.out],HK23.out.drewN _⟩
     case measure=>first | (simp [intOf];done) | (simp [intOf];omega)
   ·have p1:((zE H k).seq==b.seq)=false:=by simpa using q1
    have HQ:Hid (¬ ((zE H k).seq=b.seq∧(zE H k).span=b.span)):=fun e=>q1 e.1
    clear q1
    go_wp2
    go_quiet (fail)
    go_wp2
    go_roundw
    case rel=>exact ⟨k,rfl,by omega,by rw [← HFF.out];simp only [lJ,if_neg HQ.out],HK23.out.drewN _⟩
    case measure=>first | (simp [intOf];done) | (simp [intOf];omega)
theorem aTb (pv:Option Addr) (b:cY) (H:aW) (hp:¬ b.prod=-1) (hb:mT (eR b)=true) (w:World) (hof:∀ w1,K0 w w1→Calls Tryz.prog 155 #[.pointer pv,.int .i64 b.prod] w1 fun e w'=>∃ hb,e=.returned (.pointer (some ⟨hb,0,none⟩))∧vQ w' hb H∧K0 w1 w')
  (ok:HOk H):Calls Tryz.prog 93 #[.pointer pv,.agg #[.int .i64 b.base,.int .i64 b.span,.int .i64 b.prod,.int .i64 b.epoch,.int .i64 b.seq,.slice b.ra b.rn b.rc]] w fun e w'=>fH w e (aUj (nD H b)) w':=by
 unfold nD
 by_cases h1:b.epoch<H.epoch
 ·rw [if_pos h1]
  exact aD5 pv b H hp hb w hof h1
 ·rw [if_neg h1]
  by_cases h2:b.epoch=H.epoch
  ·rw [if_pos h2]
   refine aI6 pv b H hp hb w hof ok h1 h2 _ ?_
   cases lJ H b.seq b.span H.count with
   | some s=>rfl
   | none=>
    unfold yA
    by_cases h3:b.seq=pI H
    ·simp only [if_pos h3];rfl
    ·simp only [if_neg h3];rfl
  ·rw [if_neg h2]
   have:=aGe pv b H hp hb w hof h1 h2
   unfold yA
   by_cases h3:b.seq=0
   ·rw [if_pos h3] at this ⊢;exact this
   ·rw [if_neg h3] at this ⊢;exact this
theorem aMw (pv:Option Addr) (b:cY) (M:List (Int×aW)) (w:World) (ok:HOk (dL M b.prod)) (hof:∀ w1,K0 w w1→Calls Tryz.prog 155 #[.pointer pv,.int .i64 b.prod] w1 fun e w'=>∃ hb,e=.returned (.pointer (some ⟨hb,0,none⟩))∧vQ w' hb (dL M b.prod)∧K0 w1 w') :
  Calls Tryz.prog 93 #[.pointer pv,.agg #[.int .i64 b.base,.int .i64 b.span,.int .i64 b.prod,.int .i64 b.epoch,.int .i64 b.seq,.slice b.ra b.rn b.rc]] w fun e w'=>fH w e (aUj (eP M b)) w':=by
 unfold eP
 by_cases hp:b.prod=-1
 ·rw [if_pos hp];exact kD pv b hp w
 ·rw [if_neg hp]
  cases hb:mT (eR b) with
  | false=>rw [if_neg aK];exact aMx pv b hp hb w
  | true=>rw [if_pos rfl];exact aTb pv b _ hp hb w hof ok
theorem nO {pb:Nat} {M:List (Int×aW)} (h:pE w0 w pb M) (wf:WfM M) (b:cY):Calls Tryz.prog 93 #[.pointer (some ⟨pb,0,none⟩),.agg #[.int .i64 b.base,.int .i64 b.span,.int .i64 b.prod,.int .i64 b.epoch,.int .i64 b.seq,.slice b.ra b.rn b.rc]] w fun e w'=>fH w e (aUj (eP M b)) w':=by
 obtain ⟨mb,L,h⟩:=h
 refine aMw (some ⟨pb,0,none⟩) b M w (wf.old b.prod).1 fun w1 k1=>(aEp (h.keep k1) b.prod).mono fun e w' hq=>?_
 obtain ⟨hb,h1,h2,h3,_⟩:=hq
 exact ⟨hb,h1,h2,h3⟩
end
def iM (epoch seq span base:Int):cY:=⟨base,span,3,epoch,seq,none,0,0⟩
theorem vL {n l m:Int} (h1:l≤n) (h2:n≤m):win n l m=true:=by unfold win;simp [h1,h2]
theorem aC8 (M:List (Int×aW)) (s id:Int) (H:aW):dL (bD M s H) id=if s=id then H else dL M id:=by
 unfold dL
 rw [bX]
 split
 ·rfl
 ·rfl
def Win (H:aW) (ws:List iZ):Prop:=H.count=ws.length∧∀ i (h:i<ws.length),zE H i=ws[i]
theorem Win.new (e:Int):Win (aA2 e) []:=⟨rfl,fun _ h=>absurd h (Nat.not_lt_zero _)⟩
theorem Win.shed {H:aW} {ws:List iZ} (h:Win H ws):Win (shed H) (if ws.length=5 then ws.tail else ws):=by
 have hc:=h.1
 unfold Go.Proofs.YteapahcklcldkaaGreatDoor.Idm.shed
 by_cases h5:H.count=5
 ·rw [if_pos h5,if_pos aA]
  refine ⟨by rw [List.length_tail];show 4=_;omega,fun i hi=>?_⟩
  rw [List.length_tail] at hi
  have:=h.2 (i+1) aA
  rw [List.getElem_tail,← this]
  show H.ring (((H.first+1) % 5+i) % 5)=H.ring ((H.first+(i+1)) % 5)
  congr 1
  omega
 ·rw [if_neg h5,if_neg aA]
  exact h
theorem aOq (H:aW):(shed H).ring=H.ring:=by
 unfold Go.Proofs.YteapahcklcldkaaGreatDoor.Idm.shed
 split <;> rfl
theorem Win.add {H:aW} {ws:List iZ} (ok:HOk H) (h:Win H ws) (s:iZ):Win (zU H s) ((if ws.length=5 then ws.tail else ws)++[s]):=by
 have h1:=h.shed
 have h4:=(zI ok).2
 generalize (if ws.length=5 then ws.tail else ws)=us at h1
 have hc:=h1.1
 refine ⟨by rw [List.length_append];show (Go.Proofs.YteapahcklcldkaaGreatDoor.Idm.shed H).count+1=_;rw [hc];rfl,fun i hi=>?_⟩
 rw [List.length_append] at hi
 simp only [List.length_cons,List.length_nil] at hi
 show upd H.ring (jG (Go.Proofs.YteapahcklcldkaaGreatDoor.Idm.shed H) (Go.Proofs.YteapahcklcldkaaGreatDoor.Idm.shed H).count) s (jG (Go.Proofs.YteapahcklcldkaaGreatDoor.Idm.shed H) i)=_
 by_cases hl:i<us.length
 ·rw [List.getElem_append_left hl,← h1.2 i hl]
  have hne:jG (Go.Proofs.YteapahcklcldkaaGreatDoor.Idm.shed H) i≠jG (Go.Proofs.YteapahcklcldkaaGreatDoor.Idm.shed H) (Go.Proofs.YteapahcklcldkaaGreatDoor.Idm.shed H).count:=by
   unfold jG
   have:=(zI ok).1.f
   omega
  unfold upd
  rw [if_neg hne]
  unfold zE
  rw [aOq]
 ·obtain rfl:i=us.length:=by omega
  have hr:(us++[s])[us.length]'aK=s:=aK
  refine Eq.trans ?_ hr.symm
  unfold upd
  rw [← hc]
  exact if_pos rfl
def jC {α:Type} (l:List α):List α:=l.drop (l.length - 5)
theorem rL {α:Type} (l:List α):(jC l).length=l.length - (l.length - 5):=by unfold jC;rw [List.length_drop]
theorem aNl {α:Type} (l:List α) (x:α):jC (l++[x])=(if (jC l).length=5 then (jC l).tail else jC l)++[x]:=by
 have hl:=rL l
 by_cases h:5≤l.length
 ·rw [if_pos aA]
  unfold jC
  rw [List.length_append,List.tail_drop,List.drop_append_of_le_length (by simp only [List.length_cons,List.length_nil];omega)]
  congr 2
  simp only [List.length_cons,List.length_nil]
  omega
 ·rw [if_neg aA]
  unfold jC
  rw [List.length_append,show l.length+[x].length - 5=0 by simp only [List.length_cons,List.length_nil];omega,show l.length - 5=0 by omega]
  rfl
theorem aC5 {α:Type} (l:List α) (i:Nat) (h:i<(jC l).length):(jC l)[i]=l[l.length - 5+i]'(by have:=rL l;omega):=
 List.getElem_drop
theorem sU {H:aW} {ws:List iZ} {q p:Int} (h:Win H ws) (hn:∀ s∈ws,¬ s.seq=q):∀ k,k≤ws.length→lJ H q p k=none
 | 0,_=>rfl
 | k+1,hk=>by
  unfold lJ
  rw [h.2 k aA,if_neg (fun e=>hn _ (List.getElem_mem _) e.1)]
  exact sU h hn k aA
theorem aAq {H:aW} {ws:List iZ} (h:Win H ws) (i:Nat) (hi:i<ws.length) (hn:∀ j (hj:j<ws.length),ws[j].seq=ws[i].seq→j=i):∀ k,k≤ws.length→i<k→lJ H ws[i].seq ws[i].span k=some ws[i]
 | 0,_,h0=>absurd h0 (Nat.not_lt_zero _)
 | k+1,hk,hik=>by
  unfold lJ
  rw [h.2 k aA]
  by_cases he:k=i
  ·subst he
   rw [if_pos ⟨rfl,rfl⟩]
  ·rw [if_neg (fun e=>he (hn k aA e.1))]
   exact aAq h i hi hn k aA aA
structure lG (epoch:Int) (bl:List cY) (seq:Int) (k:Nat):Prop where
 form:∀ b∈bl,b=iM epoch b.seq b.span b.base
 rng:∀ b∈bl,0≤b.seq∧1≤b.span∧b.span≤50∧b.seq+b.span≤seq
 sorted:bl.Pairwise (fun x y=>x.seq<y.seq)
 last:∀ b,bl.getLast?=some b→b.seq+b.span=seq
 nil:bl=[]→seq=0
 seqR:0≤seq∧seq≤50*k
 len:bl.length≤k
theorem lG.init (epoch:Int):lG epoch [] 0 0:=
 ⟨(fun _ h=>by cases h),(fun _ h=>by cases h),List.Pairwise.nil,(fun _ h=>by cases h),(fun _=>rfl),by omega,Nat.le_refl _⟩
theorem lG.skip {epoch:Int} {bl:List cY} {seq:Int} {k:Nat} (h:lG epoch bl seq k):lG epoch bl seq (k+1):=
 ⟨h.form,h.rng,h.sorted,h.last,h.nil,by have:=h.seqR;omega,by have:=h.len;omega⟩
theorem lG.add {epoch:Int} {bl:List cY} {seq sp:Int} {k:Nat} (h:lG epoch bl seq k) (base:Int) (h1:1≤sp) (h2:sp≤50) (_hk:k<40) :
  lG epoch (bl++[iM epoch seq sp base]) (seq+sp) (k+1):=by
 refine ⟨fun b hb=>?_,fun b hb=>?_,?_,fun b hb=>?_,fun e=>?_,by have:=h.seqR;omega,by have:=h.len;simp;omega⟩
 ·rcases List.mem_append.1 hb with hb | hb
  ·exact h.form b hb
  ·obtain rfl:=List.mem_singleton.1 hb;rfl
 ·rcases List.mem_append.1 hb with hb | hb
  ·have:=h.rng b hb;omega
  ·obtain rfl:=List.mem_singleton.1 hb
   have:=h.seqR
   refine ⟨this.1,h1,h2,Int.le_refl _⟩
 ·rw [List.pairwise_append]
  refine ⟨h.sorted,List.pairwise_singleton _ _,fun x hx y hy=>?_⟩
  obtain rfl:=List.mem_singleton.1 hy
  have:=h.rng x hx
  show x.seq<seq
  omega
 ·rw [List.getLast?_append] at hb
  simp at hb
  subst hb
  rfl
 ·simp at e
theorem lG.at_lt {epoch:Int} {bl:List cY} {seq:Int} {k:Nat} (h:lG epoch bl seq k) {i j:Nat} (hi:i<j) (hj:j<bl.length):bl[i].seq<bl[j].seq:=
 List.pairwise_iff_getElem.1 h.sorted i j aA hj hi
def mB (epoch:Int) (bl:List cY) (M:List (Int×aW)):Prop:=
 (bl=[]∧dL M 3=aA5)∨(bl≠[]∧(dL M 3).epoch=epoch∧HOk (dL M 3)∧Win (dL M 3) (jC (bl.map gS)))
theorem mB.init (epoch:Int):mB epoch [] []:=.inl ⟨rfl,rfl⟩
theorem aHc {epoch q p b:Int} (h1:0≤epoch) (h2:epoch≤32768) (h3:0≤q) (h4:q≤1073741824) (h5:1≤p) (h6:p≤50) (h7:0≤b) (h8:b≤1099511627776):mT (iM epoch q p b)=true:=by
 unfold mT iM
 simp only [vL h1 h2,vL h3 h4,vL h5 h6,vL h7 h8]
 rfl
theorem uG (M:List (Int×aW)) {epoch q p:Int} (b:Int) (h1:0≤epoch) (h2:epoch≤32768) (h3:0≤q) (h4:q≤1073741824) (h5:1≤p) (h6:p≤50):eP M (iM epoch q p b)=nD (dL M 3) (iM epoch q p b):=by
 unfold eP
 rw [if_neg (by show ¬ (3:Int)=-1;omega),if_pos (show mT (eR (iM epoch q p b))=true from aHc (b:=0) h1 h2 h3 h4 h5 h6 aA aA)]
 rfl
theorem aC6 {bl:List cY} {s:iZ} (h:s∈jC (bl.map gS)):∃ b∈bl,s=gS b:=by
 have:=List.mem_of_mem_drop h
 obtain ⟨b,hb,rfl⟩:=List.mem_map.1 this
 exact ⟨b,hb,rfl⟩
section
variable {epoch seq base:Int} {bl:List cY} {k:Nat} {M:List (Int×aW)}
theorem mB.note (h:mB epoch bl M) {q p b:Int} (h1:0≤epoch) (hm:mT (iM epoch q p b)=true):mB epoch (bl++[iM epoch q p b]) (hZ M (iM epoch q p b)):=by
 refine .inr ⟨by simp,?_⟩
 rw [List.map_append,List.map_cons,List.map_nil,aNl]
 rcases h with ⟨rfl,ho⟩ | ⟨hn,he,ok,hw⟩
 ·have hm2:dL (hZ M (iM epoch q p b)) 3=zU (aA2 epoch) (gS (iM epoch q p b)):=by
   unfold hZ
   rw [if_pos hm,if_neg (by show ¬ epoch<(dL M 3).epoch;rw [ho];show ¬ epoch< -1;omega),if_pos (by show (dL M 3).epoch<epoch;rw [ho];show -1<epoch;omega)]
   show dL (bD M 3 _) 3=_
   rw [aC8,if_pos rfl]
   rfl
  rw [hm2]
  exact ⟨rfl,yS (uV _) _,(Win.new epoch).add (uV _) _⟩
 ·have hm2:dL (hZ M (iM epoch q p b)) 3=zU (dL M 3) (gS (iM epoch q p b)):=by
   unfold hZ
   rw [if_pos hm,if_neg mP,if_neg (by show ¬ (dL M 3).epoch<epoch;omega)]
   show dL (bD M 3 _) 3=_
   rw [aC8,if_pos rfl]
   rfl
  rw [hm2]
  exact ⟨he,yS ok _,hw.add ok _⟩
theorem aA3 (c:lG epoch bl seq k) (hk:k≤40) (hn:bl≠[]) (hw:Win (dL M 3) (jC (bl.map gS))):pI (dL M 3)=seq:=by
 have hl:=rL (bl.map gS)
 rw [List.length_map] at hl
 have h0:bl.length≠0:=fun e=>hn (List.length_eq_zero_iff.1 e)
 unfold pI
 have hc:=hw.1
 rw [if_neg aA]
 have hx:=hw.2 ((dL M 3).count - 1) aA
 have hlast:(jC (bl.map gS))[(dL M 3).count - 1]'aA=gS (bl[bl.length - 1]'aA):=by
  rw [aC5,List.getElem_map]
  congr 2
  rw [List.length_map]
  omega
 rw [hx,hlast]
 have h1:=c.last (bl[bl.length - 1]'aA) (by rw [List.getLast?_eq_getElem?,List.getElem?_eq_getElem aA])
 show wrap64 ((bl[bl.length - 1]'aA).seq+(bl[bl.length - 1]'aA).span)=seq
 rw [h1]
 have h2:=c.seqR
 unfold wrap64
 omega
theorem aTd (h:mB epoch bl M) (c:lG epoch bl seq k) (hk:k≤40) (h1:0≤epoch) (h2:epoch≤32768) {p:Int} (h5:1≤p) (h6:p≤50):eP M (iM epoch seq p base)=(0,false,0):=by
 have h3:=c.seqR
 rw [uG M base h1 h2 h3.1 aA h5 h6]
 unfold nD
 rcases h with ⟨rfl,ho⟩ | ⟨hn,he,ok,hw⟩
 ·rw [ho,if_neg (by show ¬ epoch< -1;omega),if_neg (by show ¬ epoch=-1;omega),c.nil rfl]
  rfl
 ·rw [if_neg mP,if_pos (by show epoch=(dL M 3).epoch;omega),hw.1]
  rw [sU hw (fun s hs=>?_) _ (Nat.le_refl _)]
  ·show yA seq (pI (dL M 3))=_
   rw [aA3 c hk hn hw]
   unfold yA
   rw [if_pos rfl]
  ·obtain ⟨b,hb,rfl⟩:=aC6 hs
   have:=c.rng b hb
   show ¬ b.seq=seq
   omega
theorem aTc (h:mB epoch bl M) (c:lG epoch bl seq k) (hk:k≤40) (h1:0≤epoch) (h2:epoch≤32768) {p:Int} (h5:1≤p) (h6:p≤50):eP M (iM epoch (seq+1) p base)=(0,false,9):=by
 have h3:=c.seqR
 rw [uG M base h1 h2 aA aA h5 h6]
 unfold nD
 rcases h with ⟨rfl,ho⟩ | ⟨hn,he,ok,hw⟩
 ·rw [ho,if_neg (by show ¬ epoch< -1;omega),if_neg (by show ¬ epoch=-1;omega),c.nil rfl]
  rfl
 ·rw [if_neg mP,if_pos (by show epoch=(dL M 3).epoch;omega),hw.1]
  rw [sU hw (fun s hs=>?_) _ (Nat.le_refl _)]
  ·show yA (seq+1) (pI (dL M 3))=_
   rw [aA3 c hk hn hw]
   unfold yA
   rw [if_neg aA]
  ·obtain ⟨b,hb,rfl⟩:=aC6 hs
   have:=c.rng b hb
   show ¬ b.seq=seq+1
   omega
theorem aMy (h:mB epoch bl M) (c:lG epoch bl seq k) (hk:k≤40) (h1:0≤epoch) (h2:epoch≤32768) {i:Nat} (hi:i<bl.length) (h5:bl.length≤i+5):eP M bl[i]=(bl[i].base,true,0):=by
 have h3:=c.seqR
 have hr:=c.rng _ (List.getElem_mem hi)
 have hf:=c.form _ (List.getElem_mem hi)
 have hl:=rL (bl.map gS)
 rw [List.length_map] at hl
 have hat:∀ j (hj:j<(jC (bl.map gS)).length),(jC (bl.map gS))[j]=gS (bl[bl.length - 5+j]'aA):=fun j hj=>by
  rw [aC5,List.getElem_map]
  congr 2
  rw [List.length_map]
 have hpos:i - (bl.length - 5)<(jC (bl.map gS)).length:=aA
 have hii:bl.length - 5+(i - (bl.length - 5))=i:=aA
 have hit:(jC (bl.map gS))[i - (bl.length - 5)]=gS bl[i]:=by
  rw [hat]
  congr 2
 have hfind:Win (dL M 3) (jC (bl.map gS))→lJ (dL M 3) bl[i].seq bl[i].span (jC (bl.map gS)).length=some (gS bl[i]):=fun hw=>by
  have:=aAq hw (i - (bl.length - 5)) hpos (fun j hj e=>?_) _ (Nat.le_refl _) hpos
  ·rw [hit] at this
   exact this
  ·rw [hit,hat] at e
   have e:(bl[bl.length - 5+j]'aA).seq=bl[i].seq:=e
   rcases Nat.lt_trichotomy (bl.length - 5+j) i with hlt | heq | hgt
   ·have:=c.at_lt hlt hi;omega
   ·omega
   ·have:=c.at_lt hgt aA;omega
 generalize bl[i]=b at hr hf hfind
 have hck:eP M b=nD (dL M 3) b:=by
  rw [hf]
  exact uG M b.base h1 h2 hr.1 aA hr.2.1 hr.2.2.1
 have hbe:b.epoch=epoch:=by rw [hf];rfl
 rw [hck]
 unfold nD
 rcases h with ⟨rfl,ho⟩ | ⟨hn,he,ok,hw⟩
 ·simp at hi
 ·rw [if_neg aA,if_pos aA,hw.1,hfind hw]
  rfl
theorem aTe (h:mB epoch bl M) (hn:bl≠[]) (h1:1≤epoch) (h2:epoch≤32768) {q p b:Int} (h3:0≤q) (h4:q≤1073741824) (h5:1≤p) (h6:p≤50):eP M (iM (epoch - 1) q p b)=(0,false,8):=by
 rw [uG M b aA aA h3 h4 h5 h6]
 unfold nD
 rcases h with ⟨rfl,ho⟩ | ⟨_,he,_,_⟩
 ·exact absurd rfl hn
 ·rw [if_pos (by show epoch - 1<(dL M 3).epoch;omega)]
end
end Go.Proofs.YteapahcklcldkaaGreatDoor.Idm
