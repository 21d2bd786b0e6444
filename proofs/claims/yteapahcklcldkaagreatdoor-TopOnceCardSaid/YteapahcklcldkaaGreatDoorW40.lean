/-
  The statement is proved: all that it reaches, in parts.
-/
import Derived.Test.YteapahcklcldkaaGreatDoorW39
set_option maxRecDepth 100000
set_option maxHeartbeats 16000000
namespace Go.Proofs.YteapahcklcldkaaGreatDoor
open Go.RowKit Fx
theorem sD {P:Program} {fn:Func} {p:Tmp} {ty:TypeId} {tmps:Array Value} {w:World} {b:Nat} {x:Value} (h:fn.results=#[.cell p ty]) (hp:tmps.getD p undef=.pointer (some ⟨b,0,none⟩)) (hl:(loadVar ty ⟨b,0,none⟩).run P w=.ok x w):(results fn tmps).run P w=.ok x w:=by
 rw [eJ h,hp]
 simp only [asAddr,Sem.run_pure,Result.andThen_ok,hl]
theorem aPt {b:aR} {wr:World} {N:Nat} {va:Option Addr} {vc:Nat} (ho:wr.ownsRow N 98 7 (.slice va b.recs.length vc) b.recs.length (b.recs.flatMap bA)) (hp:∀ k (h:k<b.recs.length),bT b.recs[k]) (hn:b.recs≠[]):dN (fun k=>N≤k) wr b va vc:=by
 rcases ho.2 with ⟨hv,h0⟩ | ⟨g,cap,cur,hv,hb,hg,hc,hm,_⟩
 ·exact absurd (List.eq_nil_of_length_eq_zero h0) hn
 ·cases hv
  have hall:∀ i (hi:i<b.recs.length),∀ j,j<7→wr.cell? ⟨g,0+i*7+j,none⟩=(bA b.recs[i])[j]?:=fun i hi j hj=>by
   have hcell:=ho.cellAt (i*7+j) (by
    have:(i+1)*7≤b.recs.length*7:=Nat.mul_le_mul_right _ hi
    omega)
   rw [show 0+i*7+j=i*7+j by omega,hcell]
   exact fR bA 7 (fun _=>rfl) b.recs i hi j hj
  exact ⟨⟨⟨hc,hm,fun _=>⟨g,0,rfl,fun i hi=>⟨bA b.recs[i],rfl,hall i hi,aE3 (hp i hi)⟩⟩⟩,fun _=>⟨g,0,rfl,by omega⟩⟩,fun i hi=>⟨g,0,rfl,hall i hi⟩,fun hr=>absurd hr hn⟩
theorem iY.one2 {w wr:World} {b:aR} {v:Value} {r:dY} (h:iY w [b] v wr) (hr:b.recs=[r]):∃ g c ra ro cap,v=.slice (some ⟨g,0,none⟩) 1 c∧tV wr g 0 b (some ⟨ra,ro,none⟩) cap∧(∀ j,j<7→wr.cell? ⟨ra,ro+j,none⟩=(bA r)[j]?)∧wr.frozen? ⟨g,5,none⟩=false∧K0 w wr∧w.heap.size≤g∧(∃ cur,wr.heap[g]?=some (.cells cur 39 (0,0)))∧1≤c:=by
 obtain ⟨xs,D,hx⟩:=h
 match xs,hx with
 | [],hx=>exact absurd hx.bs aK
 | _::_::_,hx=>exact absurd hx.bs aK
 | [x],hx=>
  have hb:x.b=b:=by have:=hx.bs;simpa using this
  have ho:wr.ownsRow w.heap.size 39 6 v 1 ([x].flatMap qL):=hx.own
  rcases ho.2 with ⟨h1,h2⟩ | ⟨g,cap,cur,rfl,hg,hcur,hcap,_⟩
  ·cases h2
  ·have hd:=hx.data x (List.mem_singleton.2 rfl)
   rw [hb] at hd
   have c0:=ho.cellAt 0 aA
   have c1:=ho.cellAt 1 aA
   have c2:=ho.cellAt 2 aA
   have c3:=ho.cellAt 3 aA
   have c4:=ho.cellAt 4 aA
   have c5:=ho.cellAt 5 aA
   simp only [List.flatMap_cons,List.flatMap_nil,List.append_nil,qL,List.getElem?_cons_zero,List.getElem?_cons_succ,hb] at c0 c1 c2 c3 c4 c5
   obtain ⟨ra,ro,ha,hrec⟩:=hd.1.rec_ 0 (by rw [hr];exact Nat.one_pos)
   have hr0:b.recs[0]'(by rw [hr];exact Nat.one_pos)=r:=by simp [hr]
   rw [hr0] at hrec
   rw [ha] at c5
   refine ⟨g,cap,ra,ro,x.cap,rfl,⟨c0,c1,c2,c3,c4,c5,aC hcur⟩,fun j hj=>?_,aH hcur 5,hx.k0,hg,⟨cur,hcur⟩,hcap⟩
   have:=hrec j hj
   simpa using this
def aSv (w:World) (b:aR) (en:Int) (e:Ending) (w':World):Prop:=
 ∃ g c a cap,e=.returned (.agg (bY 0 0 0 en 0 0 0 (.slice (some ⟨g,0,none⟩) 1 c)))∧tV w' g 0 b a cap∧dN (fun j=>w.heap.size≤j∧j≠g) w' b a cap∧w.heap.size≤g∧K0 w w'
theorem aS4 {w:World} {bb cb stb:Nat} {cs:List Value} {nm:ByteArray} {b:aR} {r:dY} {en:Int} (hb:w.heap[bb]?=some (.cells #[.pointer (some ⟨cb,0,none⟩),.pointer (some ⟨stb,0,none⟩)] 152 (0,0)))
  (h1:cs[1]?=some (.string nm)) (h2:cs[2]?=some (.int .i64 0)) (h3:cs[3]?=some (.int .i64 0)) (h4:cs[4]?=some (.int .i64 0)) (h12:cs[12]?=some (.int .i64 0)) (h13:cs[13]?=some (.string ⟨#[]⟩)) (h14:cs[14]?=some (.string ⟨#[]⟩)) (h15:cs[15]?=some (.slice none 0 0))
  (hrr:b.recs=[r]) (hpl:bT r)
  (hrd:∀ wx,K0 w wx→Calls Tryz.prog 144 #[.pointer (some ⟨stb,0,none⟩),.string nm,.int .i64 0,.int .i64 0,.int .i64 0] wx fun e w'=>∃ u wy,e=.returned (.tuple #[u,.int .i64 0])∧K0 wx wy∧iY wy [b] u w')
  (hbo:∀ wx,K0 w wx→Calls Tryz.prog 83 #[.pointer (some ⟨stb,0,none⟩),.string nm,.int .i64 0] wx fun e w'=>e=.returned (.tuple #[.int .i64 0,.int .i64 en])∧K0 wx w') :
  Calls Tryz.prog 74 #[.pointer (some ⟨bb,0,none⟩),.agg cs.toArray] w (aSv w b en):=by
 have HRD:=Lib.hid hrd
 have HBO:=Lib.hid hbo
 have HRR:=Lib.hid hrr
 have HPL:=Lib.hid hpl
 have hlr:b.recs.length=1:=by rw [hrr];rfl
 have HLR:=Lib.hid hlr
 have HBB:=Lib.hid hb
 obtain ⟨WA,hWA⟩:∃ WA,WA=(w.alloc (.cells cs.toArray 45)).alloc (.cells #[.int .i64 0,.int .i64 0,.int .i64 0,.int .i64 0,.int .i64 0,.int .i64 0,.int .i64 0,.slice none 0 0,.slice none 0 0,.slice none 0 0] 33):=⟨_,rfl⟩
 have HKA:Hid (K0 w WA):=by rw [hWA];exact ((aD.refl _ _).alloc _).alloc _
 have hq:WA.heap[w.heap.size]?=some (.cells cs.toArray 45 (0,0)):=by rw [hWA];exact aL (aI w _ _ rfl) _
 have hx:WA.heap[w.heap.size+1]?=some (.cells #[.int .i64 0,.int .i64 0,.int .i64 0,.int .i64 0,.int .i64 0,.int .i64 0,.int .i64 0,.slice none 0 0,.slice none 0 0,.slice none 0 0] 33 (0,0)):=by rw [hWA];exact aI _ _ _ aK
 have HX:=Lib.hid hx
 have hcell:∀ {i:Nat} {v:Value},cs[i]?=some v→∀ {wx:World},wx.heap[w.heap.size]?=some (.cells cs.toArray 45 (0,0))→wx.cell? ⟨w.heap.size,i,none⟩=some v:=fun {i v} h {wx} hb=>by rw [aB hb i];simpa using h
 have HQC:Hid (∀ wx:World,wx.heap[w.heap.size]?=some (.cells cs.toArray 45 (0,0))→wx.cell? ⟨w.heap.size,1,none⟩=some (.string nm)∧wx.cell? ⟨w.heap.size,2,none⟩=some (.int .i64 0)∧wx.cell? ⟨w.heap.size,3,none⟩=some (.int .i64 0)∧wx.cell? ⟨w.heap.size,4,none⟩=some (.int .i64 0)∧wx.cell? ⟨w.heap.size,12,none⟩=some (.int .i64 0)∧wx.cell? ⟨w.heap.size,13,none⟩=some (.string ⟨#[]⟩)∧wx.cell? ⟨w.heap.size,14,none⟩=some (.string ⟨#[]⟩)∧wx.cell? ⟨w.heap.size,15,none⟩=some (.slice none 0 0)):=fun wx hb=>⟨hcell h1 hb,hcell h2 hb,hcell h3 hb,hcell h4 hb,hcell h12 hb,hcell h13 hb,hcell h14 hb,hcell h15 hb⟩
 obtain ⟨q1,q2,q3,q4,_⟩:=HQC.out WA hq
 have HQB:=Lib.hid hq
 have bc1:WA.cell? ⟨bb,1,none⟩=some (.pointer (some ⟨stb,0,none⟩)):=HKA.out.cell' (aB hb 1) (fun e=>e)
 have hbl:bb<w.heap.size:=aC hb
 have bl:bb<WA.heap.size:=Nat.lt_of_lt_of_le hbl HKA.out.size
 have ql:w.heap.size<WA.heap.size:=aC hq
 have xl:w.heap.size+1<WA.heap.size:=aC hx
 clear hrd hbo hrr hpl hlr hb h1 h2 h3 h4 h12 h13 h14 h15 hcell hq hx
 go_enter Tryz.func74,Tryz.ntmps74
 go_upto_region 1 with fail
 rw [← hWA]
 have HSZ:Hid (WA.drew.heap.size=w.heap.size+2):=by show WA.heap.size=_;rw [hWA];simp
 clear hWA
 refine aX 13 (fun w'=>w'.cell? ⟨bb,1,none⟩=some (.pointer (some ⟨stb,0,none⟩))∧w'.cell? ⟨w.heap.size,1,none⟩=some (.string nm)∧w'.cell? ⟨w.heap.size,2,none⟩=some (.int .i64 0)∧w'.cell? ⟨w.heap.size,4,none⟩=some (.int .i64 0)∧w'.cell? ⟨w.heap.size,3,none⟩=some (.int .i64 0)) (fun _=>True) aF ⟨by go_simp,by go_simp,by go_simp,by go_simp,by go_simp⟩ trivial (fun hS=>?_)
 refine tB 0 hS (fun hS=>?_)
 simp only [Act.put,Sw]
 refine tB 1 hS (fun hS=>?_)
 simp only [Act.put]
 refine tB 2 hS (fun hS=>?_)
 simp only [Act.put]
 refine tA 3 hS (fun hS=>?_)
 simp only [Act.put]
 refine tB 4 hS (fun hS=>?_)
 simp only [Act.put]
 refine tA 5 hS (fun hS=>?_)
 simp only [Act.put]
 refine tB 6 hS (fun hS=>?_)
 simp only [Act.put]
 refine tA 7 hS (fun hS=>?_)
 simp only [Act.put]
 refine tB 8 hS (fun hS=>?_)
 simp only [Act.put]
 refine tA 9 hS (fun hS=>?_)
 simp only [Act.put]
 refine tB 10 hS (fun hS=>?_)
 simp only [Act.put]
 refine tA 11 hS (fun hS=>?_)
 simp only [Act.put]
 refine tB 12 hS (fun hS=>?_)
 simp only [Act.put]
 refine tO 13 (fun K hK=>?_)
 go_simp
 refine (HRD.out _ HKA.out.drew).mono ?_
 rintro e w1 ⟨u,wy,rfl,ky,ho⟩
 obtain ⟨g,c,ra,ro,cap,rfl,hm,hrec,hfz,hk1,hg,hblk,hc1⟩:=ho.one2 HRR.out
 have k1:K0 w w1:=K0.tr (K0.tr HKA.out.drew ky) hk1
 have HK1:=Lib.hid k1
 have HA1:Hid (K0 WA w1):=K0.tr (K0.tr (aD.refl (fun _=>False) _).drew ky) hk1
 have HM:=Lib.hid hm
 have HREC:=Lib.hid hrec
 have HFZ:=Lib.hid hfz
 have HGG:Hid (w.heap.size+2≤g):=by have h1:=ky.size;have h2:WA.drew.heap.size=w.heap.size+2:=HSZ.out;show _≤_;omega
 have HBL:=Lib.hid hblk
 have HC1:=Lib.hid hc1
 clear ho hm hrec hfz hg hblk hk1 k1 ky hc1
 show K _ _
 refine hK.out _ _ ⟨fun e=>absurd e aE,trivial⟩ (fun hS=>?_)
 clear hK K
 try simp only [Act.put,Sw]
 refine tB 14 hS (fun hS=>?_)
 simp only [Act.put,Sw]
 refine tB 15 hS (fun hS=>?_)
 simp only [Act.put]
 refine tB 16 hS (fun hS=>?_)
 simp only [Act.put]
 refine tO 17 (fun K hK=>?_)
 go_simp
 refine hK.out _ _ ⟨fun e=>absurd e aE,trivial⟩ (fun hS=>?_)
 clear hK K
 try simp only [Act.put,Sw]
 refine tO 18 (fun K hK=>?_)
 go_simp
 refine hK.out _ _ ⟨fun e=>absurd e aE,trivial⟩ (fun hS=>?_)
 clear hK K
 try simp only [Act.put,Sw]
 refine bC aF ?_ _
 skip
 clear q1 q2 q3 q4 bc1 bl ql xl
 have bl1:bb<w1.heap.size:=Nat.lt_of_lt_of_le hbl HK1.out.size
 have hq1:w1.heap[w.heap.size]?=some (.cells cs.toArray 45 (0,0)):=(HA1.out.block _ (aC HQB.out) (fun e=>e)).trans HQB.out
 obtain ⟨W2,hW2⟩:∃ W2,W2=w1.alloc (.cells (bY 0 0 0 0 0 0 0 (.slice (some ⟨g,0,none⟩) 1 c)) 33):=⟨_,rfl⟩
 have k12:K0 w1 W2:=by rw [hW2];exact (aD.refl _ _).alloc _
 have HK2:Hid (K0 w W2):=K0.tr HK1.out k12
 have HK12:=Lib.hid k12
 have HZ2:Hid (W2.heap[w1.heap.size]?=some (.cells (bY 0 0 0 0 0 0 0 (.slice (some ⟨g,0,none⟩) 1 c)) 33 (0,0))):=by rw [hW2];exact aI _ _ _ rfl
 have hq2:=(k12.block _ (aC hq1) (fun e=>e)).trans hq1
 have HQ2:=Lib.hid hq2
 obtain ⟨q1,q2,q3,q4,_⟩:=HQC.out W2 hq2
 have bc2:W2.cell? ⟨bb,1,none⟩=some (.pointer (some ⟨stb,0,none⟩)):=HK2.out.cell' (aB HBB.out 1) (fun e=>e)
 have bl2:bb<W2.heap.size:=Nat.lt_of_lt_of_le hbl HK2.out.size
 have ql2:w.heap.size<W2.heap.size:=aC hq2
 have zl2:w1.heap.size<W2.heap.size:=aC HZ2.out
 clear hq1 hq2 k12
 go_upto_region 5 with fail
 rotate_left
 ·exfalso;have h9:1≤c:=HC1.out;omega
 rw [show ((min 1 100:Int)).toNat=1 from rfl]
 unfold bY at hW2
 rw [← hW2]
 clear hW2
 refine aX 8 (fun w'=>w'.cell? ⟨bb,1,none⟩=some (.pointer (some ⟨stb,0,none⟩))∧w'.cell? ⟨w.heap.size,1,none⟩=some (.string nm)∧w'.cell? ⟨w.heap.size,2,none⟩=some (.int .i64 0)) (fun _=>True) aF ⟨by go_simp,by go_simp,by go_simp⟩ trivial (fun hS=>?_)
 refine tB 0 hS (fun hS=>?_)
 simp only [Act.put,Sw]
 refine tB 1 hS (fun hS=>?_)
 simp only [Act.put]
 refine tB 2 hS (fun hS=>?_)
 simp only [Act.put]
 refine tA 3 hS (fun hS=>?_)
 simp only [Act.put]
 refine tB 4 hS (fun hS=>?_)
 simp only [Act.put]
 refine tA 5 hS (fun hS=>?_)
 simp only [Act.put]
 refine tB 6 hS (fun hS=>?_)
 simp only [Act.put]
 refine tA 7 hS (fun hS=>?_)
 simp only [Act.put]
 refine tO 8 (fun K hK=>?_)
 go_simp
 refine (HBO.out _ HK2.out.drew).mono ?_
 rintro e w3 ⟨rfl,k3⟩
 have HK3:=Lib.hid k3
 have hz3:w3.heap[w1.heap.size]?=some (.cells (bY 0 0 0 0 0 0 0 (.slice (some ⟨g,0,none⟩) 1 c)) 33 (0,0)):=(k3.block _ (aC HZ2.out) (fun e=>e)).trans HZ2.out
 have HZ3:=Lib.hid hz3
 have z2:w3.cell? ⟨w1.heap.size,2,none⟩=some (.int .i64 0):=aB hz3 2
 have z3:w3.cell? ⟨w1.heap.size,3,none⟩=some (.int .i64 0):=aB hz3 3
 have y2:w3.frozen? ⟨w1.heap.size,2,none⟩=false:=aH hz3 2
 have y3:w3.frozen? ⟨w1.heap.size,3,none⟩=false:=aH hz3 3
 have zl:=aC hz3
 clear k3 hz3
 show K _ _
 refine hK.out _ _ ⟨fun e=>absurd e aE,trivial⟩ (fun hS=>?_)
 clear hK K
 try simp only [Act.put,Sw]
 refine tB 9 hS (fun hS=>?_)
 simp only [Act.put,Sw]
 refine tB 10 hS (fun hS=>?_)
 simp only [Act.put]
 refine tB 11 hS (fun hS=>?_)
 simp only [Act.put]
 refine tB 12 hS (fun hS=>?_)
 simp only [Act.put]
 refine tO 13 (fun K hK=>?_)
 go_simp
 refine hK.out _ _ ⟨fun e=>absurd e aE,trivial⟩ (fun hS=>?_)
 clear hK K
 try simp only [Act.put,Sw]
 refine tB 14 hS (fun hS=>?_)
 simp only [Act.put,Sw]
 refine tO 15 (fun K hK=>?_)
 go_simp
 refine hK.out _ _ ⟨fun e=>absurd e aE,trivial⟩ (fun hS=>?_)
 clear hK K
 try simp only [Act.put,Sw]
 refine bC aF ?_ _
 skip
 clear q1 q2 q3 q4 bc2 bl2 ql2 zl2 z2 z3 y2 y3 zl
 obtain ⟨W4,hW4⟩:∃ W4,W4=(w3.setCell ⟨w1.heap.size,2,none⟩ (.int .i64 0)).setCell ⟨w1.heap.size,3,none⟩ (.int .i64 en):=⟨_,rfl⟩
 rw [← hW4]
 have k34:aD (fun k=>k=w1.heap.size) w3 W4:=by rw [hW4];exact ((aD.refl (fun k=>k=w1.heap.size) w3).setC _ _ (fun _=>rfl)).setC _ _ (fun _=>rfl)
 have hz4:W4.heap[w1.heap.size]?=some (.cells #[.int .i64 0,.int .i64 0,.int .i64 0,.int .i64 en,.int .i64 0,.int .i64 0,.int .i64 0,.slice (some ⟨g,0,none⟩) 1 c,.slice none 0 0,.slice none 0 0] 33 (0,0)):=by rw [hW4];exact aM (aM HZ3.out 2 _) 3 _
 clear hW4
 have HZ4:=Lib.hid hz4
 have hz7:W4.cell? ⟨w1.heap.size,7,none⟩=some (.slice (some ⟨g,0,none⟩) 1 c):=aB hz4 7
 have k14:aD (fun k=>k=w1.heap.size) w1 W4:=((HK12.out.mono (S1:=fun k=>k=w1.heap.size) (fun _ _ e=>e.elim)).drew.trans (S1:=fun _=>False) HK3.out (fun _ _ e=>e.elim)).trans k34 (fun _ _ e=>e)
 have HK14:=Lib.hid k14
 have HKW4:Hid (K0 w W4):=HK1.out.trans k14 (fun k hk e=>by have:=HK1.out.size;omega)
 have hgl:g<w1.heap.size:=HM.out.lt
 have HGL:=Lib.hid hgl
 obtain ⟨g0,g1,g2,g3,g4,g5,gl4⟩:=HM.out.keep k14 (fun e=>by have:g=w1.heap.size:=e;omega)
 have g5':W4.cell? ⟨g,0+5,none⟩=some (.slice (some ⟨ra,ro,none⟩) 1 cap):=by rw [g5,HLR.out]
 obtain ⟨cur,hcur⟩:=HBL.out
 have HCUR4:Hid (W4.heap[g]?=some (.cells cur 39 (0,0))):=(k14.block _ hgl (fun e=>by have:g=w1.heap.size:=e;omega)).trans hcur
 have HREC4:Hid (∀ j,j<7→W4.cell? ⟨ra,ro+j,none⟩=(bA r)[j]?):=fun j hj=>by
  have h:=HREC.out j hj
  have hs:∃ v,w1.cell? ⟨ra,ro+j,none⟩=some v:=by
   rw [h];exact ⟨_,List.getElem?_eq_getElem (by exact hj)⟩
  obtain ⟨v,hv⟩:=hs
  by_cases hra:ra=w1.heap.size
  ·exact absurd (World.block_lt_of_cell? w1 _ hv) (by simp [hra])
  ·rw [← h,hv];exact k14.cell' hv hra
 obtain ⟨W6,hW6⟩:∃ W6,W6=W4.alloc (.cells #[.int .i64 b.base,.int .i64 b.span,.int .i64 b.prod,.int .i64 b.epoch,.int .i64 b.seq,.slice (some ⟨ra,ro,none⟩) 1 cap] 39):=⟨_,rfl⟩
 have HK46:Hid (K0 W4 W6):=by rw [hW6];exact (aD.refl _ _).alloc _
 have HT6:Hid (W6.heap[W4.heap.size]?=some (.cells #[.int .i64 b.base,.int .i64 b.span,.int .i64 b.prod,.int .i64 b.epoch,.int .i64 b.seq,.slice (some ⟨ra,ro,none⟩) 1 cap] 39 (0,0))):=by rw [hW6];exact aI _ _ _ rfl
 have HPK:Hid (∀ wx,K0 W6 wx→Calls Tryz.prog 97 #[noF,.slice (some ⟨ra,ro,none⟩) 1 cap] wx fun e w'=>∃ g' cap',e=.returned (.tuple #[.slice (some ⟨g',0,none⟩) 1 cap',.int .i64 0])∧w'.ownsRow wx.heap.size 98 7 (.slice (some ⟨g',0,none⟩) 1 cap') 1 (bA r)∧K0 wx w'):=fun wx k=>aRe HPL.out (fun j hj=>by
  have h:=HREC4.out j hj
  obtain ⟨v,hv⟩:∃ v,W4.cell? ⟨ra,ro+j,none⟩=some v:=by rw [h];exact ⟨_,List.getElem?_eq_getElem (by exact hj)⟩
  rw [← h,hv]
  exact (K0.tr HK46.out k).cell' hv (fun e=>e))
 have HK6:Hid (K0 W6 W6):=aD.refl _ _
 have HG6:Hid (W6.cell? ⟨g,5,none⟩=some (.slice (some ⟨ra,ro,none⟩) 1 cap)∧∃ cur,W6.heap[g]?=some (.cells cur 39 (0,0))):=⟨HK46.out.cell' g5' (fun e=>e),cur,(HK46.out.block _ (aC HCUR4.out) (fun e=>e)).trans HCUR4.out⟩
 have hq4:W4.heap[w.heap.size]?=some (.cells cs.toArray 45 (0,0)):=by
  have hl:=aC HQ2.out
  have h3:=(HK3.out.block _ hl (fun e=>e)).trans HQ2.out
  exact (k34.block _ (aC h3) (fun e=>by have h1:=HK1.out.size;have h2:=HA1.out.size;have h5:=HSZ.out;have h6:WA.heap.size=w.heap.size+2:=h5;have:w.heap.size=w1.heap.size:=e;omega)).trans h3
 have HQ6:Hid (W6.heap[w.heap.size]?=some (.cells cs.toArray 45 (0,0))):=(HK46.out.block _ (aC hq4) (fun e=>e)).trans hq4
 have hzl4:=aC hz4
 clear k34 k14 hz4 hcur hq4 hgl g5 hbl bl1
 go_wp2_with fail
 refine wp_loop_rounds 2 ?_
 rw [rounds_succ]
 go_upto_region 9 with fail
 rw [← hW6]
 clear hW6
 obtain ⟨_,_,_,_,q12,q13,q14,q15⟩:=HQC.out W6 HQ6.out
 have t7:W6.cell? ⟨w1.heap.size,7,none⟩=some (.slice (some ⟨g,0,none⟩) 1 c):=HK46.out.cell' hz7 (fun e=>e)
 have t9:W6.cell? ⟨W4.heap.size,5,none⟩=some (.slice (some ⟨ra,ro,none⟩) 1 cap):=aB HT6.out 5
 have l1:w.heap.size<W6.heap.size:=aC HQ6.out
 have l2:w1.heap.size<W6.heap.size:=Nat.lt_of_lt_of_le hzl4 HK46.out.size
 have l3:W4.heap.size<W6.heap.size:=aC HT6.out
 clear g0 g1 g2 g3 g4 g5' gl4 hz7 hzl4
 refine aX 13 (fun w'=>w'.cell? ⟨w1.heap.size,7,none⟩=some (.slice (some ⟨g,0,none⟩) 1 c)∧w'.cell? ⟨w.heap.size,12,none⟩=some (.int .i64 0)∧w'.cell? ⟨w.heap.size,13,none⟩=some (.string ⟨#[]⟩)∧w'.cell? ⟨w.heap.size,14,none⟩=some (.string ⟨#[]⟩)∧w'.cell? ⟨w.heap.size,15,none⟩=some (.slice none 0 0)∧w'.cell? ⟨W4.heap.size,5,none⟩=some (.slice (some ⟨ra,ro,none⟩) 1 cap)) (fun _=>True) aF ⟨by go_simp,by go_simp,by go_simp,by go_simp,by go_simp,by go_simp⟩ trivial (fun hS=>?_)
 refine tB 0 hS (fun hS=>?_)
 simp only [Act.put,Sw]
 refine tA 1 hS (fun hS=>?_)
 simp only [Act.put]
 refine tB 2 hS (fun hS=>?_)
 simp only [Act.put]
 refine tB 3 hS (fun hS=>?_)
 simp only [Act.put]
 refine tA 4 hS (fun hS=>?_)
 simp only [Act.put]
 refine tB 5 hS (fun hS=>?_)
 simp only [Act.put]
 refine tA 6 hS (fun hS=>?_)
 simp only [Act.put]
 refine tO 7 (fun K hK=>?_)
 go_simp
 refine (HPK.out _ HK6.out.drew).mono ?_
 rintro e w7 ⟨g',cap',rfl,hown,k7⟩
 have HOWN:=Lib.hid hown
 have HK7:Hid (K0 W6 w7):=K0.tr (aD.refl (fun _=>False) _).drew k7
 have hg7:w7.cell? ⟨g,5,none⟩=some (.slice (some ⟨ra,ro,none⟩) 1 cap):=HK7.out.cell' HG6.out.1 (fun e=>e)
 obtain ⟨cur,hcur⟩:=HG6.out.2
 have hc7:w7.heap[g]?=some (.cells cur 39 (0,0)):=(HK7.out.block _ (aC hcur) (fun e=>e)).trans hcur
 have HC7:=Lib.hid hc7
 have f7:w7.frozen? ⟨g,5,none⟩=false:=aH hc7 5
 have gl7:=aC hc7
 have u7:=HK7.out.cell' t7 (fun e=>e)
 have u9:=HK7.out.cell' t9 (fun e=>e)
 have u12:=HK7.out.cell' q12 (fun e=>e)
 have u13:=HK7.out.cell' q13 (fun e=>e)
 have u14:=HK7.out.cell' q14 (fun e=>e)
 have u15:=HK7.out.cell' q15 (fun e=>e)
 clear hown k7 hcur hc7
 show K _ _
 refine hK.out _ _ ⟨fun _=>⟨by (first | assumption | go_simp),by (first | assumption | go_simp),by (first | assumption | go_simp),by (first | assumption | go_simp),by (first | assumption | go_simp),by (first | assumption | go_simp)⟩,trivial⟩ (fun hS=>?_)
 clear hK K
 try simp only [Act.put,Sw]
 refine tB 8 hS (fun hS=>?_)
 simp only [Act.put,Sw]
 refine tB 9 hS (fun hS=>?_)
 simp only [Act.put]
 refine tB 10 hS (fun hS=>?_)
 simp only [Act.put]
 refine tB 11 hS (fun hS=>?_)
 simp only [Act.put]
 refine tB 12 hS (fun hS=>?_)
 simp only [Act.put]
 refine tO 13 (fun K hK=>?_)
 go_simp
 refine hK.out _ _ ⟨fun e=>absurd e aE,trivial⟩ (fun hS=>?_)
 clear hK K
 try simp only [Act.put,Sw]
 refine bC aF ?_ _
 skip
 clear t7 t9 l1 l2 l3 q12 q13 q14 q15 u7 u9 u12 u13 u14 u15 hg7 f7 gl7
 obtain ⟨W8,hW8⟩:∃ W8,W8=w7.setCell ⟨g,5,none⟩ (.slice (some ⟨g',0,none⟩) 1 cap'):=⟨_,rfl⟩
 first | rw [← hW8] | (simp only [Nat.zero_add,Nat.zero_mul];rw [← hW8])
 have k78:aD (fun k=>k=g) w7 W8:=by rw [hW8];exact (aD.refl (fun k=>k=g) w7).setC _ _ (fun _=>rfl)
 have HB8:Hid (W8.heap[g]?=some (.cells (cur.setIfInBounds 5 (.slice (some ⟨g',0,none⟩) 1 cap')) 39 (0,0))):=by rw [hW8];exact aM HC7.out 5 _
 clear hW8
 have HK78:=Lib.hid k78
 have K47:Hid (K0 W4 w7):=K0.tr HK46.out HK7.out
 have zg:¬ w1.heap.size=g:=fun e=>by have:=HGL.out;omega
 have hz8:W8.heap[w1.heap.size]?=some (.cells ([.int .i64 0,.int .i64 0,.int .i64 0,.int .i64 en,.int .i64 0,.int .i64 0,.int .i64 0,.slice (some ⟨g,0,none⟩) 1 c,.slice none 0 0,.slice none 0 0]:List Value).toArray 33 (0,0)):=by
  have h1:=(K47.out.block _ (aC HZ4.out) (fun e=>e)).trans HZ4.out
  exact (k78.block _ (aC h1) zg).trans h1
 have hx8:∃ cx,W8.heap[w.heap.size+1]?=some (.cells cx 33 (0,0))∧cx.size=10:=by
  have s5:WA.heap.size=w.heap.size+2:=HSZ.out
  have s6:=HA1.out.size
  have s7:=HGG.out
  have h1:=(HA1.out.block _ (aC HX.out) (fun e=>e)).trans HX.out
  have h2:=(HK14.out.block _ (aC h1) (fun e=>by have:w.heap.size+1=w1.heap.size:=e;omega)).trans h1
  have h3:=(K47.out.block _ (aC h2) (fun e=>e)).trans h2
  exact ⟨_,(k78.block _ (aC h3) (fun e=>by have e':w.heap.size+1=g:=e;have s8:w.heap.size+2≤g:=s7;omega)).trans h3,rfl⟩
 obtain ⟨cx,hx8,hcx⟩:=hx8
 have HR8:Hid (W8.rangeAt w1.heap.size 0 [.int .i64 0,.int .i64 0,.int .i64 0,.int .i64 en,.int .i64 0,.int .i64 0,.int .i64 0,.slice (some ⟨g,0,none⟩) 1 c,.slice none 0 0,.slice none 0 0]):=jD hz8
 have HS8:Hid ((Tryz.prog.info? 33).map (·.size)=some ([.int .i64 0,.int .i64 0,.int .i64 0,.int .i64 en,.int .i64 0,.int .i64 0,.int .i64 0,.slice (some ⟨g,0,none⟩) 1 c,.slice none 0 0,.slice none 0 0]:List Value).length):=fF
 have HS9:Hid ((Tryz.prog.info? 33).map (·.size)=some ([.int .i64 0,.int .i64 0,.int .i64 0,.int .i64 en,.int .i64 0,.int .i64 0,.int .i64 0,.slice (some ⟨g,0,none⟩) 1 c,.slice none 0 0,.slice none 0 0]:List Value).toArray.size):=fF
 have HT8:Hid (W8.there (w.heap.size+1) 0 ([.int .i64 0,.int .i64 0,.int .i64 0,.int .i64 en,.int .i64 0,.int .i64 0,.int .i64 0,.slice (some ⟨g,0,none⟩) 1 c,.slice none 0 0,.slice none 0 0]:List Value).toArray.size):=fD hx8 (by rw [hcx];exact Nat.le_refl 10)
 have HO8:Hid (([.int .i64 0,.int .i64 0,.int .i64 0,.int .i64 en,.int .i64 0,.int .i64 0,.int .i64 0,.slice (some ⟨g,0,none⟩) 1 c,.slice none 0 0,.slice none 0 0]:List Value).toArray.all (·.oneCell')=true):=by show _=_;simp [Value.oneCell']
 have l1:=aC hz8
 have l2:=aC hx8
 clear k78 hz8 hx8 zg hcx
 go_wp2_with fail
 rw [rounds_succ]
 go_wp2_with (first
  | (refine wpList_load_mid rfl 33 (.tmp 7) rfl w1.heap.size 0 rfl [.int .i64 0,.int .i64 0,.int .i64 0,.int .i64 en,.int .i64 0,.int .i64 0,.int .i64 0,.slice (some ⟨g,0,none⟩) 1 c,.slice none 0 0,.slice none 0 0] _ HR8.out Tryz.underlying33 rfl HS8.out ?_)
  | (refine wpList_store_mid rfl 33 (.tmp 4) (.tmp 73) rfl (w.heap.size+1) 0 ([.int .i64 0,.int .i64 0,.int .i64 0,.int .i64 en,.int .i64 0,.int .i64 0,.int .i64 0,.slice (some ⟨g,0,none⟩) 1 c,.slice none 0 0,.slice none 0 0]:List Value).toArray rfl rfl HT8.out HS9.out HO8.out ?_)
  | fail)
 have KF:Hid (aD (fun k=>k=w.heap.size+1) W8 (W8.setCells (w.heap.size+1) 0 ([.int .i64 0,.int .i64 0,.int .i64 0,.int .i64 en,.int .i64 0,.int .i64 0,.int .i64 0,.slice (some ⟨g,0,none⟩) 1 c,.slice none 0 0,.slice none 0 0]:List Value).toArray.toList)):=show aD _ _ _ from dO (S:=fun k=>k=w.heap.size+1) rfl _ _ (aD.refl _ _)
 have HR9:Hid ((W8.setCells (w.heap.size+1) 0 [.int .i64 0,.int .i64 0,.int .i64 0,.int .i64 en,.int .i64 0,.int .i64 0,.int .i64 0,.slice (some ⟨g,0,none⟩) 1 c,.slice none 0 0,.slice none 0 0]).rangeAt (w.heap.size+1) 0 [.int .i64 0,.int .i64 0,.int .i64 0,.int .i64 en,.int .i64 0,.int .i64 0,.int .i64 0,.slice (some ⟨g,0,none⟩) 1 c,.slice none 0 0,.slice none 0 0]):=World.rangeAt_setCells_same _ _ _ _ HT8.out
 refine bodyPost_ret (v:=.agg ([.int .i64 0,.int .i64 0,.int .i64 0,.int .i64 en,.int .i64 0,.int .i64 0,.int .i64 0,.slice (some ⟨g,0,none⟩) 1 c,.slice none 0 0,.slice none 0 0]:List Value).toArray) ?_ rfl ?_
 ·have h:=run_loadVar_mid (P:=Tryz.prog) (W8.setCells (w.heap.size+1) 0 [.int .i64 0,.int .i64 0,.int .i64 0,.int .i64 en,.int .i64 0,.int .i64 0,.int .i64 0,.slice (some ⟨g,0,none⟩) 1 c,.slice none 0 0,.slice none 0 0]) (w.heap.size+1) 0 33 [.int .i64 0,.int .i64 0,.int .i64 0,.int .i64 en,.int .i64 0,.int .i64 0,.int .i64 0,.slice (some ⟨g,0,none⟩) 1 c,.slice none 0 0,.slice none 0 0] _ HR9.out Tryz.underlying33 rfl HS8.out
  exact sD rfl rfl h
 ·have hM7:=(HM.out.keep HK14.out (fun e=>by have e':g=w1.heap.size:=e;have:=HGL.out;omega)).keep K47.out (fun e=>e)
  have cc:∀ i,i≠5→W8.cell? ⟨g,i,none⟩=w7.cell? ⟨g,i,none⟩:=fun i hi=>by rw [aB HB8.out i,aB HC7.out i,Array.getElem?_setIfInBounds_ne (Ne.symm hi)]
  have h5:5<cur.size:=by
   have h:=hM7.c5
   rw [show 0+5=5 from rfl,aB HC7.out 5] at h
   exact (Array.getElem?_eq_some_iff.1 h).1
  have c5:W8.cell? ⟨g,0+5,none⟩=some (.slice (some ⟨g',0,none⟩) b.recs.length cap'):=by
   rw [show 0+5=5 from rfl,aB HB8.out 5,HLR.out]
   simp [h5]
  have hM8:tV W8 g 0 b (some ⟨g',0,none⟩) cap':=⟨(cc 0 aE).trans hM7.c0,(cc 1 aE).trans hM7.c1,(cc 2 aE).trans hM7.c2,(cc 3 aE).trans hM7.c3,(cc 4 aE).trans hM7.c4,c5,aC HB8.out⟩
  have hgg:=HGG.out
  have s46:=HK46.out.size
  have s14:=HK14.out.size
  have hgl:=HGL.out
  have hP7:dN (fun k=>W6.heap.size≤k) w7 b (some ⟨g',0,none⟩) cap':=aPt (by rw [HLR.out,HRR.out];simpa using HOWN.out) (fun k hk=>by
   have hk':k=0:=by rw [HLR.out] at hk;omega
   subst hk'
   have h0:b.recs[0]=r:=by simp [HRR.out]
   rw [h0];exact HPL.out) (by rw [HRR.out];simp)
  refine ⟨g,c,some ⟨g',0,none⟩,cap',rfl,hM8.keep KF.out (fun e=>by have e':g=w.heap.size+1:=e;omega),((hP7.keep HK78.out (fun j hj e=>by have h1:W6.heap.size≤j:=hj;have h2:j=g:=e;omega) (fun _ e=>e)).keep KF.out (fun j hj e=>by have h1:W6.heap.size≤j:=hj;have h2:j=w.heap.size+1:=e;omega) (fun j hj=>by have h1:W6.heap.size≤j:=hj;exact ⟨by omega,by omega⟩)),by omega,?_⟩
  exact (((HKW4.out.trans K47.out (fun _ _ e=>e)).trans HK78.out (fun k hk e=>by have e':k=g:=e;omega))).trans KF.out (fun k hk e=>by have e':k=w.heap.size+1:=e;omega)
theorem aI1 {w:World} {bb cb stb:Nat} {cs:List Value} {s:ByteArray} {b:aR} {now en:Int} (hb:w.heap[bb]?=some (.cells #[.pointer (some ⟨cb,0,none⟩),.pointer (some ⟨stb,0,none⟩)] 152 (0,0)))
  (hl:cs.length=20) (h0:cs[0]?=some (.int .i64 5))
  (henc:∀ wx,K0 w wx→Calls Tryz.prog 34 #[.agg cs.toArray] wx fun e w'=>e=.returned (.tuple #[.string s,.int .i64 0])∧K0 wx w')
  (hfe:∀ wx,K0 w wx→Calls Tryz.prog 74 #[.pointer (some ⟨bb,0,none⟩),.agg cs.toArray] wx (aSv wx b en)) :
  Calls Tryz.prog 28 #[.pointer (some ⟨bb,0,none⟩),.agg cs.toArray,.int .i64 now] w (aSv w b en):=by
 have hcell:∀ {i:Nat} {v:Value},cs[i]?=some v→∀ {wx:World},wx.heap[w.heap.size]?=some (.cells cs.toArray 45 (0,0))→wx.cell? ⟨w.heap.size,i,none⟩=some v:=fun {i v} h {wx} hb=>by rw [aB hb i];simpa using h
 have HS0:Hid ((Tryz.prog.info? 45).map (·.size)=some cs.length):=by show _=_;rw [hl];exact gQ
 have HENC:=Lib.hid henc
 have HFE:=Lib.hid hfe
 have HBB:=Lib.hid hb
 have HC:=Lib.hid (fun (i:Nat) (v:Value) (h:cs[i]?=some v) (wx:World) (hb:wx.heap[w.heap.size]?=some (.cells cs.toArray 45 (0,0)))=>hcell h hb)
 have H0:=Lib.hid h0
 have hbl:bb<w.heap.size:=aC hb
 clear hl h0 henc hfe hb hcell
 go_enter Tryz.func28,Tryz.ntmps28
 have HR:Hid (((w.alloc (.cells cs.toArray 45)).alloc (.cells #[.int .i64 0,.int .i64 0,.int .i64 0,.int .i64 0,.int .i64 0,.int .i64 0,.int .i64 0,.slice none 0 0,.slice none 0 0,.slice none 0 0] 33)).rangeAt w.heap.size 0 cs):=fun j v hv=>by
  have h:=nV w cs 45 _ rfl j v hv
  exact ((aD.refl (fun _=>False) _).alloc _).cell' h (fun e=>e)
 go_wp2_with (first
  | (refine wpList_load_mid rfl 45 (.tmp 4) rfl w.heap.size 0 rfl cs _ HR.out Tryz.underlying45 rfl HS0.out ?_)
  | fail)
 refine (HENC.out _ (((aD.refl _ _).alloc _).alloc _)).mono ?_
 rintro e w2 ⟨rfl,k2⟩
 have HK2:Hid (K0 w w2):=K0.tr (((aD.refl (fun _=>False) w).alloc _).alloc _) k2
 have hq2:w2.heap[w.heap.size]?=some (.cells cs.toArray 45 (0,0)):=(k2.block _ cX (fun e=>e)).trans (aL (aI w _ _ rfl) _)
 have hx2:w2.heap[w.heap.size+1]?=some (.cells #[.int .i64 0,.int .i64 0,.int .i64 0,.int .i64 0,.int .i64 0,.int .i64 0,.int .i64 0,.slice none 0 0,.slice none 0 0,.slice none 0 0] 33 (0,0)):=(k2.block _ aK (fun e=>e)).trans (aI _ _ _ aK)
 have q0:=HC.out 0 _ H0.out w2 hq2
 have HR2:Hid (w2.rangeAt w.heap.size 0 cs):=jD hq2
 have HX2:=Lib.hid hx2
 have ql2:w.heap.size<w2.heap.size:=aC hq2
 have xl2:w.heap.size+1<w2.heap.size:=aC hx2
 clear k2 hq2 hx2 HR HC
 go_wp2_with (first
  | (refine wpList_load_mid rfl 45 (.tmp 4) rfl w.heap.size 0 rfl cs _ HR2.out Tryz.underlying45 rfl HS0.out ?_)
  | fail)
 refine (HFE.out _ HK2.out).mono ?_
 rintro e w3 ⟨g,c,a,cap,rfl,hM,hP,hg,k3⟩
 have hx3:w3.heap[w.heap.size+1]?=some (.cells #[.int .i64 0,.int .i64 0,.int .i64 0,.int .i64 0,.int .i64 0,.int .i64 0,.int .i64 0,.slice none 0 0,.slice none 0 0,.slice none 0 0] 33 (0,0)):=(k3.block _ (aC HX2.out) (fun e=>e)).trans HX2.out
 have HT:Hid (w3.there (w.heap.size+1) 0 (bY 0 0 0 en 0 0 0 (.slice (some ⟨g,0,none⟩) 1 c)).size):=fD hx3 (Nat.le_refl 10)
 have HS1:Hid ((Tryz.prog.info? 33).map (·.size)=some (bY 0 0 0 en 0 0 0 (.slice (some ⟨g,0,none⟩) 1 c)).size):=fF
 have HS2:Hid ((Tryz.prog.info? 33).map (·.size)=some (bY 0 0 0 en 0 0 0 (.slice (some ⟨g,0,none⟩) 1 c)).toList.length):=fF
 have HO:Hid ((bY 0 0 0 en 0 0 0 (.slice (some ⟨g,0,none⟩) 1 c)).all (·.oneCell')=true):=rR _ _ _ _ _ _ _ _ _ _
 have xl3:=aC hx3
 have HM:=Lib.hid hM
 have HP:=Lib.hid hP
 have HG:=Lib.hid hg
 have HK3:=Lib.hid k3
 clear hx3 hM hP hg k3
 go_wp2_with (first
  | (refine wpList_store_mid rfl 33 (.tmp 6) (.tmp 103) rfl (w.heap.size+1) 0 (bY 0 0 0 en 0 0 0 (.slice (some ⟨g,0,none⟩) 1 c)) rfl rfl HT.out HS1.out HO.out ?_)
  | fail)
 have KF:Hid (aD (fun k=>k=w.heap.size+1) w3 (w3.setCells (w.heap.size+1) 0 (bY 0 0 0 en 0 0 0 (.slice (some ⟨g,0,none⟩) 1 c)).toList)):=by
  show aD _ _ _
  exact dO (S:=fun k=>k=w.heap.size+1) rfl _ _ (aD.refl _ _)
 have HR9:Hid ((w3.setCells (w.heap.size+1) 0 (bY 0 0 0 en 0 0 0 (.slice (some ⟨g,0,none⟩) 1 c)).toList).rangeAt (w.heap.size+1) 0 (bY 0 0 0 en 0 0 0 (.slice (some ⟨g,0,none⟩) 1 c)).toList):=World.rangeAt_setCells_same _ _ _ _ HT.out
 refine bodyPost_ret (v:=.agg (bY 0 0 0 en 0 0 0 (.slice (some ⟨g,0,none⟩) 1 c))) ?_ rfl ?_
 ·have h:=run_loadVar_mid (P:=Tryz.prog) (w3.setCells (w.heap.size+1) 0 (bY 0 0 0 en 0 0 0 (.slice (some ⟨g,0,none⟩) 1 c)).toList) (w.heap.size+1) 0 33 _ _ HR9.out Tryz.underlying33 rfl HS2.out
  exact sD rfl rfl h
 ·have s2:=HK2.out.size
  have h9:=HG.out
  refine ⟨g,c,a,cap,rfl,HM.out.keep KF.out (fun e=>by have e':g=w.heap.size+1:=e;omega),(HP.out.keep KF.out (fun j hj e=>by have h1:w2.heap.size≤j:=hj.1;have h2:j=w.heap.size+1:=e;omega) (fun j hj=>⟨Nat.le_trans s2 hj.1,hj.2⟩)),by omega,?_⟩
  exact (K0.tr HK2.out HK3.out).trans KF.out (fun k hk e=>by have e':k=w.heap.size+1:=e;omega)
theorem aNt (s rest:ByteArray) (w:World) (hs:s.size≤60000) (hr:rest.size≤1000000000):Calls Tryz.prog 56 #[.string (dR s.size++s++rest),.int .i64 0,.int .i64 4] w fun e w'=>e=.returned (.tuple #[.int .i64 s.size,.int .i64 4,.int .i64 0])∧K0 w w':=by
 have hz:(dR s.size++s++rest).size=4+s.size+rest.size:=(by simp only [ByteArray.size_append,dB])
 have h:=aE7 (dR s.size++s++rest) 0 w aA aA
 have e1:rd4 (dR s.size++s++rest) 0=s.size:=by
  have h2:=aE5 ByteArray.empty (s++rest) s.size aA
  have e2:ByteArray.empty++(dR s.size++(s++rest))=dR s.size++s++rest:=by rw [ByteArray.append_assoc];simp
  rw [e2] at h2
  exact h2
 rw [e1] at h
 exact h
theorem aQv (s rest:ByteArray):(dR s.size++s++rest).extract 4 (4+s.size)=s:=by
 have h:=rH (dR s.size) s rest
 rw [dB] at h
 exact h
theorem uW (s rest:ByteArray) (w:World) (hs:s.size≤60000) (hr:rest.size≤1000000000):Calls Tryz.prog 19 #[.string (dR s.size++s++rest)] w fun e w'=>e=.returned (.tuple #[.string s,.int .i64 (4+s.size),.int .i64 0])∧K0 w w':=by
 have HC:=Lib.hid (fun w=>aNt s rest w hs hr)
 have hz:(dR s.size++s++rest).size=4+s.size+rest.size:=(by simp only [ByteArray.size_append,dB])
 have HX:=Lib.hid (aQv s rest)
 obtain ⟨t,ht⟩:∃ t,t=dR s.size++s++rest:=⟨_,rfl⟩
 rw [← ht] at HC hz HX ⊢
 clear ht
 have h1:¬ (60000:Int)<s.size:=aA
 have h2:¬ ((t.size:Int) - 4<s.size):=aA
 have h3:(4:Int)+s.size≤t.size:=aA
 go_enter Tryz.func19,Tryz.ntmps19
 go_wp2_with (go_at_call 56;refine (HC.out _).mono ?_;rintro e w2 ⟨rfl,k⟩;have HK:=Lib.hid k;clear k)
 have hx:t.extract 4 (4+s.size)=s:=HX.out
 rw [hx]
 first | go_ret3 | go_ret | (refine bodyPost_ret (results_tmp3 rfl _ _ _) rfl ?_)
 exact ⟨rfl,HK.out⟩
theorem aRv {w:World} {sb:Nat} (_hl:sb<w.heap.size):Calls Tryz.prog 115 #[.pointer (some ⟨sb,0,none⟩),.int .i64 0] w fun e w'=>e=.returned (.pointer (some ⟨sb,1,none⟩))∧K0 w w':=by
 go_enter Tryz.func115,Tryz.ntmps115
 go_wp2_with fail
 go_ret
 exact ⟨rfl,aD.refl _ _⟩
theorem aUm {w:World} {sb:Nat} (_hl:sb<w.heap.size):Calls Tryz.prog 115 #[.pointer (some ⟨sb,0,none⟩),.int .i64 1] w fun e w'=>e=.returned (.pointer (some ⟨sb,35,none⟩))∧K0 w w':=by
 go_enter Tryz.func115,Tryz.ntmps115
 go_wp2_with fail
 go_ret
 exact ⟨rfl,aD.refl _ _⟩
theorem aOm {w:World} {sb o:Nat} {c:Array Value} {ty:TypeId} {i:Int} {s t:ByteArray} (hb:w.heap[sb]?=some (.cells c ty (0,0))) (h0:c[o]?=some (.string s)) (h5:c[o+33]?=some (.bool false)) (hz:s.size+t.size≤200000)
  (hat:∀ wx,K0 w wx→Calls Tryz.prog 115 #[.pointer (some ⟨sb,0,none⟩),.int .i64 i] wx fun e w'=>e=.returned (.pointer (some ⟨sb,o,none⟩))∧K0 wx w') :
  Calls Tryz.prog 53 #[.pointer (some ⟨sb,0,none⟩),.int .i64 i,.string t] w fun e w'=>e=.returned (.int .i64 0)∧w'.heap[sb]?=some (.cells (c.setIfInBounds o (.string (s++t))) ty (0,0))∧aD (fun k=>k=sb) w w':=by
 have HA:=Lib.hid hat
 have HB:=Lib.hid hb
 have H0:=Lib.hid h0
 have H5:=Lib.hid h5
 have z1:¬ (200000:Int)<(s.size:Int)+t.size:=aA
 have z2:¬ 9223372036854775807<s.size+t.size:=aA
 clear hb h0 h5 hat hz
 go_enter Tryz.func53,Tryz.ntmps53
 go_wp2_with fail
 refine (HA.out _ (aD.refl _ _)).mono ?_
 rintro e w2 ⟨rfl,k2⟩
 have hb2:=(k2.block _ (aC HB.out) (fun e=>e)).trans HB.out
 have x0:w2.cell? ⟨sb,o,none⟩=some (.string s):=(aB hb2 o).trans H0.out
 have x5:w2.cell? ⟨sb,o+33,none⟩=some (.bool false):=(aB hb2 (o+33)).trans H5.out
 have f0:w2.frozen? ⟨sb,o,none⟩=false:=aH hb2 o
 have bl:=aC hb2
 have HB2:=Lib.hid hb2
 have HK2:=Lib.hid k2
 clear hb2 k2
 go_wp2_with fail
 go_ret
 refine ⟨rfl,aM HB2.out o _,?_⟩
 exact (HK2.out.mono (fun _ _ e=>e.elim)).setC _ _ (fun _=>rfl)
def putL (c:Array Value):Nat→List Value→Array Value
 | _,[]=>c
 | o,v::r=>putL (c.setIfInBounds o v) (o+1) r
theorem jP {b:Nat} {ty:TypeId}:∀ (vs:List Value) (o:Nat) (w:World) (c:Array Value),w.heap[b]?=some (.cells c ty (0,0))→(w.setCells b o vs).heap[b]?=some (.cells (putL c o vs) ty (0,0))
 | [],_,_,_,h=>h
 | v::r,o,w,c,h=>by
  rw [World.setCells,putL]
  exact jP r (o+1) _ _ (aM h o v)
theorem kH:∀ (vs:List Value) (o:Nat) (c:Array Value),(putL c o vs).size=c.size
 | [],_,_=>rfl
 | v::r,o,c=>by rw [putL,kH r];simp
theorem jO:∀ (vs:List Value) (o:Nat) (c:Array Value) (i:Nat),(i<o∨o+vs.length≤i)→(putL c o vs)[i]?=c[i]?
 | [],_,_,_,_=>rfl
 | v::r,o,c,i,h=>by
  rw [putL,jO r (o+1) _ i (by simp only [List.length_cons] at h;omega),Array.getElem?_setIfInBounds_ne (by simp only [List.length_cons] at h;omega)]
theorem zF:∀ (vs:List Value) (o:Nat) (c:Array Value) (j:Nat),j<vs.length→o+vs.length≤c.size→(putL c o vs)[o+j]?=vs[j]?
 | v::r,o,c,0,_,hs=>by
  rw [putL,jO r (o+1) _ (o+0) aA]
  simp only [List.length_cons] at hs
  simp [Array.getElem?_setIfInBounds]
  omega
 | v::r,o,c,j+1,hj,hs=>by
  simp only [List.length_cons] at hj hs
  rw [putL,show o+(j+1)=(o+1)+j by omega,zF r (o+1) _ j aA cX]
  rfl
theorem aDo {w:World} {b o:Nat} {c:Array Value} {t:TypeId} {n:Nat} (h:w.heap[b]?=some (.cells c t (0,0))) (hn:o+n≤c.size):w.there b o n:=fun j hj=>by
 refine ⟨?_,aH h (o+j)⟩
 rw [aB h (o+j),Array.getElem?_eq_getElem aA]
 rfl
theorem aRu {w:World} {sb o:Nat} {c:Array Value} {ty:TypeId} {vs:List Value} (hb:w.heap[sb]?=some (.cells c ty (0,0))) (hs:o+34≤c.size) (hl:vs.length=10) (ho:vs.toArray.all (·.oneCell')=true) :
  Calls Tryz.prog 117 #[.pointer (some ⟨sb,o,none⟩),.agg vs.toArray] w fun e w'=>e=.returned (.tuple #[])∧w'.heap[sb]?=some (.cells ((putL c (o+22) vs).setIfInBounds (o+1) (.int .i64 2)) ty (0,0))∧aD (fun k=>k=sb) w w':=by
 obtain ⟨W,hW⟩:∃ W,W=w.alloc (.cells vs.toArray 33):=⟨_,rfl⟩
 have hb1:W.heap[sb]?=some (.cells c ty (0,0)):=by rw [hW];exact aL hb _
 have hk1:aD (fun k=>k=sb) w W:=(by rw [hW];exact (aD.refl _ _).alloc _)
 have hv:W.heap[w.heap.size]?=some (.cells vs.toArray 33 (0,0)):=by rw [hW];exact aI w _ _ rfl
 have hb2:=jP vs (o+22) W c hb1
 have HR:Hid (W.rangeAt w.heap.size 0 vs):=jD hv
 have HT:Hid (W.there sb (o+22) vs.toArray.size):=aDo hb1 (by rw [List.size_toArray,hl];omega)
 have HS0:Hid ((Tryz.prog.info? 33).map (·.size)=some vs.length):=by show _=_;rw [hl];exact fF
 have HS1:Hid ((Tryz.prog.info? 33).map (·.size)=some vs.toArray.size):=by show _=_;rw [List.size_toArray,hl];exact fF
 have HO:=Lib.hid ho
 have HB2:=Lib.hid hb2
 have HK1:=Lib.hid hk1
 obtain ⟨v,hv1⟩:∃ v,(W.setCells sb (o+22) vs).cell? ⟨sb,o+1,none⟩=some v:=by
  rw [aB hb2 (o+1)]
  exact ⟨_,Array.getElem?_eq_getElem (by rw [kH];omega)⟩
 have fz:(W.setCells sb (o+22) vs).frozen? ⟨sb,o+1,none⟩=false:=aH hb2 (o+1)
 have bl:=aC hb1
 have bl2:=aC hb2
 have vl:=aC hv
 clear hb hs hl ho hb1 hk1 hv hb2
 go_enter Tryz.func117,Tryz.ntmps117
 go_upto_region 1 with fail
 rw [← hW]
 clear hW
 go_wp2_with (first
  | (refine wpList_load_mid rfl 33 (.tmp 3) rfl w.heap.size 0 rfl vs _ HR.out Tryz.underlying33 rfl HS0.out ?_)
  | (refine wpList_store_mid rfl 33 (.tmp 8) (.tmp 6) rfl sb (o+22) vs.toArray rfl rfl HT.out HS1.out HO.out ?_)
  | fail)
 first | go_end0 | (refine bodyPost_ret (results_none rfl _ _ _) rfl ?_)
 refine ⟨rfl,aM HB2.out (o+1) _,?_⟩
 exact (HK1.out.trans (dO (S:=fun k=>k=sb) rfl vs (o+22) (aD.refl _ W)) (fun _ _ e=>e)).setC _ _ (fun _=>rfl)
def yB (c:Array Value) (o:Nat) (cs:List Value):Array Value:=(putL (c.setIfInBounds o (.string ⟨#[]⟩)) (o+2) cs).setIfInBounds (o+1) (.int .i64 1)
theorem aJm (s:ByteArray):(dR s.size++s).extract (4+s.size) (4+s.size)=⟨#[]⟩:=by
 apply ByteArray.ext
 simp
theorem aOn {w:World} {sb o:Nat} {c:Array Value} {ty:TypeId} {s:ByteArray} (hb:w.heap[sb]?=some (.cells c ty (0,0))) (hs:o+34≤c.size) (h0:c[o]?=some (.string (dR s.size++s))) (hz:s.size≤60000) {X:List Value→World→Prop}
  (hX:∀ cs wx wy,aD (fun k=>k=sb) wx wy→X cs wx→X cs wy)
  (hdec:∀ wx,aD (fun k=>k=sb) w wx→Calls Tryz.prog 12 #[.string s] wx fun e w'=>∃ cs:List Value,e=.returned (.tuple #[.agg cs.toArray,.int .i64 0])∧cs.length=20∧cs.toArray.all (·.oneCell')=true∧K0 wx w'∧X cs w') :
  Calls Tryz.prog 116 #[.pointer (some ⟨sb,o,none⟩)] w fun e w'=>∃ cs:List Value,e=.returned (.bool true)∧w'.heap[sb]?=some (.cells (yB c o cs) ty (0,0))∧cs.length=20∧aD (fun k=>k=sb) w w'∧X cs w':=by
 have HN:Hid (∀ wx,Calls Tryz.prog 19 #[.string (dR s.size++s)] wx fun e w'=>e=.returned (.tuple #[.string s,.int .i64 (4+s.size),.int .i64 0])∧K0 wx w'):=fun wx=>by
  have h:=uW s ⟨#[]⟩ wx hz aE
  have e:dR s.size++s++⟨#[]⟩=dR s.size++s:=ByteArray.append_empty
  rw [e] at h
  exact h
 have hz2:(dR s.size++s).size=4+s.size:=(by simp only [ByteArray.size_append,dB])
 have HX0:=Lib.hid (aJm s)
 have HD:=Lib.hid hdec
 have HB:=Lib.hid hb
 have HS:=Lib.hid hs
 have HXX:=Lib.hid hX
 have x0:w.cell? ⟨sb,o,none⟩=some (.string (dR s.size++s)):=(aB hb o).trans h0
 obtain ⟨t,ht⟩:∃ t,t=dR s.size++s:=⟨_,rfl⟩
 rw [← ht] at HN HX0 x0 hz2
 have bl:=aC hb
 clear hb hs h0 hX hdec ht
 go_enter Tryz.func116,Tryz.ntmps116
 go_wp2_with fail
 refine (HN.out _).mono ?_
 rintro e w2 ⟨rfl,k2⟩
 have hb2:=(k2.block _ (aC HB.out) (fun e=>e)).trans HB.out
 have HB2:=Lib.hid hb2
 have HK2:=Lib.hid k2
 have y0:w2.cell? ⟨sb,o,none⟩=some (.string t):=k2.cell' x0 (fun e=>e)
 have f0:w2.frozen? ⟨sb,o,none⟩=false:=aH hb2 o
 have bl2:=aC hb2
 clear k2 hb2 x0 bl
 have HK3:Hid (aD (fun k=>k=sb) w (w2.setCell ⟨sb,o,none⟩ (.string ⟨#[]⟩))):=(HK2.out.mono (fun _ _ e=>e.elim)).setC _ _ (fun _=>rfl)
 have HB3:Hid ((w2.setCell ⟨sb,o,none⟩ (.string ⟨#[]⟩)).heap[sb]?=some (.cells (c.setIfInBounds o (.string ⟨#[]⟩)) ty (0,0))):=aM HB2.out o _
 have hl1:(4:Int)+s.size≤t.size:=aA
 go_wp2_with fail
 rw [show ByteArray.empty=⟨#[]⟩ from rfl]
 refine (HD.out _ HK3.out).mono ?_
 rintro e w4 ⟨cs,rfl,hl4,ho4,k4,hx4⟩
 have HK4:=Lib.hid k4
 have HX4:=Lib.hid hx4
 have HL4:=Lib.hid hl4
 have HO4:=Lib.hid ho4
 have hb4:=(k4.block _ (aC HB3.out) (fun e=>e)).trans HB3.out
 have HB4:=Lib.hid hb4
 clear k4 hx4 hl4 ho4 hb4 y0 f0 bl2
 obtain ⟨W,hW⟩:∃ W,W=w4.alloc (.cells rqZ 45):=⟨_,rfl⟩
 have hbW:W.heap[w4.heap.size]?=some (.cells rqZ 45 (0,0)):=(by rw [hW];exact aI _ _ _ rfl)
 have hsW:W.heap[sb]?=some (.cells (c.setIfInBounds o (.string ⟨#[]⟩)) ty (0,0)):=by rw [hW];exact aL HB4.out _
 have kW:K0 w4 W:=(by rw [hW];exact (aD.refl _ _).alloc _)
 have hne:w4.heap.size≠sb:=by have:=aC HB4.out;omega
 have HT1:Hid (W.there w4.heap.size 0 cs.toArray.size):=fD hbW (by rw [List.size_toArray,HL4.out];exact Nat.le_refl 20)
 have HS1:Hid ((Tryz.prog.info? 45).map (·.size)=some cs.toArray.size):=by show _=_;rw [List.size_toArray,HL4.out];exact gQ
 have HS0:Hid ((Tryz.prog.info? 45).map (·.size)=some cs.length):=by show _=_;rw [HL4.out];exact gQ
 have k5:aD (fun k=>k=w4.heap.size) W (W.setCells w4.heap.size 0 cs):=dO (S:=fun k=>k=w4.heap.size) rfl _ _ (aD.refl _ _)
 have HR5:Hid ((W.setCells w4.heap.size 0 cs).rangeAt w4.heap.size 0 cs):=World.rangeAt_setCells_same _ _ _ _ HT1.out
 have hs5:(W.setCells w4.heap.size 0 cs).heap[sb]?=some (.cells (c.setIfInBounds o (.string ⟨#[]⟩)) ty (0,0)):=(k5.block _ (aC hsW) (fun e=>hne e.symm)).trans hsW
 have HT2:Hid ((W.setCells w4.heap.size 0 cs).there sb (o+2) cs.toArray.size):=aDo hs5 (by rw [List.size_toArray,HL4.out];have:=HS.out;simp;omega)
 have hs6:=jP cs (o+2) _ _ hs5
 have HS6:=Lib.hid hs6
 obtain ⟨v,hv1⟩:∃ v,((W.setCells w4.heap.size 0 cs).setCells sb (o+2) cs).cell? ⟨sb,o+1,none⟩=some v:=by
  rw [aB hs6 (o+1)]
  exact ⟨_,Array.getElem?_eq_getElem (by rw [kH];have:=HS.out;simp;omega)⟩
 have fz:((W.setCells w4.heap.size 0 cs).setCells sb (o+2) cs).frozen? ⟨sb,o+1,none⟩=false:=aH hs6 (o+1)
 have lw:w4.heap.size<W.heap.size:=aC hbW
 have ls:sb<W.heap.size:=aC hsW
 have l5:=aC hs5
 have l6:=aC hs6
 have HK5:=Lib.hid k5
 have HKW:=Lib.hid kW
 clear hbW hsW kW k5 hs5 hs6
 unfold rqZ jT at hW
 go_upto_region 10 with (first
  | (rw [← hW];clear hW;refine wpList_store_mid rfl 45 (.tmp 6) (.tmp 40) rfl w4.heap.size 0 cs.toArray rfl rfl HT1.out HS1.out HO4.out ?_)
  | fail)
 go_wp2_with (first
  | (refine wpList_load_mid rfl 45 (.tmp 6) rfl w4.heap.size 0 rfl cs _ HR5.out Tryz.underlying45 rfl HS0.out ?_)
  | (refine wpList_store_mid rfl 45 (.tmp 48) (.tmp 46) rfl sb (o+2) cs.toArray rfl rfl HT2.out HS1.out HO4.out ?_)
  | fail)
 go_ret
 have k6:aD (fun k=>k=sb) w4 (((W.setCells w4.heap.size 0 cs).setCells sb (o+2) cs).setCell ⟨sb,o+1,none⟩ (.int .i64 1)):=
  ((dO (S:=fun k=>k=sb) rfl cs (o+2) ((HKW.out.mono (S1:=fun k=>k=sb) (fun _ _ e=>e.elim)).trans HK5.out (fun k hk e=>absurd hk aA))).setC _ _ (fun _=>rfl))
 refine ⟨cs,rfl,aM HS6.out (o+1) _,HL4.out,?_,HXX.out _ _ _ k6 HX4.out⟩
 exact (HK3.out.trans HK4.out (fun _ _ e=>e.elim)).trans k6 (fun _ _ e=>e)
section
variable {w:World} {sb o:Nat} {c:Array Value} {i now:Int}
theorem aKj (hb:w.heap[sb]?=some (.cells c 244 (0,0))) (h1:c[o+1]?=some (.int .i64 0)) (h5:c[o+33]?=some (.bool false))
  (hat:∀ wx,K0 w wx→Calls Tryz.prog 115 #[.pointer (some ⟨sb,0,none⟩),.int .i64 i] wx fun e w'=>e=.returned (.pointer (some ⟨sb,o,none⟩))∧K0 wx w') (P:World→World→Prop)
  (htk:∀ wx,K0 w wx→Calls Tryz.prog 116 #[.pointer (some ⟨sb,o,none⟩)] wx fun e w'=>e=.returned (.bool true)∧P wx w') :
  Calls Tryz.prog 54 #[.pointer (some ⟨sb,0,none⟩),.int .i64 i,.int .i64 now] w fun e w'=>e=.returned (.tuple #[.string ⟨#[]⟩,.bool true])∧∃ wx,K0 w wx∧P wx w':=by
 have HA:=Lib.hid hat
 have HT:=Lib.hid htk
 have HB:=Lib.hid hb
 have H1:=Lib.hid h1
 have H5:=Lib.hid h5
 clear hb h1 h5 hat htk
 go_enter Tryz.func54,Tryz.ntmps54
 go_wp2_with fail
 refine (HA.out _ (aD.refl _ _)).mono ?_
 rintro e w2 ⟨rfl,k2⟩
 have hb2:=(k2.block _ (aC HB.out) (fun e=>e)).trans HB.out
 have x1:w2.cell? ⟨sb,o+1,none⟩=some (.int .i64 0):=(aB hb2 (o+1)).trans H1.out
 have x5:w2.cell? ⟨sb,o+33,none⟩=some (.bool false):=(aB hb2 (o+33)).trans H5.out
 have bl:=aC hb2
 have HK2:=Lib.hid k2
 clear hb2 k2
 go_wp2_with fail
 refine (HT.out _ HK2.out).mono ?_
 rintro e w3 ⟨rfl,hp⟩
 have HP:=Lib.hid hp
 clear hp
 go_wp2_with fail
 go_ret2
 exact ⟨rfl,_,HK2.out,HP.out⟩
end
end Go.Proofs.YteapahcklcldkaaGreatDoor
