/-
  The statement is proved: all that it reaches, in parts.
-/
import Derived.Test.YteapahcklcldkaaGreatDoorW38
set_option maxRecDepth 100000
set_option maxHeartbeats 16000000
namespace Go.Proofs.YteapahcklcldkaaGreatDoor
open Go.RowKit Fx
def lA (e x1 x2 x3 x4 x5 x6:Int) (l:List aR):List ByteArray:=[putB e,putB x1,putB x2,putB x3,putB x4,putB x5,putB x6,putB l.length,bR (l.map (fun b=>cJ (aZ b))),putB 0,putB 0]
theorem aDe (qb:Nat) (e x1 x2 x3 x4 x5 x6:Int) (l:List aR):(⟨#[]⟩:ByteArray)++putB e++pW (plR qb x1 x2 x3 x4 x5 x6)++lB l++putB 0++putB 0=bR (lA e x1 x2 x3 x4 x5 x6 l):=by
 unfold lA
 simp only [lB,plR,pW,bR,aAn,nL,ByteArray.append_assoc]
theorem fF:(Tryz.prog.info? 33).map (·.size)=some 10:=by kernel_rfl
theorem aJr (qb:Nat) (e x1 x2 x3 x4 x5 x6:Int) (l:List aR):(lB l).size≤(bR (lA e x1 x2 x3 x4 x5 x6 l)).size:=by
 rw [← aDe qb]
 simp only [ByteArray.size_append]
 omega
theorem rR (e x1 x2 x3 x4 x5 x6:Int) (a:Option Addr) (n m:Nat):(bY e x1 x2 x3 x4 x5 x6 (.slice a n m)).all (·.oneCell')=true:=by
 simp [bY,Value.oneCell']
section
variable {w:World} {e x1 x2 x3 x4 x5 x6:Int} {l:List aR} {bs:Value} {D:Nat→Prop}
theorem aU5 (ho:rW e x1 x2 x3 x4 x5 x6) (hl:∀ cb qb,w.heap.size≤cb→w.heap.size≤qb→tX D w cb qb bs l) (hz:(bR (lA e x1 x2 x3 x4 x5 x6 l)).size≤60000) (hst:bF w) (h0:0<w.heap.size) :
  Calls Tryz.prog 178 #[.agg (bY e x1 x2 x3 x4 x5 x6 bs),.func (Fn.func 58) #[] #[]] w fun en w'=>en=.returned (.tuple #[.string (bR (lA e x1 x2 x3 x4 x5 x6 l)),.int .i64 0])∧K0 w w':=by
 have HC:Hid (Calls Tryz.prog 58 #[.pointer (some ⟨w.heap.size+1,0,none⟩),.pointer (some ⟨w.heap.size,0,none⟩)] ((w.alloc (.cells (bY e x1 x2 x3 x4 x5 x6 bs) 33)).alloc (.cells #[.string ⟨#[]⟩,.int .i64 0,.bool false,.bool false] 212)) fun en w'=>en=.returned (.tuple #[])∧eW w' (w.heap.size+1) (bR (lA e x1 x2 x3 x4 x5 x6 l)) 0 false false∧K0 w w'):=by
  obtain ⟨W,hW⟩:∃ W,W=(w.alloc (.cells (bY e x1 x2 x3 x4 x5 x6 bs) 33)).alloc (.cells #[.string ⟨#[]⟩,.int .i64 0,.bool false,.bool false] 212):=⟨_,rfl⟩
  rw [← hW]
  have hs:W.heap.size=w.heap.size+2:=by rw [hW];simp
  have kW:K0 w W:=(by rw [hW];exact ((aD.refl _ _).alloc _).alloc _)
  have k1:K0 w (W.alloc (.cells #[.pointer (some ⟨w.heap.size+1,0,none⟩)] 118)):=kW.tr ((aD.refl _ _).alloc _)
  have hr:nC W (w.heap.size+1) W.heap.size w.heap.size ⟨#[]⟩ 0 false (bY e x1 x2 x3 x4 x5 x6 bs) (W.alloc (.cells #[.pointer (some ⟨w.heap.size+1,0,none⟩)] 118)):=by
   refine ⟨aL ?_ _,aL ?_ _,aB (aI _ _ _ rfl) 0,⟨by omega,by omega⟩,by omega,hst.keep0 k1,⟨by omega,by omega⟩,(aD.refl _ _).alloc _⟩
   ·exact (by rw [hW];exact aI _ _ _ (by simp))
   ·rw [hW];exact aL (aI _ _ _ rfl) _
  have z:=aJr 0 e x1 x2 x3 x4 x5 x6 l
  refine (aVv (D:=D) hr ho ((hl _ _ aA aA).keep (k1.mono (fun _ _ e=>e.elim))) aE aA).mono ?_
  rintro en w' ⟨rfl,h1⟩
  have h2:=h1.cod
  rw [aDe] at h2
  exact ⟨rfl,h2,kW.trans h1.keep (fun k hk e=>by omega)⟩
 have hz':¬ (60000:Int)<(bR (lA e x1 x2 x3 x4 x5 x6 l)).size:=aA
 obtain ⟨s,hS⟩:∃ s,s=bR (lA e x1 x2 x3 x4 x5 x6 l):=⟨_,rfl⟩
 rw [← hS] at HC hz' ⊢
 clear ho hl hz hst h0 hS
 unfold bY at HC ⊢
 go_enter Tryz.func178,Tryz.ntmps178
 go_wp2_with (go_at_call 58;refine HC.out.mono ?_;rintro en w2 ⟨rfl,c,k⟩;obtain ⟨c0,c1,c2,c3,_⟩:=c.all;have HK:=Lib.hid k;clear k)
 go_ret2
 exact ⟨rfl,HK.out⟩
theorem aU0 (ho:rW e x1 x2 x3 x4 x5 x6) (hl:∀ cb qb,w.heap.size≤cb→w.heap.size≤qb→tX D w cb qb bs l) (hz:(bR (lA e x1 x2 x3 x4 x5 x6 l)).size≤60000) (hst:bF w) (h0:0<w.heap.size) :
  Calls Tryz.prog 118 #[.agg (bY e x1 x2 x3 x4 x5 x6 bs)] w fun en w'=>en=.returned (.tuple #[.string (bR (lA e x1 x2 x3 x4 x5 x6 l)),.int .i64 0])∧K0 w w':=by
 have k1:K0 w (w.alloc (.cells (bY e x1 x2 x3 x4 x5 x6 bs) 33)):=(aD.refl _ _).alloc _
 have hs:(w.alloc (.cells (bY e x1 x2 x3 x4 x5 x6 bs) 33)).heap.size=w.heap.size+1:=aK
 have HC:=Lib.hid (aU5 (w:=w.alloc (.cells (bY e x1 x2 x3 x4 x5 x6 bs) 33)) (D:=D) (bs:=bs) ho (fun cb qb h1 h2=>(hl cb qb aA aA).keep (k1.mono (fun _ _ e=>e.elim))) hz (hst.keep0 k1) aA)
 obtain ⟨cs,hcs⟩:∃ cs:List Value,cs=(bY e x1 x2 x3 x4 x5 x6 bs).toList:=⟨_,rfl⟩
 have hca:bY e x1 x2 x3 x4 x5 x6 bs=cs.toArray:=by rw [hcs]
 have hl':cs.length=10:=by rw [hcs];rfl
 have HR:=Lib.hid (nV w cs 33 _ rfl)
 have HS:Hid ((Tryz.prog.info? 33).map (·.size)=some cs.length):=by show _=_;rw [hl'];exact fF
 rw [hca] at HC ⊢
 obtain ⟨s,hS⟩:∃ s,s=bR (lA e x1 x2 x3 x4 x5 x6 l):=⟨_,rfl⟩
 rw [← hS] at HC ⊢
 clear hl hl' hca hcs ho hz hst h0 k1 hs hS
 go_enter Tryz.func118,Tryz.ntmps118
 go_wp2_with (first
  | (refine wpList_load_mid rfl 33 (.tmp 1) rfl w.heap.size 0 rfl cs _ HR.out Tryz.underlying33 rfl HS.out ?_)
  | (go_at_call 178;refine HC.out.mono ?_;rintro en w2 ⟨rfl,k⟩;have HK:=Lib.hid k;clear k))
 go_ret2
 exact ⟨rfl,K0.tr ((aD.refl (fun _=>False) w).alloc _) HK.out⟩
end
theorem aWn {e x1 x2 x3 x4 x5 x6:Int} {l:List aR} (h:rW e x1 x2 x3 x4 x5 x6) (hl:l=[]∨∃ b,l=[b]∧dH b∧(aZ b).size≤60008∧∀ k (h:k<b.recs.length),bT b.recs[k]):aLb (bR (lA e x1 x2 x3 x4 x5 x6 l)) e x1 x2 x3 x4 x5 x6 l (qR (lA e x1 x2 x3 x4 x5 x6 l)) where
 g0:=eD (i:=0) _ rfl ⟨by have:=h.e;omega,by have:=h.e;omega⟩
 g1:=eD (i:=1) _ rfl ⟨by have:=h.n1;omega,by have:=h.n1;omega⟩
 g2:=eD (i:=2) _ rfl ⟨by have:=h.n2;omega,by have:=h.n2;omega⟩
 g3:=eD (i:=3) _ rfl ⟨by have:=h.n3;omega,by have:=h.n3;omega⟩
 g4:=eD (i:=4) _ rfl ⟨by have:=h.n4;omega,by have:=h.n4;omega⟩
 g5:=eD (i:=5) _ rfl ⟨by have:=h.n5;omega,by have:=h.n5;omega⟩
 g6:=eD (i:=6) _ rfl ⟨by have:=h.n6;omega,by have:=h.n6;omega⟩
 g7:=eD (i:=7) _ rfl (by rcases hl with rfl | ⟨b,rfl,_⟩ <;> simp)
 g8:=by
  rcases hl with rfl | ⟨b,rfl,ho,hs,hp⟩
  ·refine .inl ⟨rfl,?_⟩
   have h2:=(aAu (lA e x1 x2 x3 x4 x5 x6 []) (i:=8) (x:=⟨#[]⟩) rfl).2
   rw [h2]
   rfl
  ·refine .inr ⟨b,rfl,?_,ho,hp⟩
   refine qS (i:=8) (m:=60008) _ ?_ hs aE
   show some (cJ (aZ b)++⟨#[]⟩)=_
   rw [nL]
 g9:=eD (i:=9) _ rfl ⟨by decide,by decide⟩
 g10:=eD (i:=10) _ rfl ⟨by decide,by decide⟩
 le:=fun k _=>aL0 _ k
def rpZ:Array Value:=bY 0 0 0 0 0 0 0 (.slice none 0 0)
def RdA (w:World) (s:ByteArray) (X:List Value→Prop) (e:Ending) (w':World):Prop:=
 ∃ cs:List Value,e=.returned (.tuple #[])∧eW w' (w.heap.size+1) s s.size true false∧w'.heap[w.heap.size]?=some (.cells cs.toArray 33 (0,0))∧cs.length=10∧cs.toArray.all (·.oneCell')=true∧K0 w w'∧X cs
theorem aWz {w:World} {s:ByteArray} {X:List Value→Prop} (hs:s.size≤60000)
  (HC:Hid (Calls Tryz.prog 58 #[.pointer (some ⟨w.heap.size+1,0,none⟩),.pointer (some ⟨w.heap.size,0,none⟩)] (((w.alloc (.cells rpZ 33)).alloc (.cells #[.string s,.int .i64 0,.bool true,.bool false] 212)).alloc (.cells rpZ 33)) (RdA w s X))) :
  Calls Tryz.prog 57 #[.string s,.func (Fn.func 58) #[] #[]] w fun e w'=>∃ cs:List Value,e=.returned (.tuple #[.agg cs.toArray,.int .i64 0])∧cs.length=10∧cs.toArray.all (·.oneCell')=true∧K0 w w'∧X cs:=by
 have hz:¬ (60000:Int)<s.size:=aA
 unfold rpZ bY at HC
 go_enter Tryz.func57,Tryz.ntmps57
 go_wp2_with fail
 refine HC.out.mono ?_
 rintro e w2 ⟨cs,rfl,hc,hb,hl,ho,hk,hx⟩
 obtain ⟨c0,c1,c2,c3,_,_,_,lt⟩:=hc.all
 have HB:=Lib.hid hb
 have HT:Hid (w2.there w.heap.size 0 cs.toArray.size):=fD hb (Nat.le_refl _)
 have HR:Hid (w2.rangeAt w.heap.size 0 cs):=jD hb
 have HS0:Hid ((Tryz.prog.info? 33).map (·.size)=some cs.length):=by show _=_;rw [hl];exact fF
 have HS1:Hid ((Tryz.prog.info? 33).map (·.size)=some cs.toArray.size):=by show _=_;rw [List.size_toArray,hl];exact fF
 have HO:=Lib.hid ho
 have HL:=Lib.hid hl
 have HK:=Lib.hid hk
 have HXX:=Lib.hid hx
 have rl:=aC hb
 clear hb hl ho hk hx HC hc
 go_wp2_with (first
  | (refine wpList_load_mid rfl 33 (.tmp 4) rfl w.heap.size 0 rfl cs _ HR.out Tryz.underlying33 rfl HS0.out ?_)
  | (refine wpList_store_mid rfl 33 (.tmp 4) (.tmp 33) rfl w.heap.size 0 cs.toArray rfl rfl HT.out HS1.out HO.out ?_)
  | fail)
 have HK3:Hid (aD (fun k=>k=w.heap.size) w2 (w2.setCells w.heap.size 0 cs.toArray.toList)):=show aD _ _ _ from dO (S:=fun k=>k=w.heap.size) rfl _ _ (aD.refl _ _)
 have HR3:Hid ((w2.setCells w.heap.size 0 cs).rangeAt w.heap.size 0 cs):=World.rangeAt_setCells_same _ _ _ _ HT.out
 refine bodyPost_ret (v:=.tuple #[.agg cs.toArray,.int .i64 0]) ?_ rfl ?_
 ·have h:=run_loadVar_mid (P:=Tryz.prog) (w2.setCells w.heap.size 0 cs) w.heap.size 0 33 cs _ HR3.out Tryz.underlying33 rfl HS0.out
  exact iL rfl rfl rfl h
 ·exact ⟨cs,rfl,HL.out,HO.out,HK.out.trans HK3.out (fun k hk e=>by omega),HXX.out⟩
theorem aWx {w:World} {s:ByteArray} {X:List Value→Prop}
  (HC:Hid (Calls Tryz.prog 57 #[.string s,.func (Fn.func 58) #[] #[]] (w.alloc (.cells rpZ 33)) fun e w'=>∃ cs:List Value,e=.returned (.tuple #[.agg cs.toArray,.int .i64 0])∧cs.length=10∧cs.toArray.all (·.oneCell')=true∧K0 (w.alloc (.cells rpZ 33)) w'∧X cs)) :
  Calls Tryz.prog 20 #[.string s] w fun e w'=>∃ cs:List Value,e=.returned (.tuple #[.agg cs.toArray,.int .i64 0])∧cs.length=10∧cs.toArray.all (·.oneCell')=true∧K0 w w'∧X cs:=by
 unfold rpZ bY at HC
 go_enter Tryz.func20,Tryz.ntmps20
 go_wp2_with fail
 refine HC.out.mono ?_
 rintro e w2 ⟨cs,rfl,hl,ho,hk,hx⟩
 have hb:w2.heap[w.heap.size]?=some (.cells rpZ 33 (0,0)):=(hk.block _ aK (fun e=>e)).trans (aI w _ _ rfl)
 have HT:Hid (w2.there w.heap.size 0 cs.toArray.size):=fD hb (by rw [List.size_toArray,hl];exact Nat.le_refl 10)
 have HS1:Hid ((Tryz.prog.info? 33).map (·.size)=some cs.toArray.size):=by show _=_;rw [List.size_toArray,hl];exact fF
 have HS0:Hid ((Tryz.prog.info? 33).map (·.size)=some cs.length):=by show _=_;rw [hl];exact fF
 have HO:=Lib.hid ho
 have HL:=Lib.hid hl
 have HK:=Lib.hid hk
 have HXX:=Lib.hid hx
 have rl:=aC hb
 clear hb hl ho hk hx HC
 go_wp2_with (first
  | (refine wpList_store_mid rfl 33 (.tmp 2) (.tmp 6) rfl w.heap.size 0 cs.toArray rfl rfl HT.out HS1.out HO.out ?_)
  | fail)
 have HK3:Hid (aD (fun k=>k=w.heap.size) w2 (w2.setCells w.heap.size 0 cs.toArray.toList)):=show aD _ _ _ from dO (S:=fun k=>k=w.heap.size) rfl _ _ (aD.refl _ _)
 have HR3:Hid ((w2.setCells w.heap.size 0 cs).rangeAt w.heap.size 0 cs):=World.rangeAt_setCells_same _ _ _ _ HT.out
 refine bodyPost_ret (v:=.tuple #[.agg cs.toArray,.int .i64 0]) ?_ rfl ?_
 ·have h:=run_loadVar_mid (P:=Tryz.prog) (w2.setCells w.heap.size 0 cs) w.heap.size 0 33 cs _ HR3.out Tryz.underlying33 rfl HS0.out
  exact iL rfl rfl rfl h
 ·exact ⟨cs,rfl,HL.out,HO.out,(((aD.refl (fun _=>False) w).alloc _).trans HK.out (fun _ _ e=>e)).trans HK3.out (fun k hk e=>by omega),HXX.out⟩
theorem aOz {w:World} {e x1 x2 x3 x4 x5 x6:Int} {l:List aR} (h:rW e x1 x2 x3 x4 x5 x6) (hl:l=[]∨∃ b,l=[b]∧dH b∧(aZ b).size≤60008∧∀ k (h:k<b.recs.length),bT b.recs[k]) (hz:(bR (lA e x1 x2 x3 x4 x5 x6 l)).size≤60000) (hst:bF w) (h0:0<w.heap.size) :
  Calls Tryz.prog 20 #[.string (bR (lA e x1 x2 x3 x4 x5 x6 l))] w fun en w'=>∃ a cp,en=.returned (.tuple #[.agg (bY e x1 x2 x3 x4 x5 x6 (.slice a l.length cp)),.int .i64 0])∧K0 w w':=by
 have k1:K0 w (w.alloc (.cells rpZ 33)):=(aD.refl _ _).alloc _
 obtain ⟨w1,hw1⟩:∃ w1,w1=w.alloc (.cells rpZ 33):=⟨_,rfl⟩
 rw [← hw1] at k1
 have hst1:=hst.keep0 k1
 have h01:0<w1.heap.size:=Nat.lt_of_lt_of_le h0 k1.size
 obtain ⟨W,hW⟩:∃ W,W=(((w1.alloc (.cells rpZ 33)).alloc (.cells #[.string (bR (lA e x1 x2 x3 x4 x5 x6 l)),.int .i64 0,.bool true,.bool false] 212)).alloc (.cells rpZ 33)):=⟨_,rfl⟩
 have hs:W.heap.size=w1.heap.size+3:=by rw [hW];simp
 have kW:K0 w1 W:=(by rw [hW];exact (((aD.refl _ _).alloc _).alloc _).alloc _)
 have kX:K0 w1 (W.alloc (.cells #[.pointer (some ⟨w1.heap.size+1,0,none⟩)] 118)):=kW.tr ((aD.refl _ _).alloc _)
 have hr:nC W (w1.heap.size+1) W.heap.size w1.heap.size (bR (lA e x1 x2 x3 x4 x5 x6 l)) (qR (lA e x1 x2 x3 x4 x5 x6 l) 0) true (bY 0 0 0 0 0 0 0 (.slice none 0 0)) (W.alloc (.cells #[.pointer (some ⟨w1.heap.size+1,0,none⟩)] 118)):=by
  refine ⟨aL ?_ _,aL ?_ _,aB (aI _ _ _ rfl) 0,⟨by omega,by omega⟩,by omega,hst1.keep0 kX,⟨by omega,by omega⟩,(aD.refl _ _).alloc _⟩
  ·exact (by rw [hW];exact aL (aI _ _ _ (by simp)) _)
  ·exact (by rw [hW];exact aL (aL (aI _ _ _ rfl) _) _)
 have HC:Hid (Calls Tryz.prog 58 #[.pointer (some ⟨w1.heap.size+1,0,none⟩),.pointer (some ⟨w1.heap.size,0,none⟩)] W (RdA w1 (bR (lA e x1 x2 x3 x4 x5 x6 l)) (fun cs=>∃ a cp,cs.toArray=bY e x1 x2 x3 x4 x5 x6 (.slice a l.length cp)))):=by
  refine (aVu hr h (aWn h hl) aA).mono ?_
  rintro en w' ⟨a,cp,rfl,h1⟩
  have hp:qR (lA e x1 x2 x3 x4 x5 x6 l) 11=(bR (lA e x1 x2 x3 x4 x5 x6 l)).size:=aHw _ (Nat.le_refl 11)
  have hc:=h1.cod
  rw [hp] at hc
  exact ⟨(bY e x1 x2 x3 x4 x5 x6 (.slice a l.length cp)).toList,rfl,hc,h1.blk,rfl,rR _ _ _ _ _ _ _ _ _ _,kW.trans h1.keep (fun k hk e=>by omega),a,cp,rfl⟩
 rw [hW] at HC
 have r:=aWz hz HC
 rw [hw1] at r
 refine (aWx (w:=w) r).mono ?_
 rintro en w' ⟨cs,rfl,_,_,hk,a,cp,hcs⟩
 exact ⟨a,cp,by rw [hcs],hk⟩
theorem aE4 {r:dY} (hr:bT r) (w:World):Calls Tryz.prog 234 #[.agg (bA r).toArray] w fun e w'=>e=.returned (.int .i64 0)∧K0 w w':=by
 obtain ⟨q1,q2,q3,_⟩:=fB hr.ok
 have:=nO (fun _=>True) r none 0 w (by rw [hr.headers];exact ⟨⟨Nat.le_refl _,by unfold maxLen;omega,fun e=>absurd rfl e⟩,fun e=>absurd rfl e⟩) (by unfold maxLen;omega) (by unfold maxLen;omega)
 rw [hr.ok,hr.bare,hr.gone,hr.headers] at this
 exact this
theorem aNm (r:dY) (w:World):Calls Tryz.prog 235 #[noF,.agg (bA r).toArray] w fun e w'=>e=.returned (.bool true)∧K0 w w':=by
 unfold bA
 go_enter Tryz.func235,Tryz.ntmps235
 go_wp2_with fail
 go_ret
 refine ⟨rfl,?_⟩
 first | exact ((aD.refl _ _).alloc _).alloc _ | exact (((aD.refl _ _).alloc _).alloc _).alloc _ | exact ((((aD.refl _ _).alloc _).alloc _).alloc _).alloc _
theorem aVd {w:World} {xb:Nat} (h:w.heap[xb]?=some (.cells #[.int .i64 0,.string ⟨#[]⟩,.string ⟨#[]⟩,.slice none 0 0] 42 (0,0))):w.cell? ⟨xb,0,none⟩=some (.int .i64 0)∧w.cell? ⟨xb,1,none⟩=some (.string ⟨#[]⟩)∧w.cell? ⟨xb,2,none⟩=some (.string ⟨#[]⟩)∧w.cell? ⟨xb,3,none⟩=some (.slice none 0 0)∧xb<w.heap.size:=
 ⟨aB h 0,aB h 1,aB h 2,aB h 3,aC h⟩
theorem aUh {w:World} {yb:Nat} {r:dY} (h:w.heap[yb]?=some (.cells #[.int .i64 r.at_,.int .i64 r.time,.bool false,.string r.key,.bool false,.string r.value,.slice none 0 0] 98 (0,0))):w.cell? ⟨yb,0,none⟩=some (.int .i64 r.at_)∧w.cell? ⟨yb,1,none⟩=some (.int .i64 r.time)∧w.cell? ⟨yb,2,none⟩=some (.bool false)∧w.cell? ⟨yb,3,none⟩=some (.string r.key)∧w.cell? ⟨yb,4,none⟩=some (.bool false)∧w.cell? ⟨yb,5,none⟩=some (.string r.value)∧w.cell? ⟨yb,6,none⟩=some (.slice none 0 0)∧w.frozen? ⟨yb,6,none⟩=false∧yb<w.heap.size:=
 ⟨aB h 0,aB h 1,aB h 2,aB h 3,aB h 4,aB h 5,aB h 6,aH h 6,aC h⟩
theorem aJv {r:dY} (hr:bT r) (w:World):Calls Tryz.prog 161 #[noF,.agg (bA r).toArray] w fun e w'=>e=.returned (.tuple #[.bool true,.int .i64 0])∧K0 w w':=by
 have HC:=Lib.hid (fun w=>aE4 hr w)
 have HL:=Lib.hid (fun w=>aNm r w)
 obtain ⟨W,hW⟩:∃ W,W=(w.alloc (.cells #[.int .i64 0,.string ⟨#[]⟩,.string ⟨#[]⟩,.slice none 0 0] 42)).alloc (.cells #[.int .i64 r.at_,.int .i64 r.time,.bool false,.string r.key,.bool false,.string r.value,.slice none 0 0] 98):=⟨_,rfl⟩
 have HK:Hid (K0 w W):=(by rw [hW];exact ((aD.refl _ _).alloc _).alloc _)
 have HX:Hid (W.heap[w.heap.size]?=some (.cells #[.int .i64 0,.string ⟨#[]⟩,.string ⟨#[]⟩,.slice none 0 0] 42 (0,0))):=(by rw [hW];exact aL (aI w _ _ rfl) _)
 have HY:Hid (W.heap[w.heap.size+1]?=some (.cells #[.int .i64 r.at_,.int .i64 r.time,.bool false,.string r.key,.bool false,.string r.value,.slice none 0 0] 98 (0,0))):=(by rw [hW];exact aI _ _ _ (by simp))
 clear hr
 unfold bA at HC HL ⊢
 go_enter Tryz.func161,Tryz.ntmps161
 go_wp2_with fail
 try rw [← hW]
 refine (kD _).mono ?_
 rintro e w2 ⟨rfl,k2⟩
 have K2:=Lib.hid k2
 obtain ⟨y0,y1,y2,y3,y4,y5,y6,_,yl⟩:=aUh ((k2.block _ (aC HY.out) (fun e=>e)).trans HY.out)
 clear k2
 go_wp2_with fail
 refine (HC.out _).mono ?_
 rintro e w3 ⟨rfl,k3⟩
 have K3:Hid (K0 W w3):=K0.tr K2.out k3
 clear k3 y0 y1 y2 y3 y4 y5 y6 yl
 obtain ⟨y0,y1,y2,y3,y4,y5,y6,_,yl⟩:=aUh ((K3.out.block _ (aC HY.out) (fun e=>e)).trans HY.out)
 obtain ⟨x0,x1,x2,x3,xl⟩:=aVd ((K3.out.block _ (aC HX.out) (fun e=>e)).trans HX.out)
 go_wp2_with fail
 refine (HL.out _).mono ?_
 rintro e w4 ⟨rfl,k4⟩
 have K4:Hid (K0 W w4):=K0.tr K3.out k4
 clear k4 y0 y1 y2 y3 y4 y5 y6 yl x0 x1 x2 x3 xl
 go_wp2_with fail
 go_ret2
 exact ⟨rfl,K0.tr HK.out K4.out⟩
theorem aRe {w:World} {g off cap:Nat} {r:dY} (hr:bT r) (hc:∀ j,j<7→w.cell? ⟨g,off+j,none⟩=(bA r)[j]?) :
  Calls Tryz.prog 97 #[noF,.slice (some ⟨g,off,none⟩) 1 cap] w fun e w'=>∃ g' cap',e=.returned (.tuple #[.slice (some ⟨g',0,none⟩) 1 cap',.int .i64 0])∧w'.ownsRow w.heap.size 98 7 (.slice (some ⟨g',0,none⟩) 1 cap') 1 (bA r)∧K0 w w':=by
 have HM:=Lib.hid (fun w=>aJv hr w)
 have HCC:=Lib.hid hc
 clear hr hc
 unfold bA at HM
 obtain ⟨W,hW⟩:∃ W,W=w.alloc (.cells #[.int .i64 0,.string ⟨#[]⟩,.string ⟨#[]⟩,.slice none 0 0] 42):=⟨_,rfl⟩
 have HK:Hid (K0 w W):=(by rw [hW];exact (aD.refl _ _).alloc _)
 have HX:Hid (W.heap[w.heap.size]?=some (.cells #[.int .i64 0,.string ⟨#[]⟩,.string ⟨#[]⟩,.slice none 0 0] 42 (0,0))):=by rw [hW];exact aI w _ _ rfl
 go_enter Tryz.func97,Tryz.ntmps97
 go_wp2_with fail
 try rw [← hW]
 refine (kD _).mono ?_
 rintro e w2 ⟨rfl,k2⟩
 have K2:=Lib.hid (K0.tr HK.out k2)
 have X2:Hid (w2.heap[w.heap.size]?=some (.cells #[.int .i64 0,.string ⟨#[]⟩,.string ⟨#[]⟩,.slice none 0 0] 42 (0,0))):=(k2.block _ (aC HX.out) (fun e=>e)).trans HX.out
 have r0:w2.cell? ⟨g,off,none⟩=some (.int .i64 r.at_):=K2.out.cell' (HCC.out 0 aE) (fun e=>e)
 have r1:w2.cell? ⟨g,off+1,none⟩=some (.int .i64 r.time):=K2.out.cell' (HCC.out 1 aE) (fun e=>e)
 have r2:w2.cell? ⟨g,off+2,none⟩=some (.bool false):=K2.out.cell' (HCC.out 2 aE) (fun e=>e)
 have r3:w2.cell? ⟨g,off+3,none⟩=some (.string r.key):=K2.out.cell' (HCC.out 3 aE) (fun e=>e)
 have r4:w2.cell? ⟨g,off+4,none⟩=some (.bool false):=K2.out.cell' (HCC.out 4 aE) (fun e=>e)
 have r5:w2.cell? ⟨g,off+5,none⟩=some (.string r.value):=K2.out.cell' (HCC.out 5 aE) (fun e=>e)
 have r6:w2.cell? ⟨g,off+6,none⟩=some (.slice none 0 0):=K2.out.cell' (HCC.out 6 aE) (fun e=>e)
 clear k2
 obtain ⟨W2,hW2⟩:∃ W,W=w2.alloc (.cells #[.int .i64 r.at_,.int .i64 r.time,.bool false,.string r.key,.bool false,.string r.value,.slice none 0 0] 98):=⟨_,rfl⟩
 have K2':Hid (K0 w W2):=by rw [hW2];exact K0.tr K2.out ((aD.refl _ _).alloc _)
 have HX':W2.heap[w.heap.size]?=some (.cells #[.int .i64 0,.string ⟨#[]⟩,.string ⟨#[]⟩,.slice none 0 0] 42 (0,0)):=by rw [hW2];exact aL X2.out _
 have HX2:=Lib.hid HX'
 have HY2:Hid (W2.heap[w2.heap.size]?=some (.cells #[.int .i64 r.at_,.int .i64 r.time,.bool false,.string r.key,.bool false,.string r.value,.slice none 0 0] 98 (0,0))):=by rw [hW2];exact aI w2 _ _ rfl
 obtain ⟨x0,x1,x2,x3,xl⟩:=aVd X2.out
 clear HX'
 go_wp2_with fail
 refine wp_loop_rounds 2 ?_
 rw [rounds_succ]
 go_wp2_with fail
 try rw [← hW2]
 refine (HM.out _).mono ?_
 rintro e w3 ⟨rfl,k3⟩
 have K3:Hid (K0 w w3):=K0.tr K2'.out k3
 have hy3:w3.heap[w2.heap.size]?=some (.cells #[.int .i64 r.at_,.int .i64 r.time,.bool false,.string r.key,.bool false,.string r.value,.slice none 0 0] 98 (0,0)):=(k3.block _ (aC HY2.out) (fun e=>e)).trans HY2.out
 have HY3:=Lib.hid hy3
 obtain ⟨y0,y1,y2,y3,y4,y5,y6,yf,yl⟩:=aUh hy3
 have HZ:Hid (w.heap.size≤w3.heap.size):=K3.out.size
 clear k3 hy3 r0 r1 r2 r3 r4 r5 r6 x0 x1 x2 x3 xl hW hW2
 go_wp2_with fail
 refine (aAe _).mono ?_
 rintro e w4 ⟨rfl,k4⟩
 have K4:Hid (K0 w w4):=K0.tr K3.out k4
 have hy4:w4.heap[w2.heap.size]?=some (.cells #[.int .i64 r.at_,.int .i64 r.time,.bool false,.string r.key,.bool false,.string r.value,.slice none 0 0] 98 (0,0)):=(k4.block _ (aC HY3.out) (fun e=>e)).trans HY3.out
 have HY4:=Lib.hid hy4
 clear y0 y1 y2 y3 y4 y5 y6 yf yl
 obtain ⟨y0,y1,y2,y3,y4,y5,y6,yf,yl⟩:=aUh hy4
 have k5:K0 w4 (w4.setCell ⟨w2.heap.size,6,none⟩ (.slice none 0 0)):=dU (aD.refl (fun _=>False) w4) HY4.out rfl
 have K5:=Lib.hid (K0.tr K4.out k5)
 have HZ5:Hid (w.heap.size≤(w4.setCell ⟨w2.heap.size,6,none⟩ (.slice none 0 0)).heap.size):=K5.out.size
 clear k4 hy4 k5
 go_wp2_with (at_builtin;go_loud (refine bW (v:=.slice none 0 0) rfl rfl Tryz.underlying37 aEh rfl aE rfl (World.ownsRow_nil _ w.heap.size _ _) rfl (aI _ _ _ aK) rfl rfl ⟨Nat.zero_le _,by decide⟩ (Nat.le_trans HZ5.out aK) ?_;intro g5 cp5 w5 hA;have HA:=Lib.hid hA;clear hA y0 y1 y2 y3 y4 y5 y6 yf yl))
 rw [rounds_succ]
 go_wp2_with fail
 go_ret2
 refine ⟨g5,cp5,rfl,?_,?_⟩
 ·have h1:=HA.out.own
  simp only [List.nil_append,Nat.zero_add] at h1
  exact h1
 ·exact K0.tr K5.out (((aD.refl (fun _=>False) _).alloc _).grown HA.out.grown (fun j e _=>by cases e))
def aPd (w:World) (P:World→World→Prop) (w':World):Prop:=∃ wx wy x6,K0 w wx∧P wx wy∧aD (fun j=>j=x6) wy w'∧w.heap.size≤x6∧x6<wx.heap.size
theorem aF7 {w:World} {bb cb stb:Nat} {cs:List Value} {nm s:ByteArray} {n:Int} {r er now e1 a1:Int} (hte:vH r er=bY e1 a1 0 0 0 0 0 (.slice none 0 0)) (hb:w.heap[bb]?=some (.cells #[.pointer (some ⟨cb,0,none⟩),.pointer (some ⟨stb,0,none⟩)] 152 (0,0)))
  (hl:cs.length=20) (h0:cs[0]?=some (.int .i64 1)) (h1:cs[1]?=some (.string nm)) (h3:cs[3]?=some (.int .i64 n))
  (henc:∀ wx,K0 w wx→Calls Tryz.prog 34 #[.agg cs.toArray] wx fun e w'=>e=.returned (.tuple #[.string s,.int .i64 0])∧K0 wx w') (P:World→World→Prop) (S:Nat→Prop) (hP:∀ wx wy,K0 w wx→P wx wy→aD S wx wy) (hS:∀ j,S j→j<w.heap.size∧j≠bb)
  (hcr:∀ wx,K0 w wx→Calls Tryz.prog 68 #[.pointer (some ⟨stb,0,none⟩),.string nm,.int .i64 n] wx fun e w'=>e=.returned (.tuple #[.int .i64 r,.int .i64 er])∧P wx w') :
  Calls Tryz.prog 28 #[.pointer (some ⟨bb,0,none⟩),.agg cs.toArray,.int .i64 now] w fun e w'=>e=.returned (.agg #[.int .i64 e1,.int .i64 a1,.int .i64 0,.int .i64 0,.int .i64 0,.int .i64 0,.int .i64 0,.slice none 0 0,.slice none 0 0,.slice none 0 0])∧aPd w P w':=by
 have HTE:Hid (∀ wx,Calls Tryz.prog 67 #[.int .i64 r,.int .i64 er] wx fun en w'=>en=.returned (.agg #[.int .i64 e1,.int .i64 a1,.int .i64 0,.int .i64 0,.int .i64 0,.int .i64 0,.int .i64 0,.slice none 0 0,.slice none 0 0,.slice none 0 0])∧K0 wx w'):=fun wx=>by
  have h:=aDm r er wx
  rw [hte] at h
  exact h
 have hcell:∀ {i:Nat} {v:Value},cs[i]?=some v→∀ {wx:World},wx.heap[w.heap.size]?=some (.cells cs.toArray 45 (0,0))→wx.cell? ⟨w.heap.size,i,none⟩=some v:=fun {i v} h {wx} hb=>by rw [aB hb i];simpa using h
 have HS0:Hid ((Tryz.prog.info? 45).map (·.size)=some cs.length):=by show _=_;rw [hl];exact gQ
 have HENC:=Lib.hid henc
 have HCR:=Lib.hid hcr
 have HP:=Lib.hid hP
 have HSS:=Lib.hid hS
 have HBB:=Lib.hid hb
 have HC:=Lib.hid (fun (i:Nat) (v:Value) (h:cs[i]?=some v) (wx:World) (hb:wx.heap[w.heap.size]?=some (.cells cs.toArray 45 (0,0)))=>hcell h hb)
 have H0:=Lib.hid h0
 have H1:=Lib.hid h1
 have H3:=Lib.hid h3
 have hbl:bb<w.heap.size:=aC hb
 clear hl h0 h1 h3 henc hP hS hcr hb hcell hte
 go_enter Tryz.func28,Tryz.ntmps28
 have HR:Hid (((w.alloc (.cells cs.toArray 45)).alloc (.cells #[.int .i64 0,.int .i64 0,.int .i64 0,.int .i64 0,.int .i64 0,.int .i64 0,.int .i64 0,.slice none 0 0,.slice none 0 0,.slice none 0 0] 33)).rangeAt w.heap.size 0 cs):=fun j v hv=>by
  have h:=nV w cs 45 _ rfl j v hv
  exact ((aD.refl (fun _=>False) _).alloc _).cell' h (fun e=>e)
 go_wp2_with (first
  | (refine wpList_load_mid rfl 45 (.tmp 4) rfl w.heap.size 0 rfl cs _ HR.out Tryz.underlying45 rfl HS0.out ?_)
  | fail)
 refine (HENC.out _ (((aD.refl _ _).alloc _).alloc _)).mono ?_
 rintro e w2 ⟨rfl,k2⟩
 have HK2:Hid (K0 w w2):=K0.tr (((aD.refl (fun _=>False) w).alloc _).alloc _) k2
 have hq2:w2.heap[w.heap.size]?=some (.cells cs.toArray 45 (0,0)):=(k2.block _ cX (fun e=>e)).trans (aL (aI w _ _ rfl) _)
 have hx2:w2.heap[w.heap.size+1]?=some (.cells #[.int .i64 0,.int .i64 0,.int .i64 0,.int .i64 0,.int .i64 0,.int .i64 0,.int .i64 0,.slice none 0 0,.slice none 0 0,.slice none 0 0] 33 (0,0)):=(k2.block _ aK (fun e=>e)).trans (aI _ _ _ aK)
 have q0:=HC.out 0 _ H0.out w2 hq2
 have q1:=HC.out 1 _ H1.out w2 hq2
 have q3:=HC.out 3 _ H3.out w2 hq2
 have bc1:w2.cell? ⟨bb,1,none⟩=some (.pointer (some ⟨stb,0,none⟩)):=HK2.out.cell' (aB HBB.out 1) (fun e=>e)
 have bl2:bb<w2.heap.size:=Nat.lt_of_lt_of_le hbl HK2.out.size
 have ql2:w.heap.size<w2.heap.size:=aC hq2
 have xl2:w.heap.size+1<w2.heap.size:=aC hx2
 have HX2:=Lib.hid hx2
 have HNX:Hid (¬ S (w.heap.size+1)):=fun e=>by have:=(HSS.out _ e).1;omega
 clear k2 hq2 hx2 HR HBB HC
 go_upto_region 6 with fail
 refine aX 8 (fun w'=>w'.cell? ⟨bb,1,none⟩=some (.pointer (some ⟨stb,0,none⟩))∧w'.cell? ⟨w.heap.size,1,none⟩=some (.string nm)∧w'.cell? ⟨w.heap.size,3,none⟩=some (.int .i64 n)) (fun _=>True) aF ⟨by go_simp,by go_simp,by go_simp⟩ trivial (fun hS=>?_)
 refine tB 0 hS (fun hS=>?_)
 simp only [Act.put,Sw]
 refine tB 1 hS (fun hS=>?_)
 simp only [Act.put]
 refine tB 2 hS (fun hS=>?_)
 simp only [Act.put]
 refine tA 3 hS (fun hS=>?_)
 simp only [Act.put]
 refine tB 4 hS (fun hS=>?_)
 simp only [Act.put]
 refine tA 5 hS (fun hS=>?_)
 simp only [Act.put]
 refine tB 6 hS (fun hS=>?_)
 simp only [Act.put]
 refine tA 7 hS (fun hS=>?_)
 simp only [Act.put]
 refine tO 8 (fun K hK=>?_)
 go_simp
 refine (HCR.out _ HK2.out.drew).mono ?_
 rintro e w3 ⟨rfl,hp⟩
 have kS:=HP.out _ _ HK2.out.drew hp
 have HPP:=Lib.hid hp
 have HKS:=Lib.hid kS
 have HX3:Hid (w3.heap[w.heap.size+1]?=some (.cells #[.int .i64 0,.int .i64 0,.int .i64 0,.int .i64 0,.int .i64 0,.int .i64 0,.int .i64 0,.slice none 0 0,.slice none 0 0,.slice none 0 0] 33 (0,0))):=(kS.block _ xl2 HNX.out).trans HX2.out
 clear kS hp
 go_simp
 refine hK.out _ _ ⟨fun e=>absurd e aE,trivial⟩ (fun hS=>?_)
 clear hK K
 try simp only [Act.put,Sw]
 refine tB 9 hS (fun hS=>?_)
 simp only [Act.put,Sw]
 refine tB 10 hS (fun hS=>?_)
 simp only [Act.put]
 refine tO 11 (fun K hK=>?_)
 go_simp
 refine (HTE.out _).mono ?_
 rintro e w4 ⟨rfl,k4⟩
 have HK4:=Lib.hid k4
 have hx4:w4.heap[w.heap.size+1]?=some (.cells #[.int .i64 0,.int .i64 0,.int .i64 0,.int .i64 0,.int .i64 0,.int .i64 0,.int .i64 0,.slice none 0 0,.slice none 0 0,.slice none 0 0] 33 (0,0)):=(k4.block _ (aC HX3.out) (fun e=>e)).trans HX3.out
 have HX4:=Lib.hid hx4
 have x0:w4.cell? ⟨w.heap.size+1,0,none⟩=some (.int .i64 0):=aB hx4 0
 have y0:w4.frozen? ⟨w.heap.size+1,0,none⟩=false:=aH hx4 0
 have x1:w4.cell? ⟨w.heap.size+1,1,none⟩=some (.int .i64 0):=aB hx4 1
 have y1:w4.frozen? ⟨w.heap.size+1,1,none⟩=false:=aH hx4 1
 have x2:w4.cell? ⟨w.heap.size+1,2,none⟩=some (.int .i64 0):=aB hx4 2
 have y2:w4.frozen? ⟨w.heap.size+1,2,none⟩=false:=aH hx4 2
 have x3:w4.cell? ⟨w.heap.size+1,3,none⟩=some (.int .i64 0):=aB hx4 3
 have y3:w4.frozen? ⟨w.heap.size+1,3,none⟩=false:=aH hx4 3
 have x4:w4.cell? ⟨w.heap.size+1,4,none⟩=some (.int .i64 0):=aB hx4 4
 have y4:w4.frozen? ⟨w.heap.size+1,4,none⟩=false:=aH hx4 4
 have x5:w4.cell? ⟨w.heap.size+1,5,none⟩=some (.int .i64 0):=aB hx4 5
 have y5:w4.frozen? ⟨w.heap.size+1,5,none⟩=false:=aH hx4 5
 have x6:w4.cell? ⟨w.heap.size+1,6,none⟩=some (.int .i64 0):=aB hx4 6
 have y6:w4.frozen? ⟨w.heap.size+1,6,none⟩=false:=aH hx4 6
 have x7:w4.cell? ⟨w.heap.size+1,7,none⟩=some (.slice none 0 0):=aB hx4 7
 have y7:w4.frozen? ⟨w.heap.size+1,7,none⟩=false:=aH hx4 7
 have x8:w4.cell? ⟨w.heap.size+1,8,none⟩=some (.slice none 0 0):=aB hx4 8
 have y8:w4.frozen? ⟨w.heap.size+1,8,none⟩=false:=aH hx4 8
 have x9:w4.cell? ⟨w.heap.size+1,9,none⟩=some (.slice none 0 0):=aB hx4 9
 have y9:w4.frozen? ⟨w.heap.size+1,9,none⟩=false:=aH hx4 9
 have xl4:w.heap.size+1<w4.heap.size:=aC hx4
 clear hx4 k4
 go_simp
 refine hK.out _ _ ⟨fun e=>absurd e aE,trivial⟩ (fun hS=>?_)
 clear hK K
 try simp only [Act.put,Sw]
 refine tO 12 (fun K hK=>?_)
 go_simp
 refine hK.out _ _ ⟨fun e=>absurd e aE,trivial⟩ (fun hS=>?_)
 clear hK K
 try simp only [Act.put,Sw]
 refine bC aF ?_ _
 skip
 go_wp2_with fail
 refine bodyPost_ret (v:=.agg #[.int .i64 e1,.int .i64 a1,.int .i64 0,.int .i64 0,.int .i64 0,.int .i64 0,.int .i64 0,.slice none 0 0,.slice none 0 0,.slice none 0 0]) ?_ rfl ?_
 ·rw [eJ rfl]
  go_simp
 ·refine ⟨rfl,_,w3,w.heap.size+1,HK2.out.drew,HPP.out,?_,by omega,xl2⟩
  have k4':aD (fun j=>j=w.heap.size+1) w3 w4:=HK4.out.mono (fun _ _ e=>e.elim)
  (repeat (with_reducible refine aD.setC ?_ _ _ (fun _=>rfl)))
  exact k4'
theorem uF {w:World} {bb cb stb:Nat} {cs:List Value} {nm s:ByteArray} {ix b0 b1 b2 b3 b4:Int} {fl:Bool} {a:Option Addr} {nr cap:Nat} {r er now e1 a1:Int} (hte:vH r er=bY e1 a1 0 0 0 0 0 (.slice none 0 0)) (hb:w.heap[bb]?=some (.cells #[.pointer (some ⟨cb,0,none⟩),.pointer (some ⟨stb,0,none⟩)] 152 (0,0)))
  (hl:cs.length=20) (h0:cs[0]?=some (.int .i64 4)) (h1:cs[1]?=some (.string nm)) (h2:cs[2]?=some (.int .i64 ix)) (h5:cs[5]?=some (.bool fl)) (h6:cs[6]?=some (.int .i64 b0)) (h7:cs[7]?=some (.int .i64 b1)) (h8:cs[8]?=some (.int .i64 b2)) (h9:cs[9]?=some (.int .i64 b3)) (h10:cs[10]?=some (.int .i64 b4)) (h11:cs[11]?=some (.slice a nr cap))
  (henc:∀ wx,K0 w wx→Calls Tryz.prog 34 #[.agg cs.toArray] wx fun e w'=>e=.returned (.tuple #[.string s,.int .i64 0])∧K0 wx w') (P:World→World→Prop) (S:Nat→Prop) (hP:∀ wx wy,K0 w wx→P wx wy→aD S wx wy) (hS:∀ j,S j→j<w.heap.size∧j≠bb)
  (hcr:∀ wx,K0 w wx→Calls Tryz.prog 73 #[.pointer (some ⟨stb,0,none⟩),.string nm,.int .i64 ix,.agg #[.int .i64 b0,.int .i64 b1,.int .i64 b2,.int .i64 b3,.int .i64 b4,.slice a nr cap],.bool fl] wx fun e w'=>e=.returned (.tuple #[.int .i64 r,.int .i64 er])∧P wx w') :
  Calls Tryz.prog 28 #[.pointer (some ⟨bb,0,none⟩),.agg cs.toArray,.int .i64 now] w fun e w'=>e=.returned (.agg #[.int .i64 e1,.int .i64 a1,.int .i64 0,.int .i64 0,.int .i64 0,.int .i64 0,.int .i64 0,.slice none 0 0,.slice none 0 0,.slice none 0 0])∧aPd w P w':=by
 have HTE:Hid (∀ wx,Calls Tryz.prog 67 #[.int .i64 r,.int .i64 er] wx fun en w'=>en=.returned (.agg #[.int .i64 e1,.int .i64 a1,.int .i64 0,.int .i64 0,.int .i64 0,.int .i64 0,.int .i64 0,.slice none 0 0,.slice none 0 0,.slice none 0 0])∧K0 wx w'):=fun wx=>by
  have h:=aDm r er wx
  rw [hte] at h
  exact h
 have hcell:∀ {i:Nat} {v:Value},cs[i]?=some v→∀ {wx:World},wx.heap[w.heap.size]?=some (.cells cs.toArray 45 (0,0))→wx.cell? ⟨w.heap.size,i,none⟩=some v:=fun {i v} h {wx} hb=>by rw [aB hb i];simpa using h
 have HS0:Hid ((Tryz.prog.info? 45).map (·.size)=some cs.length):=by show _=_;rw [hl];exact gQ
 have HENC:=Lib.hid henc
 have HCR:=Lib.hid hcr
 have HP:=Lib.hid hP
 have HSS:=Lib.hid hS
 have HBB:=Lib.hid hb
 have HC:=Lib.hid (fun (i:Nat) (v:Value) (h:cs[i]?=some v) (wx:World) (hb:wx.heap[w.heap.size]?=some (.cells cs.toArray 45 (0,0)))=>hcell h hb)
 have H0:=Lib.hid h0
 have H1:=Lib.hid h1
 have H2:=Lib.hid h2
 have H5:=Lib.hid h5
 have H6:=Lib.hid h6
 have H7:=Lib.hid h7
 have H8:=Lib.hid h8
 have H9:=Lib.hid h9
 have H10:=Lib.hid h10
 have H11:=Lib.hid h11
 have hbl:bb<w.heap.size:=aC hb
 clear hl h0 h1 h2 h5 h6 h7 h8 h9 h10 h11 henc hP hS hcr hb hcell hte
 go_enter Tryz.func28,Tryz.ntmps28
 have HR:Hid (((w.alloc (.cells cs.toArray 45)).alloc (.cells #[.int .i64 0,.int .i64 0,.int .i64 0,.int .i64 0,.int .i64 0,.int .i64 0,.int .i64 0,.slice none 0 0,.slice none 0 0,.slice none 0 0] 33)).rangeAt w.heap.size 0 cs):=fun j v hv=>by
  have h:=nV w cs 45 _ rfl j v hv
  exact ((aD.refl (fun _=>False) _).alloc _).cell' h (fun e=>e)
 go_wp2_with (first
  | (refine wpList_load_mid rfl 45 (.tmp 4) rfl w.heap.size 0 rfl cs _ HR.out Tryz.underlying45 rfl HS0.out ?_)
  | fail)
 refine (HENC.out _ (((aD.refl _ _).alloc _).alloc _)).mono ?_
 rintro e w2 ⟨rfl,k2⟩
 have HK2:Hid (K0 w w2):=K0.tr (((aD.refl (fun _=>False) w).alloc _).alloc _) k2
 have hq2:w2.heap[w.heap.size]?=some (.cells cs.toArray 45 (0,0)):=(k2.block _ cX (fun e=>e)).trans (aL (aI w _ _ rfl) _)
 have hx2:w2.heap[w.heap.size+1]?=some (.cells #[.int .i64 0,.int .i64 0,.int .i64 0,.int .i64 0,.int .i64 0,.int .i64 0,.int .i64 0,.slice none 0 0,.slice none 0 0,.slice none 0 0] 33 (0,0)):=(k2.block _ aK (fun e=>e)).trans (aI _ _ _ aK)
 have q0:=HC.out 0 _ H0.out w2 hq2
 have q1:=HC.out 1 _ H1.out w2 hq2
 have q2:=HC.out 2 _ H2.out w2 hq2
 have q5:=HC.out 5 _ H5.out w2 hq2
 have q6:=HC.out 6 _ H6.out w2 hq2
 have q7:=HC.out 7 _ H7.out w2 hq2
 have q8:=HC.out 8 _ H8.out w2 hq2
 have q9:=HC.out 9 _ H9.out w2 hq2
 have q10:=HC.out 10 _ H10.out w2 hq2
 have q11:=HC.out 11 _ H11.out w2 hq2
 have bc1:w2.cell? ⟨bb,1,none⟩=some (.pointer (some ⟨stb,0,none⟩)):=HK2.out.cell' (aB HBB.out 1) (fun e=>e)
 have bl2:bb<w2.heap.size:=Nat.lt_of_lt_of_le hbl HK2.out.size
 have ql2:w.heap.size<w2.heap.size:=aC hq2
 have xl2:w.heap.size+1<w2.heap.size:=aC hx2
 have HX2:=Lib.hid hx2
 have HNX:Hid (¬ S (w.heap.size+1)):=fun e=>by have:=(HSS.out _ e).1;omega
 clear k2 hq2 hx2 HR HBB HC
 go_upto_region 17 with fail
 refine aX 12 (fun w'=>w'.cell? ⟨bb,1,none⟩=some (.pointer (some ⟨stb,0,none⟩))∧w'.cell? ⟨w.heap.size,1,none⟩=some (.string nm)∧w'.cell? ⟨w.heap.size,2,none⟩=some (.int .i64 ix)∧w'.cell? ⟨w.heap.size,5,none⟩=some (.bool fl)∧w'.cell? ⟨w.heap.size,6,none⟩=some (.int .i64 b0)∧w'.cell? ⟨w.heap.size,7,none⟩=some (.int .i64 b1)∧w'.cell? ⟨w.heap.size,8,none⟩=some (.int .i64 b2)∧w'.cell? ⟨w.heap.size,9,none⟩=some (.int .i64 b3)∧w'.cell? ⟨w.heap.size,10,none⟩=some (.int .i64 b4)∧w'.cell? ⟨w.heap.size,11,none⟩=some (.slice a nr cap)) (fun _=>True) aF ⟨by go_simp,by go_simp,by go_simp,by go_simp,by go_simp,by go_simp,by go_simp,by go_simp,by go_simp,by go_simp⟩ trivial (fun hS=>?_)
 refine tB 0 hS (fun hS=>?_)
 simp only [Act.put,Sw]
 refine tB 1 hS (fun hS=>?_)
 simp only [Act.put]
 refine tB 2 hS (fun hS=>?_)
 simp only [Act.put]
 refine tA 3 hS (fun hS=>?_)
 simp only [Act.put]
 refine tB 4 hS (fun hS=>?_)
 simp only [Act.put]
 refine tA 5 hS (fun hS=>?_)
 simp only [Act.put]
 refine tB 6 hS (fun hS=>?_)
 simp only [Act.put]
 refine tA 7 hS (fun hS=>?_)
 simp only [Act.put]
 refine tB 8 hS (fun hS=>?_)
 simp only [Act.put]
 refine tA 9 hS (fun hS=>?_)
 simp only [Act.put]
 refine tB 10 hS (fun hS=>?_)
 simp only [Act.put]
 refine tA 11 hS (fun hS=>?_)
 simp only [Act.put]
 refine tO 12 (fun K hK=>?_)
 go_simp
 refine (HCR.out _ HK2.out.drew).mono ?_
 rintro e w3 ⟨rfl,hp⟩
 have kS:=HP.out _ _ HK2.out.drew hp
 have HPP:=Lib.hid hp
 have HKS:=Lib.hid kS
 have HX3:Hid (w3.heap[w.heap.size+1]?=some (.cells #[.int .i64 0,.int .i64 0,.int .i64 0,.int .i64 0,.int .i64 0,.int .i64 0,.int .i64 0,.slice none 0 0,.slice none 0 0,.slice none 0 0] 33 (0,0))):=(kS.block _ xl2 HNX.out).trans HX2.out
 clear kS hp
 go_simp
 refine hK.out _ _ ⟨fun e=>absurd e aE,trivial⟩ (fun hS=>?_)
 clear hK K
 try simp only [Act.put,Sw]
 refine tB 13 hS (fun hS=>?_)
 simp only [Act.put,Sw]
 refine tB 14 hS (fun hS=>?_)
 simp only [Act.put]
 refine tO 15 (fun K hK=>?_)
 go_simp
 refine (HTE.out _).mono ?_
 rintro e w4 ⟨rfl,k4⟩
 have HK4:=Lib.hid k4
 have hx4:w4.heap[w.heap.size+1]?=some (.cells #[.int .i64 0,.int .i64 0,.int .i64 0,.int .i64 0,.int .i64 0,.int .i64 0,.int .i64 0,.slice none 0 0,.slice none 0 0,.slice none 0 0] 33 (0,0)):=(k4.block _ (aC HX3.out) (fun e=>e)).trans HX3.out
 have HX4:=Lib.hid hx4
 have x0:w4.cell? ⟨w.heap.size+1,0,none⟩=some (.int .i64 0):=aB hx4 0
 have y0:w4.frozen? ⟨w.heap.size+1,0,none⟩=false:=aH hx4 0
 have x1:w4.cell? ⟨w.heap.size+1,1,none⟩=some (.int .i64 0):=aB hx4 1
 have y1:w4.frozen? ⟨w.heap.size+1,1,none⟩=false:=aH hx4 1
 have x2:w4.cell? ⟨w.heap.size+1,2,none⟩=some (.int .i64 0):=aB hx4 2
 have y2:w4.frozen? ⟨w.heap.size+1,2,none⟩=false:=aH hx4 2
 have x3:w4.cell? ⟨w.heap.size+1,3,none⟩=some (.int .i64 0):=aB hx4 3
 have y3:w4.frozen? ⟨w.heap.size+1,3,none⟩=false:=aH hx4 3
 have x4:w4.cell? ⟨w.heap.size+1,4,none⟩=some (.int .i64 0):=aB hx4 4
 have y4:w4.frozen? ⟨w.heap.size+1,4,none⟩=false:=aH hx4 4
 have x5:w4.cell? ⟨w.heap.size+1,5,none⟩=some (.int .i64 0):=aB hx4 5
 have y5:w4.frozen? ⟨w.heap.size+1,5,none⟩=false:=aH hx4 5
 have x6:w4.cell? ⟨w.heap.size+1,6,none⟩=some (.int .i64 0):=aB hx4 6
 have y6:w4.frozen? ⟨w.heap.size+1,6,none⟩=false:=aH hx4 6
 have x7:w4.cell? ⟨w.heap.size+1,7,none⟩=some (.slice none 0 0):=aB hx4 7
 have y7:w4.frozen? ⟨w.heap.size+1,7,none⟩=false:=aH hx4 7
 have x8:w4.cell? ⟨w.heap.size+1,8,none⟩=some (.slice none 0 0):=aB hx4 8
 have y8:w4.frozen? ⟨w.heap.size+1,8,none⟩=false:=aH hx4 8
 have x9:w4.cell? ⟨w.heap.size+1,9,none⟩=some (.slice none 0 0):=aB hx4 9
 have y9:w4.frozen? ⟨w.heap.size+1,9,none⟩=false:=aH hx4 9
 have xl4:w.heap.size+1<w4.heap.size:=aC hx4
 clear hx4 k4
 go_simp
 refine hK.out _ _ ⟨fun e=>absurd e aE,trivial⟩ (fun hS=>?_)
 clear hK K
 try simp only [Act.put,Sw]
 refine tO 16 (fun K hK=>?_)
 go_simp
 refine hK.out _ _ ⟨fun e=>absurd e aE,trivial⟩ (fun hS=>?_)
 clear hK K
 try simp only [Act.put,Sw]
 refine bC aF ?_ _
 skip
 go_wp2_with fail
 refine bodyPost_ret (v:=.agg #[.int .i64 e1,.int .i64 a1,.int .i64 0,.int .i64 0,.int .i64 0,.int .i64 0,.int .i64 0,.slice none 0 0,.slice none 0 0,.slice none 0 0]) ?_ rfl ?_
 ·rw [eJ rfl]
  go_simp
 ·refine ⟨rfl,_,w3,w.heap.size+1,HK2.out.drew,HPP.out,?_,by omega,xl2⟩
  have k4':aD (fun j=>j=w.heap.size+1) w3 w4:=HK4.out.mono (fun _ _ e=>e.elim)
  (repeat (with_reducible refine aD.setC ?_ _ _ (fun _=>rfl)))
  exact k4'
end Go.Proofs.YteapahcklcldkaaGreatDoor
