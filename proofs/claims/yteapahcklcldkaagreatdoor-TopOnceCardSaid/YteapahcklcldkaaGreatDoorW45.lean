/-
  The statement is proved: all that it reaches, in parts.
-/
import Derived.Test.YteapahcklcldkaaGreatDoorW44
set_option maxRecDepth 100000
set_option maxHeartbeats 16000000
namespace Go.Proofs.YteapahcklcldkaaGreatDoor
open Go.RowKit Fx
theorem aLf (sb:Nat) (wx:World) (h:sb<wx.heap.size):Calls Tryz.prog 115 #[.pointer (some ⟨sb,0,none⟩),.int .i64 0] wx fun e w'=>e=.returned (.pointer (some ⟨sb,1,none⟩))∧K0 wx w':=aRv h
theorem aVo (sb:Nat) (wx:World) (h:sb<wx.heap.size):Calls Tryz.prog 115 #[.pointer (some ⟨sb,0,none⟩),.int .i64 1] wx fun e w'=>e=.returned (.pointer (some ⟨sb,35,none⟩))∧K0 wx w':=aUm h
theorem aDf {wb sb bb o p:Nat} {Q:World→(Nat→Prop)→Prop} {w:World} {F:Nat→Prop} (h:oG wb sb Q (yH bb o p) w F):oG wb sb Q (yH bb p o) w F:=by
 obtain ⟨FQ,FA,c,e,h⟩:=h
 exact ⟨FQ,FA,c,e,h.srvp,h.now,h.srv,⟨⟨h.a.1.size,h.a.1.does,h.a.2.1⟩,h.a.1.rest,h.a.2.2⟩,h.q,h.ne,h.nq,h.na,h.ap,h.st⟩
theorem aOh {w:World} {b:Nat} {e x1 x2 x3 x4 x5 x6:Int} {v:Value} (h:w.heap[b]?=some (.cells (bY e x1 x2 x3 x4 x5 x6 v) 33 (0,0))):w.cell? ⟨b,0,none⟩=some (.int .i64 e)∧w.cell? ⟨b,1,none⟩=some (.int .i64 x1)∧w.cell? ⟨b,3,none⟩=some (.int .i64 x3)∧w.cell? ⟨b,7,none⟩=some v∧b<w.heap.size:=
 ⟨aB h 0,aB h 1,aB h 3,aB h 7,aC h⟩
theorem aRl (c:Array Value) (vs:List Value) (h:vs.length=c.size):putL c 0 vs=vs.toArray:=by
 apply Array.ext_getElem?
 intro i
 rcases Nat.lt_or_ge i vs.length with hi | hi
 ·have:=zF vs 0 c i hi aA
  rw [Nat.zero_add] at this
  rw [this]
  simp
 ·rw [Array.getElem?_eq_none (by rw [kH];omega),Array.getElem?_eq_none (by simpa using hi)]
structure aSz (e x1 x2 x3 x4 x5 x6:Int) (n:Nat) (vs:List Value):Prop where
 len:vs.length=10
 one:vs.toArray.all (·.oneCell')=true
 is:∃ a m,vs.toArray=bY e x1 x2 x3 x4 x5 x6 (.slice a n m)
theorem iV (w:World) {vs:List Value} (hl:vs.length=10) :
  ((w.alloc (.cells #[.int .i64 0,.int .i64 0,.int .i64 0,.int .i64 0,.int .i64 0,.int .i64 0,.int .i64 0,.slice none 0 0,.slice none 0 0,.slice none 0 0] 33)).setCells w.heap.size 0 vs).heap[w.heap.size]?=some (.cells vs.toArray 33 (0,0))∧
  K0 w ((w.alloc (.cells #[.int .i64 0,.int .i64 0,.int .i64 0,.int .i64 0,.int .i64 0,.int .i64 0,.int .i64 0,.slice none 0 0,.slice none 0 0,.slice none 0 0] 33)).setCells w.heap.size 0 vs)∧(w.alloc (.cells #[.int .i64 0,.int .i64 0,.int .i64 0,.int .i64 0,.int .i64 0,.int .i64 0,.int .i64 0,.slice none 0 0,.slice none 0 0,.slice none 0 0] 33)).there w.heap.size 0 vs.toArray.size∧(Tryz.prog.info? 33).map (·.size)=some vs.toArray.size:=by
 have h:=aI w (.cells #[.int .i64 0,.int .i64 0,.int .i64 0,.int .i64 0,.int .i64 0,.int .i64 0,.int .i64 0,.slice none 0 0,.slice none 0 0,.slice none 0 0] 33) _ rfl
 have h2:=jP vs 0 _ _ h
 rw [aRl #[.int .i64 0,.int .i64 0,.int .i64 0,.int .i64 0,.int .i64 0,.int .i64 0,.int .i64 0,.slice none 0 0,.slice none 0 0,.slice none 0 0] vs (by rw [hl];rfl)] at h2
 refine ⟨h2,?_,fD h (by rw [List.size_toArray,hl];exact Nat.le_refl 10),by rw [List.size_toArray,hl];exact fF⟩
 exact ((aD.refl (fun _=>False) w).alloc _).trans (dO (S:=fun k=>k=w.heap.size) rfl _ 0 (aD.refl _ _)) (fun k hk e=>by have e':k=w.heap.size:=e;omega)
theorem aSz.block {w:World} {b:Nat} {e x1 x2 x3 x4 x5 x6:Int} {n:Nat} {vs:List Value} (h:aSz e x1 x2 x3 x4 x5 x6 n vs) (hb:w.heap[b]?=some (.cells vs.toArray 33 (0,0))) :
  ∃ a m,w.cell? ⟨b,0,none⟩=some (.int .i64 e)∧w.cell? ⟨b,1,none⟩=some (.int .i64 x1)∧w.cell? ⟨b,3,none⟩=some (.int .i64 x3)∧w.cell? ⟨b,7,none⟩=some (.slice a n m)∧b<w.heap.size:=by
 obtain ⟨a,m,e⟩:=h.is
 rw [e] at hb
 exact ⟨a,m,aOh hb⟩
theorem zY {w:World} {wb:Nat} {id:Int} {v:Value} {e x1 x2 x3 x4 x5 x6:Int} {n:Nat} {P:World→Prop}
  (h:Calls Tryz.prog 21 #[.pointer (some ⟨wb,0,none⟩),.int .i64 id,v] w fun en w'=>∃ a cp,en=.returned (.tuple #[.agg (bY e x1 x2 x3 x4 x5 x6 (.slice a n cp)),.bool true])∧P w') :
  Calls Tryz.prog 21 #[.pointer (some ⟨wb,0,none⟩),.int .i64 id,v] w fun en w'=>∃ vs:List Value,en=.returned (.tuple #[.agg vs.toArray,.bool true])∧aSz e x1 x2 x3 x4 x5 x6 n vs∧P w':=by
 refine h.mono ?_
 rintro en w' ⟨a,cp,rfl,hp⟩
 exact ⟨(bY e x1 x2 x3 x4 x5 x6 (.slice a n cp)).toList,rfl,⟨rfl,rR _ _ _ _ _ _ _ _ _ _,a,cp,rfl⟩,hp⟩
theorem aO1 (w:World) (hst:bF w) (h0:0<w.heap.size):Calls Tryz.prog 7 #[] w fun e w'=>e=.returned (.bool true)∧K0 w w':=by
 have HCF:=Lib.hid (aP5 10 10 100)
 have HNW:Hid (∀ wx,K0 w wx→Calls Tryz.prog 14 #[.int .i64 100000,.agg #[.int .i64 10,.int .i64 10,.int .i64 100]] wx fun e w'=>∃ wb sb bb stb db F,e=.returned (.tuple #[.pointer (some ⟨wb,0,none⟩),.int .i64 0])∧oG wb sb (xA bb stb (StN stb db 100 (Dsk.jS 100000))) (yH bb 1 35) w' F∧K0 wx w'∧∀ k,F k→wx.heap.size≤k):=fun wx k=>
  aO2 wx 100000 10 10 100 aE aE aE aE (hst.keep0 k) (Nat.lt_of_lt_of_le h0 k.size)
 clear hst h0
 go_enter Tryz.func7,Tryz.ntmps7
 go_wp2_with fail
 refine (HCF.out _).mono ?_
 rintro e w1 ⟨rfl,k1⟩
 have HK1:=Lib.hid k1
 clear k1
 go_wp2_with fail
 refine (HNW.out _ HK1.out).mono ?_
 rintro e w2 ⟨wb,sb,bb,stb,db,F,rfl,hs,k2,hF⟩
 have HK2:=Lib.hid (K0.tr HK1.out k2)
 have HS:=Lib.hid hs
 have HF:Hid (∀ k,F k→w.heap.size≤k):=fun k e=>Nat.le_trans HK1.out.size (hF k e)
 clear hs k2 hF HNW HCF
 go_upto_region 5 with fail
 obtain ⟨W,hW⟩:∃ W,W=(w2.alloc (.cells #[.int .i64 0,.int .i64 0,.bool false,.string ⟨#[107]⟩,.bool false,.string ⟨#[118]⟩,.slice none 0 0] 98)).alloc (.cells #[.int .i64 0,.int .i64 1,.int .i64 (-1),.int .i64 (-1),.int .i64 (-1),.slice (some ⟨w2.heap.size,0,none⟩) 1 1] 39):=⟨_,rfl⟩
 have kW:K0 w2 W:=(by rw [hW];exact ((aD.refl _ _).alloc _).alloc _)
 have hr:W.heap[w2.heap.size]?=some (.cells (bA rK).toArray 98 (0,0)):=by rw [hW];exact aL (aI w2 _ _ rfl) _
 have ht:W.heap[w2.heap.size+1]?=some (.cells #[.int .i64 0,.int .i64 1,.int .i64 (-1),.int .i64 (-1),.int .i64 (-1),.slice (some ⟨w2.heap.size,0,none⟩) 1 1] 39 (0,0)):=(by rw [hW];exact aI _ _ _ (by simp))
 have oN:=rN (bb:=bb) (stb:=stb) (uY stb db 100 (Dsk.jS 100000))
 have oQ:=fun D fs M=>rN (bb:=bb) (stb:=stb) (iQ stb db 100 D fs M)
 have oR:=fun {Q} (o:gL Q)=>rO (wb:=wb) (sb:=sb) o (aA9 (bb:=bb) (o:=1) (p:=35))
 have hFl:=(oR oN).lt HS.out
 have hSW:=(oR oN).k0 HS.out kW
 have HA1:Hid (Calls Tryz.prog 21 #[.pointer (some ⟨wb,0,none⟩),.int .i64 0,(mU 1 1 false bZ none 0).val] W fun en w'=>∃ a cp,en=.returned (.tuple #[.agg (bY 0 0 0 0 0 0 0 (.slice a 0 cp)),.bool true])∧∃ F',oG wb sb (xA bb stb (vN stb db 100 (iK 100000 oU) [] [])) (yH bb 1 35) w' F'∧aP F F' W w'):=by
  have hrd:jJ (mU 1 1 false bZ none 0):=nA aE aE (by rw [kM];decide)
  exact vY (D:=fun _=>False) (l:=[]) oN (oQ _ _ _) (.inl ⟨rfl,rfl⟩) aLf hrd (.inl rfl) (aE9 hrd (by show (gY bZ).size≤_;rw [kM];decide)) (fun wx _ cb _=>vC hrd (.inl aE) (fun _ e=>e.elim)) (qT aE aE) (.inl rfl) (aKd aE aE (.inl rfl))
   (fun wx FQ FA a cap hq hb _ h0 st hp=>aVz aE aE hq hb h0 st hp) hSW
 have HKW:Hid (K0 w W):=K0.tr HK2.out kW
 have HR:=Lib.hid hr
 have HT:=Lib.hid ht
 have HNF:Hid (¬ F w2.heap.size∧¬ F (w2.heap.size+1)):=⟨fun e=>by have:=hFl _ e;omega,fun e=>by have:=hFl _ e;omega⟩
 have HON:=Lib.hid oN
 have HOQ:=Lib.hid oQ
 have HOR:=Lib.hid (fun D fs M=>oR (oQ D fs M))
 clear kW hr ht hFl hSW oN oQ oR
 rw [← hW]
 clear hW
 go_wp2_with fail
 refine (zY HA1.out).mono ?_
 rintro e w3 ⟨vs3,rfl,hv3,F1,s1,m1⟩
 have g1:=m1.guest (aC HR.out) HNF.out.1
 have g2:=m1.guest (aC HT.out) HNF.out.2
 have HM1:=Lib.hid m1
 have HF1:Hid (∀ k,F1 k→w.heap.size≤k):=fun k e=>(m1.grows k e).elim (HF.out k) (fun e=>Nat.le_trans HKW.out.size e)
 have HK3:Hid (K0 w w3):=HKW.out.trans m1.keeps (fun k hk e=>by have:=HF.out k e;omega)
 have HS1:=Lib.hid s1
 have hr3:=g1.2.trans HR.out
 have ht3:=g2.2.trans HT.out
 obtain ⟨j1,j2,j3,j4⟩:=iV w3 hv3.len
 have HV3:=Lib.hid hv3
 have HSZ3:=Lib.hid j4
 obtain ⟨W3,hW3⟩:∃ W3,W3=(w3.alloc (.cells #[.int .i64 0,.int .i64 0,.int .i64 0,.int .i64 0,.int .i64 0,.int .i64 0,.int .i64 0,.slice none 0 0,.slice none 0 0,.slice none 0 0] 33)).setCells w3.heap.size 0 vs3:=⟨_,rfl⟩
 have HTH3:=Lib.hid j3
 have k33:K0 w3 W3:=by rw [hW3];exact j2
 have hp3:W3.heap[w3.heap.size]?=some (.cells vs3.toArray 33 (0,0)):=by rw [hW3];exact j1
 have hr3':=(k33.block _ (aC hr3) (fun e=>e)).trans hr3
 have ht3':=(k33.block _ (aC ht3) (fun e=>e)).trans ht3
 have hF1l:=(HOR.out _ _ _).lt s1
 have hS3:=(HOR.out _ _ _).k0 s1 k33
 have HNF1:Hid (¬ F1 w2.heap.size∧¬ F1 (w2.heap.size+1)∧¬ F1 w3.heap.size):=⟨g1.1,g2.1,fun e=>by have:=hF1l _ e;omega⟩
 have HR3:=Lib.hid hr3'
 have HT3:=Lib.hid ht3'
 have HP3:=Lib.hid hp3
 have HKW3:Hid (K0 w W3):=K0.tr HK3.out k33
 have HLT3:Hid (w2.heap.size<W3.heap.size):=aC hr3'
 have HA2:Hid (Calls Tryz.prog 21 #[.pointer (some ⟨wb,0,none⟩),.int .i64 1,(mU 4 0 true bK (some ⟨w2.heap.size,0,none⟩) 1).val] W3 fun en w'=>∃ a cp,en=.returned (.tuple #[.agg (bY 0 0 0 0 0 0 0 (.slice a 0 cp)),.bool true])∧∃ F',oG wb sb (xA bb stb (vN stb db 100 (yL (iK 100000 oU) (bB (fE 0 0) 0) bK) [fK] (Idm.hZ [] (bI bK)))) (yH bb 35 1) w' F'∧aP F1 F' W3 w'):=by
  have hrd:jJ (mU 4 0 true bK (some ⟨w2.heap.size,0,none⟩) 1):=nA aE aE (by rw [yU];decide)
  exact vY (D:=fun k=>k=w2.heap.size) (l:=[]) (HOQ.out _ _ _) (HOQ.out _ _ _) (.inr ⟨rfl,rfl⟩) aVo hrd (.inr ⟨aAa,xE,aPq⟩) (aE9 hrd (by show (gY bK).size≤_;rw [yU];decide)) (fun wx k cb hc=>vC hrd (.inr ⟨aAa,xE,(aPr ((k.block _ HLT3.out (fun e=>e)).trans HR3.out) rfl vB).at_⟩) (fun j e=>by have h1:=k.size;have h2:=HLT3.out;omega)) (qT aE aE) (.inl rfl) (aKd aE aE (.inl rfl))
   (fun wx FQ FA a cap hq hb ha h0 st hp=>aV0 aE aE _ _ hq hb ha h0 st hp) (aDf hS3)
 have d0:=aB ht3' 0
 have d1:=aB ht3' 1
 have d2:=aB ht3' 2
 have d3:=aB ht3' 3
 have d4:=aB ht3' 4
 have d5:W3.cell? ⟨w2.heap.size+1,5,none⟩=some (.slice (some ⟨w2.heap.size,0,none⟩) 1 1):=aB ht3' 5
 have dl:=aC ht3'
 clear s1 m1 g1 g2 j1 j2 j3 j4 hv3 hr3 ht3 k33 hp3 hr3' ht3' hF1l hS3
 go_upto_region 6 with (first
  | (refine wpList_store_mid rfl 33 (.tmp 4) (.tmp 29) rfl w3.heap.size 0 vs3.toArray rfl rfl HTH3.out HSZ3.out HV3.out.one ?_)
  | fail)
 rw [← hW3]
 clear hW3
 go_wp2_with fail
 refine (zY HA2.out).mono ?_
 rintro e w4 ⟨vs4,rfl,hv4,F2,s2,m2⟩
 have g3:=m2.guest (aC HP3.out) HNF1.out.2.2
 have HF2:Hid (∀ k,F2 k→w.heap.size≤k):=fun k e=>(m2.grows k e).elim (HF1.out k) (fun e=>Nat.le_trans HKW3.out.size e)
 have HK4:Hid (K0 w w4):=HKW3.out.trans m2.keeps (fun k hk e=>by have:=HF1.out k e;omega)
 have hp4:=g3.2.trans HP3.out
 obtain ⟨j1,j2,j3,j4⟩:=iV w4 hv4.len
 have HV4:=Lib.hid hv4
 have HSZ4:=Lib.hid j4
 obtain ⟨W4,hW4⟩:∃ W4,W4=(w4.alloc (.cells #[.int .i64 0,.int .i64 0,.int .i64 0,.int .i64 0,.int .i64 0,.int .i64 0,.int .i64 0,.slice none 0 0,.slice none 0 0,.slice none 0 0] 33)).setCells w4.heap.size 0 vs4:=⟨_,rfl⟩
 have HTH4:=Lib.hid j3
 have k44:K0 w4 W4:=by rw [hW4];exact j2
 have hq4:W4.heap[w4.heap.size]?=some (.cells vs4.toArray 33 (0,0)):=by rw [hW4];exact j1
 have hp4':=(k44.block _ (aC hp4) (fun e=>e)).trans hp4
 have s2':=aDf s2
 have hF2l:=(HOR.out _ _ _).lt s2'
 have hS4:=(HOR.out _ _ _).k0 s2' k44
 have HNF2:Hid (¬ F2 w3.heap.size∧¬ F2 w4.heap.size):=⟨g3.1,fun e=>by have:=hF2l _ e;omega⟩
 have HP4:=Lib.hid hp4'
 have HQ4:=Lib.hid hq4
 have HKW4:Hid (K0 w W4):=K0.tr HK4.out k44
 have HA3:Hid (Calls Tryz.prog 21 #[.pointer (some ⟨wb,0,none⟩),.int .i64 0,(mU 5 0 false bZ none 0).val] W4 fun en w'=>∃ a cp,en=.returned (.tuple #[.agg (bY 0 0 0 1 0 0 0 (.slice a 1 cp)),.bool true])∧∃ F',oG wb sb (xA bb stb (vN stb db 100 (yL (iK 100000 oU) (bB (fE 0 0) 0) bK) [fK] (Idm.hZ [] (bI bK)))) (yH bb 1 35) w' F'∧aP F2 F' W4 w'):=by
  have hrd:jJ (mU 5 0 false bZ none 0):=nA aE aE (by rw [kM];decide)
  exact vY (D:=fun _=>False) (l:=[bK]) (HOQ.out _ _ _) (HOQ.out _ _ _) (.inl ⟨rfl,rfl⟩) aLf hrd (.inl rfl) (aE9 hrd (by show (gY bZ).size≤_;rw [kM];decide)) (fun wx _ cb _=>vC hrd (.inl aE) (fun _ e=>e.elim)) (qT aE aE) (.inr ⟨bK,rfl,xE,by rw [vZ];decide,aPq⟩) (aKd aE aE (.inr ⟨bK,rfl,by rw [vZ];decide⟩))
   (fun wx FQ FA a cap hq hb _ h0 st hp=>aQa hq hb st hp) hS4
 clear s2 m2 g3 j1 j2 j3 j4 hv4 hp4 k44 hq4 hp4' s2' hF2l hS4 d0 d1 d2 d3 d4 d5 dl
 go_upto_region 7 with (first
  | (refine wpList_store_mid rfl 33 (.tmp 6) (.tmp 36) rfl w4.heap.size 0 vs4.toArray rfl rfl HTH4.out HSZ4.out HV4.out.one ?_)
  | fail)
 rw [← hW4]
 clear hW4
 go_wp2_with fail
 refine (zY HA3.out).mono ?_
 rintro e w5 ⟨vs5,rfl,hv5,F3,s3,m3⟩
 have g4:=m3.guest (aC HP4.out) HNF2.out.1
 have g5:=m3.guest (aC HQ4.out) HNF2.out.2
 have HK5:Hid (K0 w w5):=HKW4.out.trans m3.keeps (fun k hk e=>by have:=HF2.out k e;omega)
 have hp5:=g4.2.trans HP4.out
 have hq5:=g5.2.trans HQ4.out
 obtain ⟨_,_,u0,_,_,_,ul⟩:=HV3.out.block hp5
 obtain ⟨_,_,v0,v1,_,_,vl⟩:=HV4.out.block hq5
 obtain ⟨j1,j2,j3,j4⟩:=iV w5 hv5.len
 have HV5:=Lib.hid hv5
 have HSZ5:=Lib.hid j4
 have HTH5:=Lib.hid j3
 obtain ⟨W5,hW5⟩:∃ W5,W5=(w5.alloc (.cells #[.int .i64 0,.int .i64 0,.int .i64 0,.int .i64 0,.int .i64 0,.int .i64 0,.int .i64 0,.slice none 0 0,.slice none 0 0,.slice none 0 0] 33)).setCells w5.heap.size 0 vs5:=⟨_,rfl⟩
 rw [← hW5] at j1 j2
 obtain ⟨a,m,t0,t1,t3,t7,tl⟩:=hv5.block j1
 have u0':=j2.cell' u0 (fun e=>e)
 have v0':=j2.cell' v0 (fun e=>e)
 have v1':=j2.cell' v1 (fun e=>e)
 have ul':=Nat.lt_of_lt_of_le ul j2.size
 have vl':=Nat.lt_of_lt_of_le vl j2.size
 have k55:=Lib.hid j2
 clear s3 m3 g4 g5 hp5 hq5 j1 j2 j3 j4 u0 v0 v1 ul vl hv5
 go_upto_region 8 with (first
  | (refine wpList_store_mid rfl 33 (.tmp 8) (.tmp 42) rfl w5.heap.size 0 vs5.toArray rfl rfl HTH5.out HSZ5.out HV5.out.one ?_)
  | fail)
 rw [← hW5]
 clear hW5
 go_wp2_with fail
 go_ret
 exact ⟨rfl,K0.tr HK5.out k55.out⟩
structure OnP (Bs:List aR) (q:Int) (k:Nat):Prop where
 chain:Idm.lG 2 (Bs.map bI) q k
 heard:Idm.mB 2 (Bs.map bI) (cD [] Bs)
 form:∀ b∈Bs,b=onB b.base b.span
theorem OnP.init:OnP [] 0 0:=⟨Idm.lG.init 2,Idm.mB.init 2,fun _ h=>by cases h⟩
theorem OnP.skip {Bs:List aR} {q:Int} {k:Nat} (h:OnP Bs q k):OnP Bs q (k+1):=⟨h.chain.skip,h.heard,h.form⟩
theorem aVp (q sp:Int):bI (onB q sp)=Idm.iM 2 q sp q:=rfl
theorem OnP.add {Bs:List aR} {q sp:Int} {k:Nat} (h:OnP Bs q k) (hs:1≤sp∧sp≤50) (hk:k<12):OnP (Bs++[onB q sp]) (q+sp) (k+1):=by
 have hr:=h.chain.seqR
 have e1:(Bs++[onB q sp]).map bI=Bs.map bI++[Idm.iM 2 q sp q]:=by rw [List.map_append];rfl
 have e2:cD [] (Bs++[onB q sp])=Idm.hZ (cD [] Bs) (Idm.iM 2 q sp q):=by rw [oV];rfl
 refine ⟨by rw [e1];exact h.chain.add q hs.1 hs.2 aA,by rw [e1,e2];exact h.heard.note aE (Idm.aHc aE aE hr.1 aA hs.1 hs.2 hr.1 aA),fun b hb=>?_⟩
 rcases List.mem_append.1 hb with hb | hb
 ·exact h.form b hb
 ·rw [List.mem_singleton.1 hb];rfl
theorem OnP.new {Bs:List aR} {q sp:Int} {k:Nat} (h:OnP Bs q k) (hs:1≤sp∧sp≤50) (hk:k≤12):Idm.eP (cD [] Bs) (bI (onB q sp))=(0,false,0):=by
 rw [aVp]
 exact Idm.aTd h.heard h.chain aA aE aE hs.1 hs.2
theorem aVb (b0 sp ep sq:Int):bI ⟨b0,sp,3,ep,sq,[]⟩=Idm.iM ep sq sp b0:=rfl
theorem OnP.early {Bs:List aR} {q sp:Int} {k:Nat} (h:OnP Bs q k) (hs:1≤sp∧sp≤50) (hk:k≤12):Idm.eP (cD [] Bs) (bI ⟨q,sp,3,2,q+1,[]⟩)=(0,false,9):=by
 rw [aVb]
 exact Idm.aTc h.heard h.chain aA aE aE hs.1 hs.2
theorem OnP.at_ {Bs:List aR} {q:Int} {k:Nat} (h:OnP Bs q k) {j:Nat} (hj:j<Bs.length):0≤Bs[j].base∧1≤Bs[j].span∧Bs[j].span≤50∧Bs[j].base+Bs[j].span≤q:=by
 have hf:=h.form _ (List.getElem_mem hj)
 have:=h.chain.rng (bI Bs[j]) (List.mem_map_of_mem (List.getElem_mem hj))
 rw [hf] at this ⊢
 exact this
theorem OnP.fenced {Bs:List aR} {q:Int} {k:Nat} (h:OnP Bs q k) {j:Nat} (hj:j<Bs.length) (hk:k≤12):Idm.eP (cD [] Bs) (bI ⟨q,Bs[j].span,3,1,Bs[j].base,[]⟩)=(0,false,8):=by
 obtain ⟨h1,h2,h3,h4⟩:=h.at_ hj
 have hr:=h.chain.seqR
 rw [aVb]
 exact Idm.aTe (epoch:=2) h.heard (by intro e;have:=List.map_eq_nil_iff.1 e;rw [this] at hj;exact absurd hj (Nat.not_lt_zero _)) aE aE h1 aA h2 h3
theorem aP0 (M:List (Int×Idm.aW)) (b:Idm.cY) (n:Int):Idm.eP M {b with base:=n}=Idm.eP M b:=by
 unfold Idm.eP Idm.eR Idm.nD
 rfl
theorem OnP.again {Bs:List aR} {q:Int} {k:Nat} (h:OnP Bs q k) {j:Nat} (hj:j<Bs.length) (h5:Bs.length≤j+5) (hk:k≤12):Idm.eP (cD [] Bs) (bI ⟨q,Bs[j].span,3,2,Bs[j].base,[]⟩)=(Bs[j].base,true,0):=by
 have hl:(Bs.map bI).length=Bs.length:=List.length_map _
 have h1:=Idm.aMy (i:=j) h.heard h.chain aA aE aE (by rw [hl];exact hj) (by rw [hl];exact h5)
 have hf:=h.form _ (List.getElem_mem hj)
 rw [List.getElem_map] at h1
 have e:bI ⟨q,Bs[j].span,3,2,Bs[j].base,[]⟩={bI Bs[j] with base:=q}:=by
  rw [hf]
  rfl
 rw [e,aP0,h1]
 rfl
def aDh (b:aR):List Value:=[.int .i64 0,.int .i64 b.span,.int .i64 3,.int .i64 2,.int .i64 b.base,.slice none 0 0]
def sE (Bs:List aR):List Value:=Bs.flatMap aDh
theorem aOj (Bs:List aR):(sE Bs).length=Bs.length*6:=by
 unfold sE
 induction Bs with
 | nil=>rfl
 | cons b l ih=>rw [List.flatMap_cons,List.length_append,ih,List.length_cons];show 6+_=_;omega
theorem qV {w:World} {base:Nat} {Bs:List aR} {g cap:Nat} (h:w.ownsRow base 39 6 (.slice (some ⟨g,0,none⟩) Bs.length cap) Bs.length (sE Bs)) {i:Nat} (hi:i<Bs.length) :
  w.cell? ⟨g,i*6,none⟩=some (.int .i64 0)∧w.cell? ⟨g,i*6+1,none⟩=some (.int .i64 Bs[i].span)∧w.cell? ⟨g,i*6+2,none⟩=some (.int .i64 3)∧
  w.cell? ⟨g,i*6+3,none⟩=some (.int .i64 2)∧w.cell? ⟨g,i*6+4,none⟩=some (.int .i64 Bs[i].base)∧w.cell? ⟨g,i*6+5,none⟩=some (.slice none 0 0)∧g<w.heap.size:=by
 have hc:∀ j,j<6→w.cell? ⟨g,i*6+j,none⟩=(aDh Bs[i])[j]?:=fun j hj=>by
  have hrow:(sE Bs)[i*6+j]?=(aDh Bs[i])[j]?:=fR aDh 6 (fun _=>rfl) Bs i hi j hj
  rw [h.cellAt (i*6+j) (by have:=aOj Bs;omega),hrow]
 exact ⟨hc 0 aA,hc 1 aA,hc 2 aA,hc 3 aA,hc 4 aA,hc 5 aA,(h.lt g rfl).2⟩
theorem wN {w w':World} {S:Nat→Prop} (hk:aD S w w') {base:Nat} {e:TypeId} {size:Nat} {v:Value} {n:Nat} {xs:List Value} (h:w.ownsRow base e size v n xs) (hS:∀ k,v.ownBlock=some k→¬ S k):w'.ownsRow base e size v n xs:=by
 refine ⟨h.1,h.2.elim .inl fun ⟨g,cap,cur,h1,h2,h3⟩=>.inr ⟨g,cap,cur,h1,h2,?_⟩⟩
 have hlt:g<w.heap.size:=(h.lt g (by rw [h1];rfl)).2
 rw [hk.block g hlt (hS g (by rw [h1];rfl))]
 exact h3
structure pN (w:World) (db t1 t5:Nat) (av:Value) (aw:Value) (c:Int) (wr:World) (bb n k:Nat) (Bs:List aR) (q:Int) (Rs:List aR) (FQ:Nat→Prop) (nv:Value):Prop where
 once:yG db bb n Bs q wr FQ
 nk:n≤k
 pl:OnP Bs q k
 row:wr.ownsRow w.heap.size 39 6 nv Rs.length (sE Rs)
 nrow:∀ j,nv.ownBlock=some j→¬ FQ j∧j≠t1∧j≠t5
 new:∀ j,FQ j→w.heap.size≤j∧j≠t1∧j≠t5
 k0:K0 w wr
 arg:wr.heap[t1]?=some (.cells #[av,aw,.int .i64 c] 83 (0,0))
 conf:wr.heap[t5]?=some (.cells #[.int .i64 10,.int .i64 10,.int .i64 60] 56 (0,0))
section
variable {w:World} {db t1 t5:Nat} {av aw:Value} {c:Int} {wr w':World} {bb bb' n n' k:Nat} {Bs Rs:List aR} {q sp:Int} {FQ FQ':Nat→Prop} {nv:Value}
theorem pN.skip (h:pN w db t1 t5 av aw c wr bb n k Bs q Rs FQ nv):pN w db t1 t5 av aw c wr bb n (k+1) Bs q Rs FQ nv:=
 {h with nk:=Nat.le_succ_of_le h.nk,pl:=h.pl.skip}
theorem pN.keep0 (h:pN w db t1 t5 av aw c wr bb n k Bs q Rs FQ nv) (kk:K0 wr w'):pN w db t1 t5 av aw c w' bb n k Bs q Rs FQ nv:=
 ⟨(kZ _ _ _ _ _).k0 h.once kk,h.nk,h.pl,wN kk h.row (fun _ _ e=>e),h.nrow,h.new,K0.tr h.k0 kk,(kk.block _ (aC h.arg) (fun e=>e)).trans h.arg,(kk.block _ (aC h.conf) (fun e=>e)).trans h.conf⟩
theorem pN.move (h:pN w db t1 t5 av aw c wr bb n k Bs q Rs FQ nv) {Bs':List aR} {q':Int} {k':Nat} (hs:yG db bb' n' Bs' q' w' FQ') (hm:aP FQ FQ' wr w') (hnk:n'≤k') (hp:OnP Bs' q' k'):pN w db t1 t5 av aw c w' bb' n' k' Bs' q' Rs FQ' nv:=by
 have g1:=hm.guest (aC h.arg) (fun e=>(h.new _ e).2.1 rfl)
 have g5:=hm.guest (aC h.conf) (fun e=>(h.new _ e).2.2 rfl)
 have hz:=h.k0.size
 refine ⟨hs,hnk,hp,wN hm.keeps h.row (fun j e=>(h.nrow j e).1),fun j e=>⟨(hm.guest (h.row.lt j e).2 (h.nrow j e).1).1,(h.nrow j e).2⟩,fun j e=>⟨?_,fun q=>g1.1 (q▸e),fun q=>g5.1 (q▸e)⟩,h.k0.trans hm.keeps (fun j hj e=>by have:=(h.new j e).1;omega),g1.2.trans h.arg,g5.2.trans h.conf⟩
 rcases hm.grows j e with e | e
 ·exact (h.new j e).1
 ·omega
theorem pN.moved (h:pN w db t1 t5 av aw c wr bb n k Bs q Rs FQ nv) (hs:yG db bb' n Bs q w' FQ') (hm:aP FQ FQ' wr w'):pN w db t1 t5 av aw c w' bb' n k Bs q Rs FQ' nv:=
 h.move hs hm h.nk h.pl
theorem pN.app (h:pN w db t1 t5 av aw c wr bb n k Bs q Rs FQ nv) {g cap:Nat} {b:aR} (hA:pL wr w.heap.size 39 6 nv Rs.length (sE Rs++aDh b) g cap w') (h0:0<w.heap.size):pN w db t1 t5 av aw c w' bb n k Bs q (Rs++[b]) FQ (.slice (some ⟨g,0,none⟩) (Rs.length+1) cap):=by
 have kk:aD (fun j=>nv.ownBlock=some j) wr w':=(aD.refl (fun j=>nv.ownBlock=some j) wr).grown hA.grown (fun j e _=>e)
 have hl:=(kZ db bb n Bs q).lt h.once
 have e1:sE Rs++aDh b=sE (Rs++[b]):=by unfold sE;rw [List.flatMap_append];simp
 have e2:(Rs++[b]).length=Rs.length+1:=aK
 have hown:=hA.own
 rw [e1,← e2] at hown
 have ha:=aC h.arg
 have hc:=aC h.conf
 have hne1:∀ j,nv.ownBlock=some j→t1≠j:=fun j e q=>(h.nrow j e).2.1 q.symm
 have hne5:∀ j,nv.ownBlock=some j→t5≠j:=fun j e q=>(h.nrow j e).2.2 q.symm
 refine ⟨(kZ db bb n Bs q).keep h.once kk (fun j e q=>(h.nrow j q).1 e) (fun e=>by have:=(h.row.lt _ e).1;omega),h.nk,h.pl,by rw [← e2];exact hown,fun j e=>?_,h.new,h.k0.trans kk (fun j hj e=>by have:=(h.row.lt _ e).1;omega),(kk.block _ ha (fun e=>hne1 _ e rfl)).trans h.arg,(kk.block _ hc (fun e=>hne5 _ e rfl)).trans h.conf⟩
 have ej:g=j:=by
  have e':some g=some j:=e
  exact Option.some.inj e'
 subst ej
 rcases hA.at_ with e | e
 ·exact h.nrow g e
 ·exact ⟨fun q=>by have:=hl _ q;omega,by omega,by omega⟩
end
theorem aGt {w:World} {bb:Nat} {v:Value} {e1 a1 now:Int} {P:World→Prop}
  (h:Calls Tryz.prog 28 #[.pointer (some ⟨bb,0,none⟩),v,.int .i64 now] w fun en w'=>en=.returned (.agg (bY e1 a1 0 0 0 0 0 (.slice none 0 0)))∧P w') :
  Calls Tryz.prog 28 #[.pointer (some ⟨bb,0,none⟩),v,.int .i64 now] w fun en w'=>∃ vs:List Value,en=.returned (.agg vs.toArray)∧aSz e1 a1 0 0 0 0 0 0 vs∧P w':=by
 refine h.mono ?_
 rintro en w' ⟨rfl,hp⟩
 exact ⟨(bY e1 a1 0 0 0 0 0 (.slice none 0 0)).toList,rfl,⟨rfl,rR _ _ _ _ _ _ _ _ _ _,_,_,rfl⟩,hp⟩
end Go.Proofs.YteapahcklcldkaaGreatDoor
