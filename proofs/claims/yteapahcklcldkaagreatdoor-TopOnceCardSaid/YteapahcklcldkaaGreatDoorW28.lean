/-
  The statement is proved: all that it reaches, in parts.
-/
import Derived.Test.YteapahcklcldkaaGreatDoorW27
set_option maxRecDepth 100000
set_option maxHeartbeats 16000000
namespace Go.Proofs.YteapahcklcldkaaGreatDoor
open Go.RowKit Fx
theorem aEz {w:World} {F FD D0:Nat→Prop} {lb db:Nat} {pre:ByteArray} {lim ev:Int} {Ss:List fO} {v:Value} {FS:Nat→Nat→Prop} {D D5:Dsk.aS} (h:fJ w F lb db pre lim ev Ss v FS) (hd:aU w FD db D) (hap:∀ k,F k→¬ FD k) (wf:Dsk.fV D5)
  {b:aR} {a:Option Addr} {cap:Nat} (hb:dN D0 w b a cap) (hfew:oC b a cap) (hp:xC [] b.base lim ev b) (hst:bF w) (hFD0:¬ FD 0) (hF0:¬ F 0) (hD0:∀ j,D0 j→¬ FD j) (hD1:∀ j,D0 j→¬ F j) (hD2:∀ j,D0 j→j<w.heap.size) (hde:Dsk.fQ D5 (bB pre b.base.toNat) (aZ b)=0) (hwfa:Dsk.fV (Dsk.cL D5 (bB pre b.base.toNat) (aZ b))) (hfe:Dsk.bJ (Dsk.cL D5 (bB pre b.base.toNat) (aZ b)) (bB pre b.base.toNat)=0∨Dsk.bJ (Dsk.cL D5 (bB pre b.base.toNat) (aZ b)) (bB pre b.base.toNat)=6)
  (hnew:Dsk.bJ D5 (bB pre b.base.toNat)=6) (hrd:Dsk.jM D5 (bB pre b.base.toNat)=⟨#[]⟩) (hpre:pre.size≤20) (hev:1≤ev) (hfew2:Ss.length<1000)
  (hend:∀ wx,K0 w wx→Calls Tryz.prog 142 #[.pointer (some ⟨lb,0,none⟩)] wx fun e w'=>e=.returned (.int .i64 b.base)∧K0 wx w')
  (hlast:∀ wx,K0 w wx→Calls Tryz.prog 210 #[.pointer (some ⟨lb,0,none⟩)] wx fun e w'=>e=.returned (.pointer none)∧K0 wx w')
  (hsync:∀ wx,K0 w wx→Calls Tryz.prog 214 #[.pointer (some ⟨lb,0,none⟩)] wx (cZ wx FD db (.int .i64 0) D5)) :
  Calls Tryz.prog 143 #[.pointer (some ⟨lb,0,none⟩),.agg #[.int .i64 b.base,.int .i64 b.span,.int .i64 b.prod,.int .i64 b.epoch,.int .i64 b.seq,.slice a b.recs.length cap],.bool true] w fun e w'=>e=.returned (.tuple #[.int .i64 b.base,.int .i64 0])∧∃ sbn,iN w F FD lb db pre lim ev (Ss++[⟨sbn,(bB pre b.base.toNat),b.base,[b]⟩]) (Dsk.dJ (Dsk.cL D5 (bB pre b.base.toNat) (aZ b)) (bB pre b.base.toNat)) w':=by
 have HH:=Lib.hid h
 have HD:=Lib.hid hd
 have HB:=Lib.hid hb
 have HFEW:=Lib.hid hfew
 have HAP:=Lib.hid hap
 have HWFH:=Lib.hid wf
 have HPH:=Lib.hid hp
 have HST:=Lib.hid hst
 have HFD00:=Lib.hid hFD0
 have HF00:=Lib.hid hF0
 have HD00:=Lib.hid hD0
 have HD01:=Lib.hid hD1
 have HD02:=Lib.hid hD2
 have HDEH:=Lib.hid hde
 have HFEH:=Lib.hid hfe
 have HWFA:=Lib.hid hwfa
 have HNEW:=Lib.hid hnew
 have HRD:=Lib.hid hrd
 have HEV:=Lib.hid hev
 have HPRE:=Lib.hid hpre
 have HF2:=Lib.hid hfew2
 have HEND:=Lib.hid hend
 have HLAST:=Lib.hid hlast
 have HSYNC:=Lib.hid hsync
 clear h hd hap wf hb hfew hst hFD0 hF0 hD0 hD1 hD2 hde hfe hwfa hnew hrd hpre hev hfew2 hend hlast hsync
 have HCHK:Hid (∀ wx,K0 w wx→Calls Tryz.prog 212 #[.agg #[.int .i64 b.base,.int .i64 b.span,.int .i64 b.prod,.int .i64 b.epoch,.int .i64 b.seq,.slice a b.recs.length cap]] wx fun e w'=>e=.returned (.int .i64 0)∧K0 wx w'):=fun wx k=>rE D0 b a cap wx (HB.out.keep0 k).at_ hp.ok
 go_enter Tryz.func143,Tryz.ntmps143
 go_wp2_with fail
 refine (HEND.out _ ((aD.refl _ _).alloc _)).mono ?_
 rintro e w1 ⟨rfl,k1⟩
 have b1:w1.heap[w.heap.size]?=some (.cells #[.int .i64 b.base,.int .i64 b.span,.int .i64 b.prod,.int .i64 b.epoch,.int .i64 b.seq,.slice a b.recs.length cap] 39 (0,0)):=(k1.block _ aK (fun e=>e)).trans (aI w _ _ rfl)
 have hk1:K0 w w1:=K0.tr ((aD.refl (fun _=>False) w).alloc _) k1
 have g0:=aB b1 0
 have g1:=aH b1 0
 have B1:=Lib.hid b1
 have HK1:=Lib.hid hk1
 clear b1 k1 hk1
 go_upto_region 2 with fail
 obtain ⟨W1,hW1⟩:∃ W1,W1=w1.setCell ⟨w.heap.size,0,none⟩ (.int .i64 b.base):=⟨_,rfl⟩
 rw [← hW1]
 have b2:W1.heap[w.heap.size]?=some (.cells #[.int .i64 b.base,.int .i64 b.span,.int .i64 b.prod,.int .i64 b.epoch,.int .i64 b.seq,.slice a b.recs.length cap] 39 (0,0)):=(by rw [hW1];exact aM B1.out 0 _)
 have HK2:Hid (K0 w W1):=(by rw [hW1];exact HK1.out.setC 0 _ (fun h=>absurd h (Nat.lt_irrefl _)))
 clear hW1 g0 g1 B1 HK1
 have d0:W1.cell? ⟨w.heap.size,0,none⟩=some (.int .i64 b.base):=aB b2 0
 have d1:W1.cell? ⟨w.heap.size,1,none⟩=some (.int .i64 b.span):=aB b2 1
 have d2:W1.cell? ⟨w.heap.size,2,none⟩=some (.int .i64 b.prod):=aB b2 2
 have d3:W1.cell? ⟨w.heap.size,3,none⟩=some (.int .i64 b.epoch):=aB b2 3
 have d4:W1.cell? ⟨w.heap.size,4,none⟩=some (.int .i64 b.seq):=aB b2 4
 have d5:W1.cell? ⟨w.heap.size,5,none⟩=some (.slice a b.recs.length cap):=aB b2 5
 have hl1:=aC b2
 have HB2:=Lib.hid b2
 clear b2
 go_wp2_with fail
 refine (HCHK.out _ HK2.out).mono ?_
 rintro e w2 ⟨rfl,k2⟩
 have HB3:Hid (w2.heap[w.heap.size]?=some (.cells #[.int .i64 b.base,.int .i64 b.span,.int .i64 b.prod,.int .i64 b.epoch,.int .i64 b.seq,.slice a b.recs.length cap] 39 (0,0))):=(k2.block _ hl1 (fun e=>e)).trans HB2.out
 have HK3:Hid (K0 w w2):=K0.tr HK2.out k2
 clear d0 d1 d2 d3 d4 d5 k2 hl1 HB2 HK2
 go_wp2_with fail
 refine (HLAST.out _ HK3.out).mono ?_
 rintro e w3 ⟨rfl,k3⟩
 have HB4:Hid (w3.heap[w.heap.size]?=some (.cells #[.int .i64 b.base,.int .i64 b.span,.int .i64 b.prod,.int .i64 b.epoch,.int .i64 b.seq,.slice a b.recs.length cap] 39 (0,0))):=(k3.block _ (aC HB3.out) (fun e=>e)).trans HB3.out
 have HK4':Hid (K0 w w3):=K0.tr HK3.out k3
 clear k3 HB3 HK3
 go_upto_region 5 with fail
 have hwl:∀ k,F k∨FD k→k<w.heap.size:=fun k e=>e.elim (HH.out.lt k) (HD.out.lt k)
 clear HLAST HEND HCHK
 go_quiet (fail)
 obtain ⟨w4,hw4⟩:∃ W,W=w3.drewN nq:=⟨_,rfl⟩
 rw [← hw4]
 have k34:K0 w3 w4:=(by rw [hw4];exact (aD.refl _ _).drewN _)
 clear hw4
 have HK4:Hid (K0 w w4):=K0.tr HK4'.out k34
 have HX4:Hid (w.heap.size<w4.heap.size∧¬ F w.heap.size∧¬ FD w.heap.size):=⟨Nat.lt_of_lt_of_le (aC HB4.out) k34.size,fun e=>Nat.lt_irrefl _ (hwl _ (.inl e)),fun e=>Nat.lt_irrefl _ (hwl _ (.inr e))⟩
 have HB5:Hid (w4.heap[w.heap.size]?=some (.cells #[.int .i64 b.base,.int .i64 b.span,.int .i64 b.prod,.int .i64 b.epoch,.int .i64 b.seq,.slice a b.recs.length cap] 39 (0,0))):=(k34.block _ (aC HB4.out) (fun e=>e)).trans HB4.out
 clear k34 HB4 HK4' hwl
 go_wp2_with fail
 refine (HSYNC.out _ HK4.out).mono ?_
 rintro e W5 ⟨rfl,FDs,hD5,hM5⟩
 have HD5:=Lib.hid hD5
 have HM5:=Lib.hid hM5
 have HX5:Hid (fJ W5 F lb db pre lim ev Ss v FS):=(HH.out.keep HK4.out (fun _ _ e=>e)).keep hM5.keeps HAP.out
 have HST5:Hid (bF W5):=(HST.out.keep0 HK4.out).keep hM5.keeps HFD00.out
 have HBX:Hid (W5.heap[w.heap.size]?=some (.cells #[.int .i64 b.base,.int .i64 b.span,.int .i64 b.prod,.int .i64 b.epoch,.int .i64 b.seq,.slice a b.recs.length cap] 39 (0,0))):=(hM5.keeps.block _ HX4.out.1 HX4.out.2.2).trans HB5.out
 have HB5':Hid (dN D0 W5 b a cap):=(HB.out.keep0 HK4.out).keep hM5.keeps HD00.out (fun _ e=>e)
 have HAP5:Hid (∀ k,F k→¬ FDs k):=fun k e q=>(hM5.grows k q).elim (HAP.out k e) (fun q=>by have:=HH.out.lt k e;have:=HK4.out.size;omega)
 have q0:W5.cell? ⟨w.heap.size,0,none⟩=some (.int .i64 b.base):=aB HBX.out 0
 obtain ⟨l0,l1,l2,l3,_,_,lt5⟩:=HX5.out.cells
 clear hD5 hM5 HSYNC HB5
 have hb0:0≤b.base:=HPH.out.ok.base.1
 have HNAME:Hid (∀ wx,Calls Tryz.prog 216 #[.agg #[.string pre,.int .i64 lim,.int .i64 ev],.int .i64 b.base] wx fun e w'=>e=.returned (.string (bB pre b.base.toNat))∧K0 wx w'):=fun wx=>by
  have:=aCu pre lim ev b.base.toNat wx HPRE.out (by have:=HPH.out.le;omega)
  rwa [Int.toNat_of_nonneg hb0] at this
 have HOPN:Hid (∀ wx,K0 W5 wx→Calls Tryz.prog 215 #[.pointer (some ⟨db,0,none⟩),.string (bB pre b.base.toNat),.int .i64 b.base,.int .i64 ev] wx fun e w'=>∃ sb L F,e=.returned (.tuple #[.pointer (some ⟨sb,0,none⟩),.int .i64 0])∧dT w' F sb db (bB pre b.base.toNat) b.base ev L∧gJ L []∧(∀ j,F j→wx.heap.size≤j)∧K0 wx w'):=fun wx k=>
  tJ (HD5.out.k0 k) _ _ _ [] ⟨fun b hb=>(by cases hb),trivial,HPH.out.evs,fun k hk=>absurd hk (Nat.not_lt_zero _),Nat.zero_le _,(by rw [nY];exact Nat.zero_le _)⟩ (HST5.out.keep0 k) (by rw [HRD.out,nY]) (.inr HNEW.out) ⟨hb0,HPH.out.le⟩ HEV.out (by rw [kG];have:=HPRE.out;omega)
 go_upto_region 9 with fail
 refine aX 18 (fun w'=>w'.cell? ⟨lb,0,none⟩=some (.string pre)∧w'.cell? ⟨lb,1,none⟩=some (.int .i64 lim)∧w'.cell? ⟨lb,2,none⟩=some (.int .i64 ev)∧w'.cell? ⟨lb,3,none⟩=some (.pointer (some ⟨db,0,none⟩))∧w'.cell? ⟨w.heap.size,0,none⟩=some (.int .i64 b.base)) (fun _=>True) aF ⟨by go_simp,by go_simp,by go_simp,by go_simp,by go_simp⟩ trivial (fun hS=>?_)
 refine tB 0 hS (fun hS=>?_)
 simp only [Act.put,Sw]
 refine tB 1 hS (fun hS=>?_)
 simp only [Act.put]
 refine tB 2 hS (fun hS=>?_)
 simp only [Act.put]
 refine tA 3 hS (fun hS=>?_)
 simp only [Act.put]
 refine tB 4 hS (fun hS=>?_)
 simp only [Act.put]
 refine tB 5 hS (fun hS=>?_)
 simp only [Act.put]
 refine tB 6 hS (fun hS=>?_)
 simp only [Act.put]
 refine tA 7 hS (fun hS=>?_)
 simp only [Act.put]
 refine tB 8 hS (fun hS=>?_)
 simp only [Act.put]
 refine tA 9 hS (fun hS=>?_)
 simp only [Act.put]
 refine tB 11 hS (fun hS=>?_)
 simp only [Act.put]
 refine tA 12 hS (fun hS=>?_)
 simp only [Act.put]
 refine tB 13 hS (fun hS=>?_)
 simp only [Act.put]
 refine tB 14 hS (fun hS=>?_)
 simp only [Act.put]
 refine tB 15 hS (fun hS=>?_)
 simp only [Act.put]
 refine tB 16 hS (fun hS=>?_)
 simp only [Act.put]
 refine tA 17 hS (fun hS=>?_)
 simp only [Act.put]
 refine tO 10 (fun K hK=>?_)
 go_simp
 refine (HNAME.out _).mono ?_
 rintro e wb ⟨rfl,kb⟩
 have kWb:K0 W5 wb:=K0.tr (aD.drew (aD.refl _ _)) kb
 clear kb
 have HKWB:=Lib.hid kWb
 go_simp
 refine hK.out _ _ ⟨fun _=>⟨by (first | assumption | exact kWb.cell' aG (fun e=>e) | go_simp),by (first | assumption | exact kWb.cell' aG (fun e=>e) | go_simp),by (first | assumption | exact kWb.cell' aG (fun e=>e) | go_simp),by (first | assumption | exact kWb.cell' aG (fun e=>e) | go_simp),by (first | assumption | exact kWb.cell' aG (fun e=>e) | go_simp)⟩,trivial⟩ (fun hS=>?_)
 clear hK K
 try simp only [Act.put,Sw]
 refine tO 18 (fun K hK=>?_)
 go_simp
 ((with_reducible refine Calls.mono (HOPN.out _ ?_) ?_);· exact HKWB.out)
 rintro e w6 ⟨sbn,L6,G,rfl,hS6,hl6,hG6,k6⟩
 have HS6:=Lib.hid hS6
 have HL6:=Lib.hid hl6
 have HG6:=Lib.hid hG6
 have HK6':=Lib.hid (K0.tr HKWB.out k6)
 clear hS6 hl6 hG6 k6
 go_simp
 refine hK.out _ _ ⟨fun e=>absurd e aE,trivial⟩ (fun hS=>?_)
 clear hK K
 try simp only [Act.put,Sw]
 refine tB 19 hS (fun hS=>?_)
 simp only [Act.put,Sw]
 refine tB 20 hS (fun hS=>?_)
 simp only [Act.put]
 refine tB 21 hS (fun hS=>?_)
 simp only [Act.put]
 refine tO 22 (fun K hK=>?_)
 go_simp
 refine hK.out _ _ ⟨fun e=>absurd e aE,trivial⟩ (fun hS=>?_)
 clear hK K
 try simp only [Act.put,Sw]
 refine tO 23 (fun K hK=>?_)
 go_simp
 refine hK.out _ _ ⟨fun e=>absurd e aE,trivial⟩ (fun hS=>?_)
 clear hK K
 try simp only [Act.put,Sw]
 refine bC aF ?_ _
 skip
 have HX6:Hid (fJ w6 F lb db pre lim ev Ss v FS):=HX5.out.keep HK6'.out (fun _ _ e=>e)
 obtain ⟨a2,c2,hv,_⟩:=HX6.out.slice
 subst hv
 have c5'':w6.cell? ⟨lb,5,none⟩=some (.slice a2 Ss.length c2):=HX6.out.cells.2.2.2.2.2.1
 have lt6:lb<w6.heap.size:=HX6.out.cells.2.2.2.2.2.2
 have HROW:Hid (w6.ownsRow 0 365 1 (.slice a2 Ss.length c2) Ss.length (Ss.map mM)):=HX6.out.row
 have HBL:Hid (w6.heap[lb]?=some (.cells #[.string pre,.int .i64 lim,.int .i64 ev,.pointer (some ⟨db,0,none⟩),.int .i64 0,.slice a2 Ss.length c2] 371 (0,0))):=HX6.out.blk
 have HNL:Hid ((Value.slice a2 Ss.length c2).ownBlock≠some lb):=HX6.out.ne1.1
 have HN:Hid (Ss.length≤1000000):=by show _≤_;have:=HF2.out;omega
 have hsl:Ss.length<1000:=HF2.out
 clear q0 l0 l1 l2 l3 lt5 hb0
 go_wp2_with (at_builtin;refine bW (v:=.slice a2 Ss.length c2) rfl rfl Tryz.underlying369 zB rfl aE rfl (HROW.out.alloc _) rfl (aI _ _ _ rfl) rfl rfl ⟨HN.out,by decide⟩ (Nat.zero_le _) ?_;intro g7 cp7 w7 hA7;have HB7:=Lib.hid (hA7.far (aL HBL.out _) HNL.out);have y5:=aB HB7.out 5;have f5:=aH HB7.out 5;have HA7:=Lib.hid hA7;clear hA7;go_upto_region 13 with fail)
 obtain ⟨WH,hWH⟩:∃ W,W=w7.setCell ⟨lb,5,none⟩ (.slice (some ⟨g7,0,none⟩) (Ss.length+1) cp7):=⟨_,rfl⟩
 rw [← hWH]
 have hz5:w4.heap.size≤W5.heap.size:=HM5.out.keeps.size
 have hz6:W5.heap.size≤w6.heap.size:=HK6'.out.size
 have hz4:w.heap.size≤w4.heap.size:=HK4.out.size
 have hGF:∀ k,G k→¬ F k:=fun k e q=>by
  have h1:=HG6.out k e
  have h2:=HKWB.out.size
  have h3:=HH.out.lt k q
  omega
 have hGD:∀ k,G k→¬ FDs k:=fun k e q=>by
  have h1:=HG6.out k e
  have h2:=HKWB.out.size
  have h3:=HD5.out.lt k q
  omega
 have hGz:∀ k,G k→w4.heap.size≤k:=fun k e=>by
  have h1:=HG6.out k e
  have h2:=HKWB.out.size
  omega
 have hpush:=aAz (s:=⟨sbn,(bB pre b.base.toNat),b.base,[]⟩) HX6.out HS6.out HL6.out hGF ((aD.refl (fun _=>False) w6).alloc _) HA7.out HF2.out
 rw [← hWH] at hpush
 have hg7:F g7∨w6.heap.size≤g7:=by
  rcases HA7.out.at_ with q | q
  ·exact .inl (HX6.out.own.2.1 _ q)
  ·right
   rw [q]
   simp
 obtain ⟨FH,HXH,HM8,HAPH⟩:∃ FH,Hid (fJ WH FH lb db pre lim ev (Ss++[⟨sbn,(bB pre b.base.toNat),b.base,[]⟩]) (.slice (some ⟨g7,0,none⟩) (Ss.length+1) cp7) (fun i k=>if i<Ss.length then FS i k else G k))∧Hid (aP F FH W5 WH)∧Hid (∀ k,FH k→¬ FDs k):=by
  refine ⟨_,hpush.1,⟨(HK6'.out.mono (fun _ _ e=>e.elim)).trans hpush.2 (fun _ _ e=>e),fun k e=>?_⟩,fun k e q=>?_⟩
  ·rcases e with e | e | rfl
   ·exact .inl e
   ·right
    have h1:=HG6.out k e
    have h2:=HKWB.out.size
    omega
   ·exact hg7.imp id (fun q=>Nat.le_trans hz6 q)
  ·rcases e with e | e | rfl
   ·exact HAP5.out k e q
   ·exact hGD k e q
   ·rcases hg7 with e | e
    ·exact HAP5.out _ e q
    ·have:=HD5.out.lt _ q
     omega
 have HDH:Hid (aU WH FDs db D5):=(HD5.out.k0 HK6'.out).keep hpush.2 (fun j e q=>HAP5.out j q e)
 have HBH:Hid (dN D0 WH b a cap):=(HB5'.out.keep0 HK6'.out).keep hpush.2 HD01.out (fun _ e=>e)
 have HSTH:Hid (bF WH):=(HST5.out.keep0 HK6'.out).keep hpush.2 HF00.out
 have HFD0:Hid (¬ FDs 0):=fun q=>(HM5.out.grows 0 q).elim HFD00.out (fun q=>by have:=HX4.out.1;omega)
 have HD0H:Hid (∀ j,D0 j→¬ FDs j):=fun j e q=>(HM5.out.grows j q).elim (HD00.out j e) (fun q=>by have:=HD02.out j e;omega)
 have HMH:Hid (aP (fun k=>F k∨FD k) (fun k=>FH k∨FDs k) w4 WH):=HM5.out.or_right.trans HM8.out.or_left
 have bx:=(hpush.2.block _ (Nat.lt_of_lt_of_le (Nat.lt_of_lt_of_le HX4.out.1 hz5) hz6) HX4.out.2.1).trans ((HK6'.out.block _ (Nat.lt_of_lt_of_le HX4.out.1 hz5) (fun e=>e)).trans HBX.out)
 have e0:WH.cell? ⟨w.heap.size,0,none⟩=some (.int .i64 b.base):=aB bx 0
 have e1:WH.cell? ⟨w.heap.size,1,none⟩=some (.int .i64 b.span):=aB bx 1
 have e2:WH.cell? ⟨w.heap.size,2,none⟩=some (.int .i64 b.prod):=aB bx 2
 have e3:WH.cell? ⟨w.heap.size,3,none⟩=some (.int .i64 b.epoch):=aB bx 3
 have e4:WH.cell? ⟨w.heap.size,4,none⟩=some (.int .i64 b.seq):=aB bx 4
 have e5':WH.cell? ⟨w.heap.size,5,none⟩=some (.slice a b.recs.length cap):=aB bx 5
 clear bx hpush hGF hGD hGz hg7 hz4 hz5 hz6 hWH y5 f5 HB7 HA7 HBX HB5' hsl c5'' lt6
 have HL2:Hid (∀ wx,K0 WH wx→Calls Tryz.prog 210 #[.pointer (some ⟨lb,0,none⟩)] wx fun e w'=>e=.returned (.pointer (some ⟨sbn,0,none⟩))∧K0 wx w'):=fun wx k=>by
  have h1:=fX (HXH.out.keep k (fun _ _ e=>e)) Ss.length aK
  rw [dV] at h1
  exact h1
 have HAPP:Hid (∀ wx,K0 WH wx→Calls Tryz.prog 217 #[.pointer (some ⟨sbn,0,none⟩),.agg #[.int .i64 b.base,.int .i64 b.span,.int .i64 b.prod,.int .i64 b.epoch,.int .i64 b.seq,.slice a b.recs.length cap]] wx fun e w'=>e=.returned (.int .i64 0)∧iN wx FH FDs lb db pre lim ev (Ss++[⟨sbn,(bB pre b.base.toNat),b.base,[]++[b]⟩]) (Dsk.cL D5 (bB pre b.base.toNat) (aZ b)) w'):=fun wx k=>
  tI (HXH.out.keep k (fun _ _ e=>e)) (HDH.out.k0 k) HAPH.out HWFH.out (HBH.out.keep0 k) HFEW.out HPH.out (HSTH.out.keep0 k) HFD0.out HD0H.out HDEH.out
 go_upto_region 13 with fail
 obtain ⟨WH',hWH⟩:∃ W',W'=WH:=⟨_,rfl⟩
 clear hWH WH'
 refine aX 3 (fun w'=>w'.cell? ⟨w.heap.size,0,none⟩=some (.int .i64 b.base)∧w'.cell? ⟨w.heap.size,1,none⟩=some (.int .i64 b.span)∧w'.cell? ⟨w.heap.size,2,none⟩=some (.int .i64 b.prod)∧w'.cell? ⟨w.heap.size,3,none⟩=some (.int .i64 b.epoch)∧w'.cell? ⟨w.heap.size,4,none⟩=some (.int .i64 b.seq)∧w'.cell? ⟨w.heap.size,5,none⟩=some (.slice a b.recs.length cap)) (fun _=>True) aF ⟨by go_simp,by go_simp,by go_simp,by go_simp,by go_simp,by go_simp⟩ trivial (fun hS=>?_)
 refine tB 0 hS (fun hS=>?_)
 simp only [Act.put,Sw]
 refine tA 2 hS (fun hS=>?_)
 simp only [Act.put]
 refine tO 1 (fun K hK=>?_)
 go_simp
 refine (HL2.out _ (aD.drew (aD.refl _ _))).mono ?_
 rintro e wa ⟨rfl,ka⟩
 have kWa:K0 WH wa:=K0.tr (aD.drew (aD.refl _ _)) ka
 clear ka
 have HKWA:=Lib.hid kWa
 go_simp
 refine hK.out _ _ ⟨fun _=>⟨by (first | assumption | exact kWa.cell' aG (fun e=>e) | go_simp),by (first | assumption | exact kWa.cell' aG (fun e=>e) | go_simp),by (first | assumption | exact kWa.cell' aG (fun e=>e) | go_simp),by (first | assumption | exact kWa.cell' aG (fun e=>e) | go_simp),by (first | assumption | exact kWa.cell' aG (fun e=>e) | go_simp),by (first | assumption | exact kWa.cell' aG (fun e=>e) | go_simp)⟩,trivial⟩ (fun hS=>?_)
 clear hK K
 try simp only [Act.put,Sw]
 refine tO 3 (fun K hK=>?_)
 go_simp
 ((with_reducible refine Calls.mono (HAPP.out _ ?_) ?_);· exact HKWA.out)
 rintro e w5 ⟨rfl,hA5⟩
 have HA5:=Lib.hid hA5
 clear hA5
 go_simp
 refine hK.out _ _ ⟨fun e=>absurd e aE,trivial⟩ (fun hS=>?_)
 clear hK K
 try simp only [Act.put,Sw]
 refine tO 4 (fun K hK=>?_)
 go_simp
 refine hK.out _ _ ⟨fun e=>absurd e aE,trivial⟩ (fun hS=>?_)
 clear hK K
 try simp only [Act.put,Sw]
 refine bC aF ?_ _
 skip
 obtain ⟨F5,FD5,p1,p2,p3,p4⟩:=HA5.out
 have HP1:=Lib.hid p1
 have HP2:=Lib.hid p2
 have HP3:=Lib.hid p3
 have hx4:=aP.apart HMH.out (G:=fun k=>k=w.heap.size) (fun k e=>e▸⟨HX4.out.1,fun q=>q.elim HX4.out.2.1 HX4.out.2.2⟩) _ rfl
 have hx4':w.heap.size<wa.heap.size∧¬ (FH w.heap.size∨FDs w.heap.size):=⟨Nat.lt_of_lt_of_le hx4.1 HKWA.out.size,hx4.2⟩
 have hx5:=aP.apart p4 (G:=fun k=>k=w.heap.size) (fun k e=>e▸hx4') _ rfl
 have e5:w5.cell? ⟨w.heap.size,0,none⟩=some (.int .i64 b.base):=p4.keeps.cell' (HKWA.out.cell' e0 (fun e=>e)) hx4'.2
 have HX5:=Lib.hid hx5
 have HM5:=Lib.hid (HMH.out.trans (aP.k0_left HKWA.out p4))
 have HL3:Hid (∀ wx,K0 w5 wx→Calls Tryz.prog 210 #[.pointer (some ⟨lb,0,none⟩)] wx fun e w'=>e=.returned (.pointer (some ⟨sbn,0,none⟩))∧K0 wx w'):=fun wx k=>by
  obtain ⟨v',FS',hx⟩:=HP1.out
  have h1:=fX (hx.keep k (fun _ _ e=>e)) Ss.length aK
  rw [dV] at h1
  exact h1
 have HSY:Hid (∀ wx,K0 w5 wx→Calls Tryz.prog 218 #[.pointer (some ⟨sbn,0,none⟩)] wx (cZ wx FD5 db (.int .i64 0) (Dsk.dJ (Dsk.cL D5 (bB pre b.base.toNat) (aZ b)) (bB pre b.base.toNat)))):=fun wx k=>by
  obtain ⟨v',FS',hx⟩:=HP1.out
  obtain ⟨L',h1,h2⟩:=hx.segs Ss.length aK
  rw [dV] at h1
  exact pA (h1.k0 k) (HP2.out.k0 k) HWFA.out HFEH.out
 clear p1 p2 p3 p4 e0 e1 e2 e3 e4 e5' hx4 hx4' hx5 HAPP HL2 HA5
 go_wp2_with fail
 refine (HL3.out _ (aD.refl _ _)).mono ?_
 rintro e w6 ⟨rfl,k6⟩
 have HK6:=Lib.hid k6
 have e6:=k6.cell' e5 (fun e=>e)
 clear k6 e5
 go_wp2_with fail
 refine (HSY.out _ HK6.out).mono ?_
 rintro e w7 ⟨rfl,FD7,h7,m7⟩
 have e7:w7.cell? ⟨w.heap.size,0,none⟩=some (.int .i64 b.base):=m7.keeps.cell' e6 (fun e=>HX5.out.2 (.inr e))
 have HFIN:Hid (iN w F FD lb db pre lim ev (Ss++[⟨sbn,(bB pre b.base.toNat),b.base,[]++[b]⟩]) (Dsk.dJ (Dsk.cL D5 (bB pre b.base.toNat) (aZ b)) (bB pre b.base.toNat)) w7):=by
  have hm:=aP.k0_left HK6.out m7
  refine ⟨F5,FD7,HP1.out.keep hm.keeps HP3.out,h7,fun k e q=>(hm.grows k q).elim (HP3.out k e) (fun q=>by have:=HP1.out.lt k e;omega),?_⟩
  exact aP.k0_left HK4.out (HM5.out.trans hm.or_right)
 clear h7 m7 e6
 go_wp2_with fail
 go_ret2
 exact ⟨rfl,sbn,HFIN.out⟩
theorem aEx {w:World} {F FD D0:Nat→Prop} {lb db:Nat} {pre:ByteArray} {lim ev:Int} {Ss:List fO} {v:Value} {FS:Nat→Nat→Prop} {D D5:Dsk.aS} (h:fJ w F lb db pre lim ev Ss v FS) (hd:aU w FD db D) (hap:∀ k,F k→¬ FD k) (wf:Dsk.fV D5)
  {b:aR} {a:Option Addr} {cap:Nat} (hb:dN D0 w b a cap) (hfew:oC b a cap) (hp:xC [] b.base lim ev b) (hst:bF w) (hFD0:¬ FD 0) (hF0:¬ F 0) (hD0:∀ j,D0 j→¬ FD j) (hD1:∀ j,D0 j→¬ F j) (hD2:∀ j,D0 j→j<w.heap.size) (hde:Dsk.fQ D5 (bB pre b.base.toNat) (aZ b)=0) (hwfa:Dsk.fV (Dsk.cL D5 (bB pre b.base.toNat) (aZ b))) (hfe:Dsk.bJ (Dsk.cL D5 (bB pre b.base.toNat) (aZ b)) (bB pre b.base.toNat)=0∨Dsk.bJ (Dsk.cL D5 (bB pre b.base.toNat) (aZ b)) (bB pre b.base.toNat)=6)
  (hnew:Dsk.bJ D5 (bB pre b.base.toNat)=6) (hrd:Dsk.jM D5 (bB pre b.base.toNat)=⟨#[]⟩) (hpre:pre.size≤20) (hev:1≤ev) (hfew2:Ss.length<1000)
  (hend:∀ wx,K0 w wx→Calls Tryz.prog 142 #[.pointer (some ⟨lb,0,none⟩)] wx fun e w'=>e=.returned (.int .i64 b.base)∧K0 wx w')
  {sb z:Nat} (hz:lim≤(z:Int)) (hlast:∀ wx,K0 w wx→Calls Tryz.prog 210 #[.pointer (some ⟨lb,0,none⟩)] wx fun e w'=>e=.returned (.pointer (some ⟨sb,0,none⟩))∧K0 wx w')
  (hsiz:∀ wx,K0 w wx→Calls Tryz.prog 213 #[.pointer (some ⟨sb,0,none⟩)] wx fun e w'=>e=.returned (.int .i64 z)∧w'=wx)
  (hsync:∀ wx,K0 w wx→Calls Tryz.prog 214 #[.pointer (some ⟨lb,0,none⟩)] wx (cZ wx FD db (.int .i64 0) D5)) :
  Calls Tryz.prog 143 #[.pointer (some ⟨lb,0,none⟩),.agg #[.int .i64 b.base,.int .i64 b.span,.int .i64 b.prod,.int .i64 b.epoch,.int .i64 b.seq,.slice a b.recs.length cap],.bool true] w fun e w'=>e=.returned (.tuple #[.int .i64 b.base,.int .i64 0])∧∃ sbn,iN w F FD lb db pre lim ev (Ss++[⟨sbn,(bB pre b.base.toNat),b.base,[b]⟩]) (Dsk.dJ (Dsk.cL D5 (bB pre b.base.toNat) (aZ b)) (bB pre b.base.toNat)) w':=by
 have HH:=Lib.hid h
 have HD:=Lib.hid hd
 have HB:=Lib.hid hb
 have HFEW:=Lib.hid hfew
 have HAP:=Lib.hid hap
 have HWFH:=Lib.hid wf
 have HPH:=Lib.hid hp
 have HST:=Lib.hid hst
 have HFD00:=Lib.hid hFD0
 have HF00:=Lib.hid hF0
 have HD00:=Lib.hid hD0
 have HD01:=Lib.hid hD1
 have HD02:=Lib.hid hD2
 have HDEH:=Lib.hid hde
 have HFEH:=Lib.hid hfe
 have HWFA:=Lib.hid hwfa
 have HNEW:=Lib.hid hnew
 have HRD:=Lib.hid hrd
 have HEV:=Lib.hid hev
 have HPRE:=Lib.hid hpre
 have HF2:=Lib.hid hfew2
 have HEND:=Lib.hid hend
 have HLAST:=Lib.hid hlast
 have HSYNC:=Lib.hid hsync
 have HSIZ:=Lib.hid hsiz
 clear hsiz
 clear h hd hap wf hb hfew hst hFD0 hF0 hD0 hD1 hD2 hde hfe hwfa hnew hrd hpre hev hfew2 hend hlast hsync
 have HCHK:Hid (∀ wx,K0 w wx→Calls Tryz.prog 212 #[.agg #[.int .i64 b.base,.int .i64 b.span,.int .i64 b.prod,.int .i64 b.epoch,.int .i64 b.seq,.slice a b.recs.length cap]] wx fun e w'=>e=.returned (.int .i64 0)∧K0 wx w'):=fun wx k=>rE D0 b a cap wx (HB.out.keep0 k).at_ hp.ok
 go_enter Tryz.func143,Tryz.ntmps143
 go_wp2_with fail
 refine (HEND.out _ ((aD.refl _ _).alloc _)).mono ?_
 rintro e w1 ⟨rfl,k1⟩
 have b1:w1.heap[w.heap.size]?=some (.cells #[.int .i64 b.base,.int .i64 b.span,.int .i64 b.prod,.int .i64 b.epoch,.int .i64 b.seq,.slice a b.recs.length cap] 39 (0,0)):=(k1.block _ aK (fun e=>e)).trans (aI w _ _ rfl)
 have hk1:K0 w w1:=K0.tr ((aD.refl (fun _=>False) w).alloc _) k1
 have g0:=aB b1 0
 have g1:=aH b1 0
 have B1:=Lib.hid b1
 have HK1:=Lib.hid hk1
 clear b1 k1 hk1
 go_upto_region 2 with fail
 obtain ⟨W1,hW1⟩:∃ W1,W1=w1.setCell ⟨w.heap.size,0,none⟩ (.int .i64 b.base):=⟨_,rfl⟩
 rw [← hW1]
 have b2:W1.heap[w.heap.size]?=some (.cells #[.int .i64 b.base,.int .i64 b.span,.int .i64 b.prod,.int .i64 b.epoch,.int .i64 b.seq,.slice a b.recs.length cap] 39 (0,0)):=(by rw [hW1];exact aM B1.out 0 _)
 have HK2:Hid (K0 w W1):=(by rw [hW1];exact HK1.out.setC 0 _ (fun h=>absurd h (Nat.lt_irrefl _)))
 clear hW1 g0 g1 B1 HK1
 have d0:W1.cell? ⟨w.heap.size,0,none⟩=some (.int .i64 b.base):=aB b2 0
 have d1:W1.cell? ⟨w.heap.size,1,none⟩=some (.int .i64 b.span):=aB b2 1
 have d2:W1.cell? ⟨w.heap.size,2,none⟩=some (.int .i64 b.prod):=aB b2 2
 have d3:W1.cell? ⟨w.heap.size,3,none⟩=some (.int .i64 b.epoch):=aB b2 3
 have d4:W1.cell? ⟨w.heap.size,4,none⟩=some (.int .i64 b.seq):=aB b2 4
 have d5:W1.cell? ⟨w.heap.size,5,none⟩=some (.slice a b.recs.length cap):=aB b2 5
 have hl1:=aC b2
 have HB2:=Lib.hid b2
 clear b2
 go_wp2_with fail
 refine (HCHK.out _ HK2.out).mono ?_
 rintro e w2 ⟨rfl,k2⟩
 have HB3:Hid (w2.heap[w.heap.size]?=some (.cells #[.int .i64 b.base,.int .i64 b.span,.int .i64 b.prod,.int .i64 b.epoch,.int .i64 b.seq,.slice a b.recs.length cap] 39 (0,0))):=(k2.block _ hl1 (fun e=>e)).trans HB2.out
 have HK3:Hid (K0 w w2):=K0.tr HK2.out k2
 clear d0 d1 d2 d3 d4 d5 k2 hl1 HB2 HK2
 go_wp2_with fail
 refine (HLAST.out _ HK3.out).mono ?_
 rintro e w3 ⟨rfl,k3⟩
 have HB4:Hid (w3.heap[w.heap.size]?=some (.cells #[.int .i64 b.base,.int .i64 b.span,.int .i64 b.prod,.int .i64 b.epoch,.int .i64 b.seq,.slice a b.recs.length cap] 39 (0,0))):=(k3.block _ (aC HB3.out) (fun e=>e)).trans HB3.out
 have HK4':Hid (K0 w w3):=K0.tr HK3.out k3
 clear k3 HB3 HK3
 go_upto_region 5 with fail
 have hwl:∀ k,F k∨FD k→k<w.heap.size:=fun k e=>e.elim (HH.out.lt k) (HD.out.lt k)
 have c1:w3.cell? ⟨lb,1,none⟩=some (.int .i64 lim):=HK4'.out.cell' HH.out.cells.2.1 (fun e=>e)
 have lt:lb<w3.heap.size:=Nat.lt_of_lt_of_le HH.out.cells.2.2.2.2.2.2 HK4'.out.size
 have HSZ3:Hid (∀ wx,K0 w3 wx→Calls Tryz.prog 213 #[.pointer (some ⟨sb,0,none⟩)] wx fun e w'=>e=.returned (.int .i64 z)∧w'=wx):=fun wx k=>HSIZ.out wx (K0.tr HK4'.out k)
 have j2:decide (lim≤(z:Int))=true:=decide_eq_true hz
 clear HSIZ HLAST HEND HCHK
 go_quiet ((go_at_call 213;exact Calls.quiet_of_same (HSZ3.out _ ((aD.refl _ _).drewN _))))
 clear j2 hz HSZ3 c1 lt
 obtain ⟨w4,hw4⟩:∃ W,W=w3.drewN nq:=⟨_,rfl⟩
 rw [← hw4]
 have k34:K0 w3 w4:=(by rw [hw4];exact (aD.refl _ _).drewN _)
 clear hw4
 have HK4:Hid (K0 w w4):=K0.tr HK4'.out k34
 have HX4:Hid (w.heap.size<w4.heap.size∧¬ F w.heap.size∧¬ FD w.heap.size):=⟨Nat.lt_of_lt_of_le (aC HB4.out) k34.size,fun e=>Nat.lt_irrefl _ (hwl _ (.inl e)),fun e=>Nat.lt_irrefl _ (hwl _ (.inr e))⟩
 have HB5:Hid (w4.heap[w.heap.size]?=some (.cells #[.int .i64 b.base,.int .i64 b.span,.int .i64 b.prod,.int .i64 b.epoch,.int .i64 b.seq,.slice a b.recs.length cap] 39 (0,0))):=(k34.block _ (aC HB4.out) (fun e=>e)).trans HB4.out
 clear k34 HB4 HK4' hwl
 go_wp2_with fail
 refine (HSYNC.out _ HK4.out).mono ?_
 rintro e W5 ⟨rfl,FDs,hD5,hM5⟩
 have HD5:=Lib.hid hD5
 have HM5:=Lib.hid hM5
 have HX5:Hid (fJ W5 F lb db pre lim ev Ss v FS):=(HH.out.keep HK4.out (fun _ _ e=>e)).keep hM5.keeps HAP.out
 have HST5:Hid (bF W5):=(HST.out.keep0 HK4.out).keep hM5.keeps HFD00.out
 have HBX:Hid (W5.heap[w.heap.size]?=some (.cells #[.int .i64 b.base,.int .i64 b.span,.int .i64 b.prod,.int .i64 b.epoch,.int .i64 b.seq,.slice a b.recs.length cap] 39 (0,0))):=(hM5.keeps.block _ HX4.out.1 HX4.out.2.2).trans HB5.out
 have HB5':Hid (dN D0 W5 b a cap):=(HB.out.keep0 HK4.out).keep hM5.keeps HD00.out (fun _ e=>e)
 have HAP5:Hid (∀ k,F k→¬ FDs k):=fun k e q=>(hM5.grows k q).elim (HAP.out k e) (fun q=>by have:=HH.out.lt k e;have:=HK4.out.size;omega)
 have q0:W5.cell? ⟨w.heap.size,0,none⟩=some (.int .i64 b.base):=aB HBX.out 0
 obtain ⟨l0,l1,l2,l3,_,_,lt5⟩:=HX5.out.cells
 clear hD5 hM5 HSYNC HB5
 have hb0:0≤b.base:=HPH.out.ok.base.1
 have HNAME:Hid (∀ wx,Calls Tryz.prog 216 #[.agg #[.string pre,.int .i64 lim,.int .i64 ev],.int .i64 b.base] wx fun e w'=>e=.returned (.string (bB pre b.base.toNat))∧K0 wx w'):=fun wx=>by
  have:=aCu pre lim ev b.base.toNat wx HPRE.out (by have:=HPH.out.le;omega)
  rwa [Int.toNat_of_nonneg hb0] at this
 have HOPN:Hid (∀ wx,K0 W5 wx→Calls Tryz.prog 215 #[.pointer (some ⟨db,0,none⟩),.string (bB pre b.base.toNat),.int .i64 b.base,.int .i64 ev] wx fun e w'=>∃ sb L F,e=.returned (.tuple #[.pointer (some ⟨sb,0,none⟩),.int .i64 0])∧dT w' F sb db (bB pre b.base.toNat) b.base ev L∧gJ L []∧(∀ j,F j→wx.heap.size≤j)∧K0 wx w'):=fun wx k=>
  tJ (HD5.out.k0 k) _ _ _ [] ⟨fun b hb=>(by cases hb),trivial,HPH.out.evs,fun k hk=>absurd hk (Nat.not_lt_zero _),Nat.zero_le _,(by rw [nY];exact Nat.zero_le _)⟩ (HST5.out.keep0 k) (by rw [HRD.out,nY]) (.inr HNEW.out) ⟨hb0,HPH.out.le⟩ HEV.out (by rw [kG];have:=HPRE.out;omega)
 go_upto_region 9 with fail
 refine aX 18 (fun w'=>w'.cell? ⟨lb,0,none⟩=some (.string pre)∧w'.cell? ⟨lb,1,none⟩=some (.int .i64 lim)∧w'.cell? ⟨lb,2,none⟩=some (.int .i64 ev)∧w'.cell? ⟨lb,3,none⟩=some (.pointer (some ⟨db,0,none⟩))∧w'.cell? ⟨w.heap.size,0,none⟩=some (.int .i64 b.base)) (fun _=>True) aF ⟨by go_simp,by go_simp,by go_simp,by go_simp,by go_simp⟩ trivial (fun hS=>?_)
 refine tB 0 hS (fun hS=>?_)
 simp only [Act.put,Sw]
 refine tB 1 hS (fun hS=>?_)
 simp only [Act.put]
 refine tB 2 hS (fun hS=>?_)
 simp only [Act.put]
 refine tA 3 hS (fun hS=>?_)
 simp only [Act.put]
 refine tB 4 hS (fun hS=>?_)
 simp only [Act.put]
 refine tB 5 hS (fun hS=>?_)
 simp only [Act.put]
 refine tB 6 hS (fun hS=>?_)
 simp only [Act.put]
 refine tA 7 hS (fun hS=>?_)
 simp only [Act.put]
 refine tB 8 hS (fun hS=>?_)
 simp only [Act.put]
 refine tA 9 hS (fun hS=>?_)
 simp only [Act.put]
 refine tB 11 hS (fun hS=>?_)
 simp only [Act.put]
 refine tA 12 hS (fun hS=>?_)
 simp only [Act.put]
 refine tB 13 hS (fun hS=>?_)
 simp only [Act.put]
 refine tB 14 hS (fun hS=>?_)
 simp only [Act.put]
 refine tB 15 hS (fun hS=>?_)
 simp only [Act.put]
 refine tB 16 hS (fun hS=>?_)
 simp only [Act.put]
 refine tA 17 hS (fun hS=>?_)
 simp only [Act.put]
 refine tO 10 (fun K hK=>?_)
 go_simp
 refine (HNAME.out _).mono ?_
 rintro e wb ⟨rfl,kb⟩
 have kWb:K0 W5 wb:=K0.tr (aD.drew (aD.refl _ _)) kb
 clear kb
 have HKWB:=Lib.hid kWb
 go_simp
 refine hK.out _ _ ⟨fun _=>⟨by (first | assumption | exact kWb.cell' aG (fun e=>e) | go_simp),by (first | assumption | exact kWb.cell' aG (fun e=>e) | go_simp),by (first | assumption | exact kWb.cell' aG (fun e=>e) | go_simp),by (first | assumption | exact kWb.cell' aG (fun e=>e) | go_simp),by (first | assumption | exact kWb.cell' aG (fun e=>e) | go_simp)⟩,trivial⟩ (fun hS=>?_)
 clear hK K
 try simp only [Act.put,Sw]
 refine tO 18 (fun K hK=>?_)
 go_simp
 ((with_reducible refine Calls.mono (HOPN.out _ ?_) ?_);· exact HKWB.out)
 rintro e w6 ⟨sbn,L6,G,rfl,hS6,hl6,hG6,k6⟩
 have HS6:=Lib.hid hS6
 have HL6:=Lib.hid hl6
 have HG6:=Lib.hid hG6
 have HK6':=Lib.hid (K0.tr HKWB.out k6)
 clear hS6 hl6 hG6 k6
 go_simp
 refine hK.out _ _ ⟨fun e=>absurd e aE,trivial⟩ (fun hS=>?_)
 clear hK K
 try simp only [Act.put,Sw]
 refine tB 19 hS (fun hS=>?_)
 simp only [Act.put,Sw]
 refine tB 20 hS (fun hS=>?_)
 simp only [Act.put]
 refine tB 21 hS (fun hS=>?_)
 simp only [Act.put]
 refine tO 22 (fun K hK=>?_)
 go_simp
 refine hK.out _ _ ⟨fun e=>absurd e aE,trivial⟩ (fun hS=>?_)
 clear hK K
 try simp only [Act.put,Sw]
 refine tO 23 (fun K hK=>?_)
 go_simp
 refine hK.out _ _ ⟨fun e=>absurd e aE,trivial⟩ (fun hS=>?_)
 clear hK K
 try simp only [Act.put,Sw]
 refine bC aF ?_ _
 skip
 have HX6:Hid (fJ w6 F lb db pre lim ev Ss v FS):=HX5.out.keep HK6'.out (fun _ _ e=>e)
 obtain ⟨a2,c2,hv,_⟩:=HX6.out.slice
 subst hv
 have c5'':w6.cell? ⟨lb,5,none⟩=some (.slice a2 Ss.length c2):=HX6.out.cells.2.2.2.2.2.1
 have lt6:lb<w6.heap.size:=HX6.out.cells.2.2.2.2.2.2
 have HROW:Hid (w6.ownsRow 0 365 1 (.slice a2 Ss.length c2) Ss.length (Ss.map mM)):=HX6.out.row
 have HBL:Hid (w6.heap[lb]?=some (.cells #[.string pre,.int .i64 lim,.int .i64 ev,.pointer (some ⟨db,0,none⟩),.int .i64 0,.slice a2 Ss.length c2] 371 (0,0))):=HX6.out.blk
 have HNL:Hid ((Value.slice a2 Ss.length c2).ownBlock≠some lb):=HX6.out.ne1.1
 have HN:Hid (Ss.length≤1000000):=by show _≤_;have:=HF2.out;omega
 have hsl:Ss.length<1000:=HF2.out
 clear q0 l0 l1 l2 l3 lt5 hb0
 go_wp2_with (at_builtin;refine bW (v:=.slice a2 Ss.length c2) rfl rfl Tryz.underlying369 zB rfl aE rfl (HROW.out.alloc _) rfl (aI _ _ _ rfl) rfl rfl ⟨HN.out,by decide⟩ (Nat.zero_le _) ?_;intro g7 cp7 w7 hA7;have HB7:=Lib.hid (hA7.far (aL HBL.out _) HNL.out);have y5:=aB HB7.out 5;have f5:=aH HB7.out 5;have HA7:=Lib.hid hA7;clear hA7;go_upto_region 13 with fail)
 obtain ⟨WH,hWH⟩:∃ W,W=w7.setCell ⟨lb,5,none⟩ (.slice (some ⟨g7,0,none⟩) (Ss.length+1) cp7):=⟨_,rfl⟩
 rw [← hWH]
 have hz5:w4.heap.size≤W5.heap.size:=HM5.out.keeps.size
 have hz6:W5.heap.size≤w6.heap.size:=HK6'.out.size
 have hz4:w.heap.size≤w4.heap.size:=HK4.out.size
 have hGF:∀ k,G k→¬ F k:=fun k e q=>by
  have h1:=HG6.out k e
  have h2:=HKWB.out.size
  have h3:=HH.out.lt k q
  omega
 have hGD:∀ k,G k→¬ FDs k:=fun k e q=>by
  have h1:=HG6.out k e
  have h2:=HKWB.out.size
  have h3:=HD5.out.lt k q
  omega
 have hGz:∀ k,G k→w4.heap.size≤k:=fun k e=>by
  have h1:=HG6.out k e
  have h2:=HKWB.out.size
  omega
 have hpush:=aAz (s:=⟨sbn,(bB pre b.base.toNat),b.base,[]⟩) HX6.out HS6.out HL6.out hGF ((aD.refl (fun _=>False) w6).alloc _) HA7.out HF2.out
 rw [← hWH] at hpush
 have hg7:F g7∨w6.heap.size≤g7:=by
  rcases HA7.out.at_ with q | q
  ·exact .inl (HX6.out.own.2.1 _ q)
  ·right
   rw [q]
   simp
 obtain ⟨FH,HXH,HM8,HAPH⟩:∃ FH,Hid (fJ WH FH lb db pre lim ev (Ss++[⟨sbn,(bB pre b.base.toNat),b.base,[]⟩]) (.slice (some ⟨g7,0,none⟩) (Ss.length+1) cp7) (fun i k=>if i<Ss.length then FS i k else G k))∧Hid (aP F FH W5 WH)∧Hid (∀ k,FH k→¬ FDs k):=by
  refine ⟨_,hpush.1,⟨(HK6'.out.mono (fun _ _ e=>e.elim)).trans hpush.2 (fun _ _ e=>e),fun k e=>?_⟩,fun k e q=>?_⟩
  ·rcases e with e | e | rfl
   ·exact .inl e
   ·right
    have h1:=HG6.out k e
    have h2:=HKWB.out.size
    omega
   ·exact hg7.imp id (fun q=>Nat.le_trans hz6 q)
  ·rcases e with e | e | rfl
   ·exact HAP5.out k e q
   ·exact hGD k e q
   ·rcases hg7 with e | e
    ·exact HAP5.out _ e q
    ·have:=HD5.out.lt _ q
     omega
 have HDH:Hid (aU WH FDs db D5):=(HD5.out.k0 HK6'.out).keep hpush.2 (fun j e q=>HAP5.out j q e)
 have HBH:Hid (dN D0 WH b a cap):=(HB5'.out.keep0 HK6'.out).keep hpush.2 HD01.out (fun _ e=>e)
 have HSTH:Hid (bF WH):=(HST5.out.keep0 HK6'.out).keep hpush.2 HF00.out
 have HFD0:Hid (¬ FDs 0):=fun q=>(HM5.out.grows 0 q).elim HFD00.out (fun q=>by have:=HX4.out.1;omega)
 have HD0H:Hid (∀ j,D0 j→¬ FDs j):=fun j e q=>(HM5.out.grows j q).elim (HD00.out j e) (fun q=>by have:=HD02.out j e;omega)
 have HMH:Hid (aP (fun k=>F k∨FD k) (fun k=>FH k∨FDs k) w4 WH):=HM5.out.or_right.trans HM8.out.or_left
 have bx:=(hpush.2.block _ (Nat.lt_of_lt_of_le (Nat.lt_of_lt_of_le HX4.out.1 hz5) hz6) HX4.out.2.1).trans ((HK6'.out.block _ (Nat.lt_of_lt_of_le HX4.out.1 hz5) (fun e=>e)).trans HBX.out)
 have e0:WH.cell? ⟨w.heap.size,0,none⟩=some (.int .i64 b.base):=aB bx 0
 have e1:WH.cell? ⟨w.heap.size,1,none⟩=some (.int .i64 b.span):=aB bx 1
 have e2:WH.cell? ⟨w.heap.size,2,none⟩=some (.int .i64 b.prod):=aB bx 2
 have e3:WH.cell? ⟨w.heap.size,3,none⟩=some (.int .i64 b.epoch):=aB bx 3
 have e4:WH.cell? ⟨w.heap.size,4,none⟩=some (.int .i64 b.seq):=aB bx 4
 have e5':WH.cell? ⟨w.heap.size,5,none⟩=some (.slice a b.recs.length cap):=aB bx 5
 clear bx hpush hGF hGD hGz hg7 hz4 hz5 hz6 hWH y5 f5 HB7 HA7 HBX HB5' hsl c5'' lt6
 have HL2:Hid (∀ wx,K0 WH wx→Calls Tryz.prog 210 #[.pointer (some ⟨lb,0,none⟩)] wx fun e w'=>e=.returned (.pointer (some ⟨sbn,0,none⟩))∧K0 wx w'):=fun wx k=>by
  have h1:=fX (HXH.out.keep k (fun _ _ e=>e)) Ss.length aK
  rw [dV] at h1
  exact h1
 have HAPP:Hid (∀ wx,K0 WH wx→Calls Tryz.prog 217 #[.pointer (some ⟨sbn,0,none⟩),.agg #[.int .i64 b.base,.int .i64 b.span,.int .i64 b.prod,.int .i64 b.epoch,.int .i64 b.seq,.slice a b.recs.length cap]] wx fun e w'=>e=.returned (.int .i64 0)∧iN wx FH FDs lb db pre lim ev (Ss++[⟨sbn,(bB pre b.base.toNat),b.base,[]++[b]⟩]) (Dsk.cL D5 (bB pre b.base.toNat) (aZ b)) w'):=fun wx k=>
  tI (HXH.out.keep k (fun _ _ e=>e)) (HDH.out.k0 k) HAPH.out HWFH.out (HBH.out.keep0 k) HFEW.out HPH.out (HSTH.out.keep0 k) HFD0.out HD0H.out HDEH.out
 go_upto_region 13 with fail
 obtain ⟨WH',hWH⟩:∃ W',W'=WH:=⟨_,rfl⟩
 clear hWH WH'
 refine aX 3 (fun w'=>w'.cell? ⟨w.heap.size,0,none⟩=some (.int .i64 b.base)∧w'.cell? ⟨w.heap.size,1,none⟩=some (.int .i64 b.span)∧w'.cell? ⟨w.heap.size,2,none⟩=some (.int .i64 b.prod)∧w'.cell? ⟨w.heap.size,3,none⟩=some (.int .i64 b.epoch)∧w'.cell? ⟨w.heap.size,4,none⟩=some (.int .i64 b.seq)∧w'.cell? ⟨w.heap.size,5,none⟩=some (.slice a b.recs.length cap)) (fun _=>True) aF ⟨by go_simp,by go_simp,by go_simp,by go_simp,by go_simp,by go_simp⟩ trivial (fun hS=>?_)
 refine tB 0 hS (fun hS=>?_)
 simp only [Act.put,Sw]
 refine tA 2 hS (fun hS=>?_)
 simp only [Act.put]
 refine tO 1 (fun K hK=>?_)
 go_simp
 refine (HL2.out _ (aD.drew (aD.refl _ _))).mono ?_
 rintro e wa ⟨rfl,ka⟩
 have kWa:K0 WH wa:=K0.tr (aD.drew (aD.refl _ _)) ka
 clear ka
 have HKWA:=Lib.hid kWa
 go_simp
 refine hK.out _ _ ⟨fun _=>⟨by (first | assumption | exact kWa.cell' aG (fun e=>e) | go_simp),by (first | assumption | exact kWa.cell' aG (fun e=>e) | go_simp),by (first | assumption | exact kWa.cell' aG (fun e=>e) | go_simp),by (first | assumption | exact kWa.cell' aG (fun e=>e) | go_simp),by (first | assumption | exact kWa.cell' aG (fun e=>e) | go_simp),by (first | assumption | exact kWa.cell' aG (fun e=>e) | go_simp)⟩,trivial⟩ (fun hS=>?_)
 clear hK K
 try simp only [Act.put,Sw]
 refine tO 3 (fun K hK=>?_)
 go_simp
 ((with_reducible refine Calls.mono (HAPP.out _ ?_) ?_);· exact HKWA.out)
 rintro e w5 ⟨rfl,hA5⟩
 have HA5:=Lib.hid hA5
 clear hA5
 go_simp
 refine hK.out _ _ ⟨fun e=>absurd e aE,trivial⟩ (fun hS=>?_)
 clear hK K
 try simp only [Act.put,Sw]
 refine tO 4 (fun K hK=>?_)
 go_simp
 refine hK.out _ _ ⟨fun e=>absurd e aE,trivial⟩ (fun hS=>?_)
 clear hK K
 try simp only [Act.put,Sw]
 refine bC aF ?_ _
 skip
 obtain ⟨F5,FD5,p1,p2,p3,p4⟩:=HA5.out
 have HP1:=Lib.hid p1
 have HP2:=Lib.hid p2
 have HP3:=Lib.hid p3
 have hx4:=aP.apart HMH.out (G:=fun k=>k=w.heap.size) (fun k e=>e▸⟨HX4.out.1,fun q=>q.elim HX4.out.2.1 HX4.out.2.2⟩) _ rfl
 have hx4':w.heap.size<wa.heap.size∧¬ (FH w.heap.size∨FDs w.heap.size):=⟨Nat.lt_of_lt_of_le hx4.1 HKWA.out.size,hx4.2⟩
 have hx5:=aP.apart p4 (G:=fun k=>k=w.heap.size) (fun k e=>e▸hx4') _ rfl
 have e5:w5.cell? ⟨w.heap.size,0,none⟩=some (.int .i64 b.base):=p4.keeps.cell' (HKWA.out.cell' e0 (fun e=>e)) hx4'.2
 have HX5:=Lib.hid hx5
 have HM5:=Lib.hid (HMH.out.trans (aP.k0_left HKWA.out p4))
 have HL3:Hid (∀ wx,K0 w5 wx→Calls Tryz.prog 210 #[.pointer (some ⟨lb,0,none⟩)] wx fun e w'=>e=.returned (.pointer (some ⟨sbn,0,none⟩))∧K0 wx w'):=fun wx k=>by
  obtain ⟨v',FS',hx⟩:=HP1.out
  have h1:=fX (hx.keep k (fun _ _ e=>e)) Ss.length aK
  rw [dV] at h1
  exact h1
 have HSY:Hid (∀ wx,K0 w5 wx→Calls Tryz.prog 218 #[.pointer (some ⟨sbn,0,none⟩)] wx (cZ wx FD5 db (.int .i64 0) (Dsk.dJ (Dsk.cL D5 (bB pre b.base.toNat) (aZ b)) (bB pre b.base.toNat)))):=fun wx k=>by
  obtain ⟨v',FS',hx⟩:=HP1.out
  obtain ⟨L',h1,h2⟩:=hx.segs Ss.length aK
  rw [dV] at h1
  exact pA (h1.k0 k) (HP2.out.k0 k) HWFA.out HFEH.out
 clear p1 p2 p3 p4 e0 e1 e2 e3 e4 e5' hx4 hx4' hx5 HAPP HL2 HA5
 go_wp2_with fail
 refine (HL3.out _ (aD.refl _ _)).mono ?_
 rintro e w6 ⟨rfl,k6⟩
 have HK6:=Lib.hid k6
 have e6:=k6.cell' e5 (fun e=>e)
 clear k6 e5
 go_wp2_with fail
 refine (HSY.out _ HK6.out).mono ?_
 rintro e w7 ⟨rfl,FD7,h7,m7⟩
 have e7:w7.cell? ⟨w.heap.size,0,none⟩=some (.int .i64 b.base):=m7.keeps.cell' e6 (fun e=>HX5.out.2 (.inr e))
 have HFIN:Hid (iN w F FD lb db pre lim ev (Ss++[⟨sbn,(bB pre b.base.toNat),b.base,[]++[b]⟩]) (Dsk.dJ (Dsk.cL D5 (bB pre b.base.toNat) (aZ b)) (bB pre b.base.toNat)) w7):=by
  have hm:=aP.k0_left HK6.out m7
  refine ⟨F5,FD7,HP1.out.keep hm.keeps HP3.out,h7,fun k e q=>(hm.grows k q).elim (HP3.out k e) (fun q=>by have:=HP1.out.lt k e;omega),?_⟩
  exact aP.k0_left HK4.out (HM5.out.trans hm.or_right)
 clear h7 m7 e6
 go_wp2_with fail
 go_ret2
 exact ⟨rfl,sbn,HFIN.out⟩
theorem aEj (ib:Nat) (w:World):Calls Tryz.prog 372 #[.pointer (some ⟨ib,0,none⟩),.int .i64 0] w fun e w'=>e=.returned (.int .i64 0)∧K0 w w':=by
 go_enter Tryz.func372,Tryz.ntmps372
 go_wp2
 go_ret
 exact ⟨rfl,aD.refl _ _⟩
theorem aG9 {w:World} {ib sb tb bx nx:Nat} {ev o lo lp:Int} (h:iX w ib sb tb ev o lo lp) (ho:0<o∧o≤1000) (hx:w.cell? ⟨bx,0,none⟩=some (.pointer (some ⟨ib,0,none⟩))) (hn:w.cell? ⟨nx,0,none⟩=some (.int .i64 0)) :
  Calls Tryz.prog 374 #[.int .i64 0,.pointer (some ⟨bx,0,none⟩),.pointer (some ⟨nx,0,none⟩)] w fun e w'=>e=.returned (.bool true)∧K0 w w':=by
 obtain ⟨c1,c2,la,hb,hs⟩:=h.cells
 have e1:w.cell? ⟨ib,1,none⟩=some (.slice (some ⟨sb,0,none⟩) 1 c1):=aB hb 1
 have HQ:Hid (∀ wx,Calls Tryz.prog 375 #[zJ o 0] wx fun e w'=>e=.returned (.int .i64 o)∧w'=wx):=fun wx=>sZ o 0 wx aA aA
 clear h hb
 obtain ⟨xo,y0,hxo⟩:∃ x y,zJ o 0=.complex .f64 x y:=⟨_,_,rfl⟩
 have hs':w.cell? ⟨sb,0,none⟩=some (zJ o 0):=hs
 clear hs
 rw [hxo] at hs' HQ
 clear hxo
 have ho1:(0:Int)<o:=ho.1
 have ho2:decide ((0:Int)<o)=true:=decide_eq_true ho1
 go_enter Tryz.func374,Tryz.ntmps374
 go_wp2_with fail
 go_region_held3 (fun w':World=>w'.cell? ⟨bx,0,none⟩=some (.pointer (some ⟨ib,0,none⟩))∧w'.cell? ⟨nx,0,none⟩=some (.int .i64 0)∧w'.cell? ⟨ib,1,none⟩=some (.slice (some ⟨sb,0,none⟩) 1 c1)∧w'.cell? ⟨sb,0,none⟩=some (.complex .f64 xo y0)) (go_keep)
  (first | (go_at_call 375;refine (HQ.out _).mono ?_;rintro e w' ⟨rfl,rfl⟩))
 go_wp2
 go_ret
 exact ⟨rfl,(aD.refl _ _).drew⟩
theorem aFb {w:World} {bx nx:Nat} (hc:Hid (∀ wx,K0 w wx→Calls Tryz.prog 374 #[.int .i64 0,.pointer (some ⟨bx,0,none⟩),.pointer (some ⟨nx,0,none⟩)] wx fun e w'=>e=.returned (.bool true)∧K0 wx w')) :
  Calls Tryz.prog 373 #[.int .i64 1,.func (Fn.func 374) #[] #[.pointer (some ⟨bx,0,none⟩),.pointer (some ⟨nx,0,none⟩)]] w fun e w'=>e=.returned (.int .i64 0)∧K0 w w':=by
 go_enter Tryz.func373,Tryz.ntmps373
 go_wp2
 refine wp_loop_rounds 2 ?_
 rw [rounds_succ]
 go_wp2_with (go_at_call 374;refine (hc.out _ (aD.refl _ _)).mono ?_;rintro e w1 ⟨rfl,k⟩;have HK:=Lib.hid k;clear k)
 rw [rounds_succ]
 go_wp2_with fail
 go_ret
 exact ⟨rfl,HK.out⟩
theorem aJp {w:World} {ib sb tb:Nat} {ev o lo lp:Int} (h:iX w ib sb tb ev o lo lp) (ho:0<o∧o≤1000):Calls Tryz.prog 334 #[.pointer (some ⟨ib,0,none⟩),.int .i64 0] w fun e w'=>e=.returned (.int .i64 0)∧K0 w w':=by
 obtain ⟨c1,c2,la,hb,hs⟩:=h.cells
 have hib:=aC hb
 have K1:K0 w ((w.alloc (.cells #[.pointer (some ⟨ib,0,none⟩)] 424)).alloc (.cells #[.int .i64 0] 3)):=((aD.refl _ _).alloc _).alloc _
 have HS:Hid (∀ wx,K0 ((w.alloc (.cells #[.pointer (some ⟨ib,0,none⟩)] 424)).alloc (.cells #[.int .i64 0] 3)) wx→Calls Tryz.prog 373 #[.int .i64 1,.func (Fn.func 374) #[] #[.pointer (some ⟨w.heap.size,0,none⟩),.pointer (some ⟨w.heap.size+1,0,none⟩)]] wx fun e w'=>e=.returned (.int .i64 0)∧K0 wx w'):=fun wx k=>
  aFb fun wy ky=>aG9 (h.keep0 ((K1.tr k).tr ky)) ho ((k.tr ky).cell' (aB (aL (aI w _ _ rfl) _) 0) (fun e=>e)) ((k.tr ky).cell' (aB (aI _ _ _ aK) 0) (fun e=>e))
 have HA:Hid (∀ wx,K0 ((w.alloc (.cells #[.pointer (some ⟨ib,0,none⟩)] 424)).alloc (.cells #[.int .i64 0] 3)) wx→Calls Tryz.prog 372 #[.pointer (some ⟨ib,0,none⟩),.int .i64 0] wx fun e w'=>e=.returned (.int .i64 0)∧K0 wx w'):=fun wx k=>aEj ib wx
 have e1:w.cell? ⟨ib,1,none⟩=some (.slice (some ⟨sb,0,none⟩) 1 c1):=aB hb 1
 have HK1:=Lib.hid K1
 have hn1:ib≠w.heap.size:=aA
 have hn2:ib≠w.heap.size+1:=aA
 have hl1:ib<w.heap.size+1:=aA
 clear h hb hs K1
 go_enter Tryz.func334,Tryz.ntmps334
 go_wp2_with fail
 obtain ⟨W,hW⟩:∃ W,W=((w.alloc (.cells #[.pointer (some ⟨ib,0,none⟩)] 424)).alloc (.cells #[.int .i64 0] 3)):=⟨_,rfl⟩
 have q0:W.cell? ⟨w.heap.size,0,none⟩=some (.pointer (some ⟨ib,0,none⟩)):=(by rw [hW];exact aB (aL (aI w _ _ rfl) _) 0)
 have q1:W.cell? ⟨ib,1,none⟩=some (.slice (some ⟨sb,0,none⟩) 1 c1):=(by rw [hW];exact HK1.out.cell' e1 (fun e=>e))
 rw [← hW] at HS HA HK1 ⊢
 clear hW e1
 go_region_held3 (fun w':World=>K0 W w'∧w'.cell? ⟨w.heap.size,0,none⟩=some (.pointer (some ⟨ib,0,none⟩))∧w'.cell? ⟨ib,1,none⟩=some (.slice (some ⟨sb,0,none⟩) 1 c1))
  (first | exact ⟨(aD.refl _ _).drew,by first | assumption | go_simp,by first | assumption | go_simp⟩ | (go_split_ands;exact ⟨K0.tr aG kk,kk.cell' aG (fun e=>e),kk.cell' aG (fun e=>e)⟩))
  (first
   | (go_at_call 373;go_split_ands;refine (HS.out _ aG).mono ?_;rintro e w' ⟨rfl,kk⟩)
   | (go_at_call 372;go_split_ands;refine (HA.out _ (by assumption)).mono ?_;rintro e w' ⟨rfl,kk⟩))
 go_wp2
 go_ret
 go_split_ands
 exact ⟨rfl,K0.tr HK1.out aG⟩
theorem xW (k:cK) (w:World) (h:k.pos≤1000000) :
  Calls Tryz.prog 371 #[.agg #[.int .i64 k.b.base,.int .i64 k.b.span,.int .i64 k.b.prod,.int .i64 k.b.epoch,.int .i64 k.b.seq,.slice k.a k.b.recs.length k.cap,.int .i64 k.pos,.int .i64 k.size],.int .i64 0] w fun e w'=>e=.returned (.int .i64 k.pos)∧K0 w w':=by
 go_enter Tryz.func371,Tryz.ntmps371
 go_wp2
 go_ret
 exact ⟨rfl,(aD.refl _ _).alloc _⟩
def aMb (w:World) (g:Nat) (L:List cK):Prop:=∀ i (h:i<L.length),∀ j,j<8→w.cell? ⟨g,i*8+j,none⟩=(qK L[i])[j]?
theorem aMb.k0 {w w':World} {g:Nat} {L:List cK} (h:aMb w g L) (k:K0 w w'):aMb w' g L:=fun i hi j hj=>by
 have h1:=h i hi j hj
 have:j<(qK L[i]).length:=by rw [aGu];exact hj
 rw [List.getElem?_eq_getElem this] at h1 ⊢
 exact k.cell' h1 (fun e=>e)
theorem aD3 {w:World} {g cap:Nat} {L:List cK} (hr:aMb w g L) (hl:0<L.length) (hf:L.length≤1000) (hp:∀ k∈L,k.pos≤1000000) :
  Calls Tryz.prog 370 #[.slice (some ⟨g,0,none⟩) L.length cap,.int .i64 0,.func (Fn.func 371) #[] #[]] w fun e w'=>(∃ bb,e=.returned (.tuple #[.int .i64 0,.bool bb]))∧K0 w w':=by
 have HR:=Lib.hid hr
 have HP:=Lib.hid hp
 clear hr hp
 go_enter Tryz.func370,Tryz.ntmps370
 go_wp2_with fail
 go_loopg [9,10] L.length (fun kx s9 s10 wr=>∃ j:Nat,s9=.int .i64 0∧s10=.int .i64 j∧j≤L.length∧j≤kx∧Hid (K0 w wr))
 case atStart=>exact ⟨L.length,rfl,rfl,Nat.le_refl _,Nat.le_refl _,(aD.refl _ _:K0 w w)⟩
 case round=>
  obtain ⟨j,rfl,rfl,hjl,hjk,HK⟩:=hrel
  by_cases hj:0<j
  ·have hj2:(0:Int)<j:=by omega
   obtain ⟨h,hh⟩:∃ h,h=j / 2:=⟨_,rfl⟩
   have hhi:((j:Int)) / 2=h:=aA
   have hlt:h<L.length:=aA
   have hlt2:(h:Int)<L.length:=aA
   have hrow:=(HR.out.k0 HK.out) h hlt
   have c0:=hrow 0 aA
   have c1:=hrow 1 aA
   have c2:=hrow 2 aA
   have c3:=hrow 3 aA
   have c4:=hrow 4 aA
   have c5:=hrow 5 aA
   have c6:=hrow 6 aA
   have c7:=hrow 7 aA
   have hpos:=HP.out _ (List.getElem_mem hlt)
   simp only [qK,List.getElem?_cons_zero,List.getElem?_cons_succ,Nat.add_zero] at c0 c1 c2 c3 c4 c5 c6 c7
   have HC:Hid (∀ wx,Calls Tryz.prog 371 #[.agg #[.int .i64 L[h].b.base,.int .i64 L[h].b.span,.int .i64 L[h].b.prod,.int .i64 L[h].b.epoch,.int .i64 L[h].b.seq,.slice L[h].a L[h].b.recs.length L[h].cap,.int .i64 L[h].pos,.int .i64 L[h].size],.int .i64 0] wx fun e w'=>e=.returned (.int .i64 L[h].pos)∧K0 wx w'):=fun wx=>xW _ wx hpos
   have HH:=Lib.hid hh
   generalize L[h]=q at c0 c1 c2 c3 c4 c5 c6 c7 hpos HC
   clear hh hrow
   have jn:¬ ((q.pos:Nat):Int)<0:=aA
   go_wp2_with fail
   refine (HC.out _).mono ?_
   rintro e w2 ⟨rfl,k2⟩
   have HK2:Hid (K0 w w2):=K0.tr HK.out k2
   clear k2 c0 c1 c2 c3 c4 c5 c6 c7 hpos
   go_wp2_with fail
   go_roundg h
   case measure=>have:=HH.out;omega
   case rel=>exact ⟨h,rfl,rfl,by omega,by omega,HK2⟩
  ·obtain rfl:j=0:=by omega
   have hlt2:(0:Int)<L.length:=aA
   have hrow:=(HR.out.k0 HK.out) 0 hl
   have c0:=hrow 0 aA
   have c1:=hrow 1 aA
   have c2:=hrow 2 aA
   have c3:=hrow 3 aA
   have c4:=hrow 4 aA
   have c5:=hrow 5 aA
   have c6:=hrow 6 aA
   have c7:=hrow 7 aA
   simp only [qK,List.getElem?_cons_zero,List.getElem?_cons_succ,Nat.add_zero,Nat.zero_mul,Nat.zero_add] at c0 c1 c2 c3 c4 c5 c6 c7
   have hpos:=HP.out _ (List.getElem_mem hl)
   have HC:Hid (∀ wx,Calls Tryz.prog 371 #[.agg #[.int .i64 L[0].b.base,.int .i64 L[0].b.span,.int .i64 L[0].b.prod,.int .i64 L[0].b.epoch,.int .i64 L[0].b.seq,.slice L[0].a L[0].b.recs.length L[0].cap,.int .i64 L[0].pos,.int .i64 L[0].size],.int .i64 0] wx fun e w'=>e=.returned (.int .i64 L[0].pos)∧K0 wx w'):=fun wx=>xW L[0] wx hpos
   have d1:decide ((0:Int)<L.length)=true:=decide_eq_true hlt2
   clear hrow
   generalize L[0]=q at c0 c1 c2 c3 c4 c5 c6 c7 HC hpos
   go_wp2_with fail
   refine (HC.out _).mono ?_
   rintro e w2 ⟨rfl,k2⟩
   have HK2:Hid (K0 w w2):=K0.tr HK.out k2
   clear k2 c0 c1 c2 c3 c4 c5 c6 c7
   go_wp2_with fail
   go_ret2
   exact ⟨⟨_,rfl⟩,HK2.out⟩
theorem fR {α:Type} (f:α→List Value) (n:Nat) (hf:∀ a,(f a).length=n):∀ (L:List α) (i:Nat) (hi:i<L.length) (j:Nat),j<n→(L.flatMap f)[i*n+j]?=(f L[i])[j]?
 | a::r,0,hi,j,hj=>by
  rw [List.flatMap_cons,List.getElem?_append_left (by rw [hf];omega)]
  simp
 | a::r,i+1,hi,j,hj=>by
  rw [List.flatMap_cons,List.getElem?_append_right (by rw [hf,Nat.succ_mul];omega),hf,show (i+1)*n+j - n=i*n+j by rw [Nat.succ_mul];omega]
  exact fR f n hf r i (by simpa using hi) j hj
theorem aLt {w:World} {v:Value} {L:List cK} {g cap:Nat} (h:w.ownsRow 0 475 8 v L.length (L.flatMap qK)) (hv:v=.slice (some ⟨g,0,none⟩) L.length cap):aMb w g L:=fun i hi j hj=>by
 subst hv
 have hc:=h.cellAt (i*8+j) aA
 rw [hc]
 exact fR qK 8 (fun k=>aGu k) L i hi j hj
theorem aIe {w:World} {F:Nat→Prop} {sb db:Nat} {nm:ByteArray} {base ev:Int} {L:List cK} (h:dT w F sb db nm base ev L) (hl:0<L.length) (hf:L.length≤1000) :
  Calls Tryz.prog 333 #[.pointer (some ⟨sb,0,none⟩),.int .i64 0] w fun e w'=>e=.returned (.int .i64 0)∧K0 w w':=by
 obtain ⟨ib,v,D,FI,hx⟩:=h
 obtain ⟨g,cap,rfl⟩:∃ g cap,v=.slice (some ⟨g,0,none⟩) L.length cap:=by
  rcases hx.row.2 with ⟨h1,h2⟩ | ⟨g,cap,cur,rfl,_⟩
  ·omega
  ·exact ⟨g,cap,rfl⟩
 have HB:Hid (∀ wx,K0 w wx→Calls Tryz.prog 370 #[.slice (some ⟨g,0,none⟩) L.length cap,.int .i64 0,.func (Fn.func 371) #[] #[]] wx fun e w'=>(∃ bb,e=.returned (.tuple #[.int .i64 0,.bool bb]))∧K0 wx w'):=fun wx k=>
  aD3 ((aLt hx.row rfl).k0 k) hl hf (fun k e=>by have:=hx.small k e;omega)
 have c5:w.cell? ⟨sb,5,none⟩=some (.slice (some ⟨g,0,none⟩) L.length cap):=aB hx.blk 5
 have lt:=aC hx.blk
 clear hx
 go_enter Tryz.func333,Tryz.ntmps333
 go_wp2_with fail
 refine (HB.out _ (aD.refl _ _)).mono ?_
 rintro e w1 ⟨⟨bb,rfl⟩,k1⟩
 have HK:=Lib.hid k1
 clear k1
 go_wp2_with fail
 go_ret
 exact ⟨rfl,HK.out⟩
end Go.Proofs.YteapahcklcldkaaGreatDoor
