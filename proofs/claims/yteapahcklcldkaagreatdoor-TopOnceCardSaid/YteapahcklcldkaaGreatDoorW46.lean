/-
  The statement is proved: all that it reaches, in parts.
-/
import Derived.Test.YteapahcklcldkaaGreatDoorW45
set_option maxRecDepth 100000
set_option maxHeartbeats 16000000
namespace Go.Proofs.YteapahcklcldkaaGreatDoor
open Go.RowKit Fx
theorem aLr {w wr:World} {b off:Nat} {l:List Int} (h:aCi 1 aH0 w b off l) (hk:K0 w wr) (k:Nat) (hlt:k<l.length):wr.cell? ⟨b,off+k,none⟩=some (.int .i64 l[k])∧b<wr.heap.size:=by
 obtain ⟨cs,hc,hj,hr⟩:=h k hlt
 have hr:cs=[.int .i64 l[k]]:=hr.1
 subst hr
 have hj0:=hj 0 aA
 rw [Nat.mul_one,Nat.add_zero] at hj0
 have hb:b<w.heap.size:=World.block_lt_of_cell? w _ hj0
 exact ⟨hk.cell' hj0 (fun e=>e),Nat.lt_of_lt_of_le hb hk.size⟩
theorem aQ4:sJ 0 (iK 400000 oU) oU []:=
 ⟨rfl,rfl,rfl,aA1 aE (by rw [kT];decide),by show (oU.size:Int)≤_;rw [kT];decide⟩
theorem aNv {bb stb db:Nat} {w:World} {FQ:Nat→Prop} (h:xA bb stb (vN stb db 60 (iK 400000 oU) [] []) w FQ):yG db bb 0 [] 0 w FQ:=⟨stb,_,[],h,aQ4,OnL.nil,rfl,Nat.le_refl _,rfl⟩
theorem aTn (w:World) (hst:bF w) (h0:0<w.heap.size):∀ wx,K0 w wx→Calls Tryz.prog 34 #[.agg (mU 1 1 false bZ none 0).cells.toList.toArray] wx fun e w'=>e=.returned (.tuple #[.string (bR (lC (mU 1 1 false bZ none 0))),.int .i64 0])∧K0 wx w':=fun wx k=>by
 have hrd:jJ (mU 1 1 false bZ none 0):=nA aE aE (by rw [kM];decide)
 exact aEd (D:=fun _=>False) hrd (by show (gY bZ).size≤_;rw [kM];decide) (.inl aE) (fun _ e=>e.elim) (hst.keep0 k) (Nat.lt_of_lt_of_le h0 k.size)
theorem aQ7 (w:World) (a0:Option Addr) (cap0:Nat) (l0:List Int) (a1:Option Addr) (cap1:Nat) (l1:List Int) (c:Int) (s0:rS 1 aH0 w a0 cap0 l0) (s1:rS 1 aH0 w a1 cap1 l1) (hst:bF w) (h0:0<w.heap.size) :
  Calls Tryz.prog 5 #[.agg #[.slice a0 l0.length cap0,.slice a1 l1.length cap1,.int .i64 c]] w fun e w'=>e=.returned (.bool true)∧K0 w w':=by
 have hm0:=s0.len
 have hm1:=s1.len
 have HST:=Lib.hid hst
 have H0:=Lib.hid h0
 have HWK:Hid (∀ wx,K0 w wx→Calls Tryz.prog 7 #[] wx fun e w'=>e=.returned (.bool true)∧K0 wx w'):=fun wx k=>aO1 wx (hst.keep0 k) (Nat.lt_of_lt_of_le h0 k.size)
 have HS0:=Lib.hid s0
 have HS1:=Lib.hid s1
 clear s0 s1 hst h0
 by_cases g0:12<(l0.length:Int)
 ·go_enter Tryz.func5,Tryz.ntmps5
  go_wp2_with fail
  refine (HWK.out _ ((aD.refl _ _).alloc _)).mono ?_
  rintro e w2 ⟨rfl,k2⟩
  go_wp2
  go_ret
  exact ⟨rfl,K0.tr ((aD.refl (fun _=>False) w).alloc _) k2⟩
 ·have HL:Hid (l0.length≤12):=by show _≤_;omega
  have HDN:=Lib.hid (fun wx=>Dsk.aGs 400000 wx aE)
  go_enter Tryz.func5,Tryz.ntmps5
  go_wp2_with fail
  refine (HDN.out _).mono ?_
  rintro e w1 ⟨db,rfl,hd⟩
  obtain ⟨FD,hd1,hF⟩:=aU.of hd
  have k1:K0 (w.alloc (.cells #[.slice a0 l0.length cap0,.slice a1 l1.length cap1,.int .i64 c] 83)) w1:=hd.k0.mono (fun _ _ e=>e trivial)
  have ha1:w1.heap[w.heap.size]?=some (.cells #[.slice a0 l0.length cap0,.slice a1 l1.length cap1,.int .i64 c] 83 (0,0)):=(k1.block _ aK (fun e=>e)).trans (aI w _ _ rfl)
  have HFN:Hid (∀ k,FD k→w.heap.size<k∧k<w1.heap.size):=fun k e=>by
   have h1:=hF k e
   refine ⟨?_,hd1.lt k e⟩
   rcases Nat.lt_or_ge w.heap.size k with h | h
   ·exact h
   ·exact absurd ⟨by simp;omega,trivial⟩ h1
  have HK1:Hid (K0 w w1):=K0.tr ((aD.refl (fun _=>False) w).alloc _) k1
  have HA1:=Lib.hid ha1
  have HD1:=Lib.hid hd1
  clear hd hd1 hF k1 ha1 HDN
  obtain ⟨W,hW⟩:∃ W,W=w1.alloc (.cells #[.int .i64 10,.int .i64 10,.int .i64 60] 56):=⟨_,rfl⟩
  have kW:K0 w1 W:=(by rw [hW];exact (aD.refl _ _).alloc _)
  have hc:W.heap[w1.heap.size]?=some (.cells #[.int .i64 10,.int .i64 10,.int .i64 60] 56 (0,0)):=(by rw [hW];exact aI _ _ _ rfl)
  have y0:=aB hc 0
  have y1:=aB hc 1
  have y2:=aB hc 2
  have yl:=aC hc
  have HC:=Lib.hid hc
  have HKW:=Lib.hid kW
  have HO:Hid (Calls Tryz.prog 27 #[.pointer (some ⟨db,0,none⟩),.agg #[.int .i64 10,.int .i64 10,.int .i64 60]] W fun e w'=>∃ bb stb FQ,e=.returned (.tuple #[.pointer (some ⟨bb,0,none⟩),.int .i64 0])∧xA bb stb (StN stb db 60 (Dsk.jS 400000)) w' FQ∧aP FD FQ W w'):=
   xF (HD1.out.k0 kW) aE aE aE aE ((HST.out.keep0 HK1.out).keep0 kW) (fun e=>by have:=(HFN.out _ e).1;omega)
  clear hc kW
  go_upto_region 5 with fail
  rw [← hW]
  clear hW
  go_wp2_with fail
  refine HO.out.mono ?_
  rintro e w2 ⟨bb,stb,FQ,rfl,hq,hm⟩
  have HQ:=Lib.hid hq
  have hg5:=hm.guest (aC HC.out) (fun e=>by have:=(HFN.out _ e).2;omega)
  have hz1:=HK1.out.size
  have hzW:=HKW.out.size
  have hA:W.heap[w.heap.size]?=some (.cells #[.slice a0 l0.length cap0,.slice a1 l1.length cap1,.int .i64 c] 83 (0,0)):=(HKW.out.block _ (aC HA1.out) (fun e=>e)).trans HA1.out
  have hg1:=hm.guest (aC hA) (fun e=>by have:=(HFN.out _ e).1;omega)
  have HC2:Hid (w2.heap[w1.heap.size]?=some (.cells #[.int .i64 10,.int .i64 10,.int .i64 60] 56 (0,0))):=hg5.2.trans HC.out
  have HA2:Hid (w2.heap[w.heap.size]?=some (.cells #[.slice a0 l0.length cap0,.slice a1 l1.length cap1,.int .i64 c] 83 (0,0))):=hg1.2.trans hA
  have HNF:Hid (¬ FQ w.heap.size∧¬ FQ w1.heap.size):=⟨hg1.1,hg5.1⟩
  have HNEW:Hid (∀ j,FQ j→w.heap.size<j):=fun j e=>by
   rcases hm.grows j e with e | e
   ·exact (HFN.out j e).1
   ·have:=aC hA;omega
  have HK2:Hid (K0 w w2):=(K0.tr HK1.out HKW.out).trans hm.keeps (fun j hj e=>by have:=(HFN.out j e).1;omega)
  clear hq hm hg5 hz1 hzW hA hg1 y0 y1 y2 yl
  have h0:=H0.out
  have HCR:Hid (Calls Tryz.prog 28 #[.pointer (some ⟨bb,0,none⟩),(mU 1 1 false bZ none 0).val,.int .i64 1] w2 fun e w'=>e=.returned (.agg (bY 0 0 0 0 0 0 0 (.slice none 0 0)))∧∃ FQ',xA bb stb (vN stb db 60 (iK 400000 oU) [] []) w' FQ'∧aP FQ FQ' w2 w'):=
   aCr (cs:=(mU 1 1 false bZ none 0).cells.toList) aE aE HQ.out rfl rfl rfl rfl (HST.out.keep0 HK2.out) (fun e=>by have:=HNEW.out _ e;omega) (aTn w2 (HST.out.keep0 HK2.out) (by have:=HK2.out.size;omega))
  clear h0
  go_wp2_with fail
  refine (aGt HCR.out).mono ?_
  rintro e w3 ⟨vs3,rfl,_,FQ3,hq3,hm3⟩
  have g1:=hm3.guest (aC HA2.out) HNF.out.1
  have g5:=hm3.guest (aC HC2.out) HNF.out.2
  have hs1:=HK1.out.size
  have hla:=aC HA1.out
  have HR0:Hid (pN w db w.heap.size w1.heap.size (.slice a0 l0.length cap0) (.slice a1 l1.length cap1) c w3 bb 0 0 [] 0 [] FQ3 (.slice none 0 0)):=
   ⟨aNv hq3,Nat.le_refl _,OnP.init,World.ownsRow_nil w3 _ _ _,fun j e=>(by cases e),fun j e=>⟨by
    rcases hm3.grows j e with e | e
    ·exact Nat.le_of_lt (HNEW.out j e)
    ·exact Nat.le_trans HK2.out.size e,fun q=>g1.1 (q▸e),fun q=>g5.1 (q▸e)⟩,HK2.out.trans hm3.keeps (fun j hj e=>by have:=HNEW.out j e;omega),g1.2.trans HA2.out,g5.2.trans HC2.out⟩
  have HT:Hid (w.heap.size<w1.heap.size):=hla
  clear hq3 hm3 g1 g5 hs1 hla
  obtain ⟨t5,ht5⟩:∃ t5,t5=w1.heap.size:=⟨_,rfl⟩
  rw [← ht5] at HR0 HT ⊢
  clear ht5 HK1 HA1 HD1 HFN HC HKW HO HQ HC2 HA2 HNF HNEW HK2 HCR
  go_wp2_with fail
  go_loopw [6,8,9,10] (fun bv qv nv i wr=>∃ (k n bb:Nat) (q:Int) (Bs:List aR) (FQ:Nat→Prop) (na:Option Addr) (nc:Nat),bv=.pointer (some ⟨bb,0,none⟩)∧qv=.int .i64 q∧nv=.slice na Bs.length nc∧i=.int .i64 k∧k≤l0.length∧pN w db w.heap.size t5 (.slice a0 l0.length cap0) (.slice a1 l1.length cap1) c wr bb n k Bs q Bs FQ (.slice na Bs.length nc)) (fun _ _ _ i _=>l0.length - (intOf i).toNat)
  case atStart=>exact ⟨0,0,bb,0,[],FQ3,none,0,rfl,rfl,rfl,rfl,Nat.zero_le _,HR0.out⟩
  case round=>
   obtain ⟨k,n,bb,q,Bs,FQ,na,nc,rfl,rfl,rfl,rfl,hk,hr⟩:=hrel
   clear HR0
   have hsz:=HST.out
   by_cases hlt:k<l0.length
   ·obtain ⟨b,off,rfl,hrow⟩:=HS0.out.row hlt
    obtain ⟨x0,hbl⟩:=aLr hrow hr.k0 k hlt
    generalize l0[k]=sp at x0
    have HR:=Lib.hid hr
    have HK12:Hid (k<12):=by have:=HL.out;show k<12;omega
    have i0:(0:Int)≤k:=aA
    have i1:(k:Int)<l0.length:=aA
    have c0:=aB hr.arg 0
    have c1:=aB hr.arg 1
    have c2:=aB hr.arg 2
    have cl:=aC hr.arg
    clear hr hrow
    by_cases q1:sp<1
    ·go_wp2
     go_roundw
     case rel=>exact ⟨k+1,n,bb,q,Bs,FQ,na,nc,rfl,rfl,rfl,by go_num,by omega,HR.out.skip⟩
     case measure=>simp [intOf];omega
    ·by_cases q2:50<sp
     ·go_wp2
      go_roundw
      case rel=>exact ⟨k+1,n,bb,q,Bs,FQ,na,nc,rfl,rfl,rfl,by go_num,by omega,HR.out.skip⟩
      case measure=>simp [intOf];omega
     ·have HSP:Hid (1≤sp∧sp≤50):=⟨by omega,by omega⟩
      have hq0:0≤q∧q≤550:=by
       have h1:=HR.out.pl.chain.seqR
       have h2:=HK12.out
       omega
      have HQR:=Lib.hid hq0
      have HSP0:=HSP.out
      have hw1:IntKind.i64.wrap (q+sp)=q+sp:=IntWalk.i64_in _ aA
      have hbn:Bs.length≤12:=by have:=HR.out.pl.chain.len;rw [List.length_map] at this;have:=HK12.out;omega
      have hown0:=HR.out.row
      have hn0:=H0.out
      have hsw:=HR.out.k0.size
      clear hsz
      obtain ⟨Wa,hWa⟩:∃ Wa,Wa=wr.alloc (.cells #[.int .i64 0,.int .i64 sp,.int .i64 3,.int .i64 2,.int .i64 q,.slice none 0 0] 39):=⟨_,rfl⟩
      have kWa:K0 wr Wa:=by rw [hWa];exact (aD.refl _ _).alloc _
      have hta:Wa.heap[wr.heap.size]?=some (.cells #[.int .i64 0,.int .i64 sp,.int .i64 3,.int .i64 2,.int .i64 q,.slice none 0 0] 39 (0,0)):=by rw [hWa];exact aI _ _ _ rfl
      have hsa:Wa.heap.size=wr.heap.size+1:=by rw [hWa];simp
      have HRA:=Lib.hid (HR.out.keep0 kWa)
      have HTA:=Lib.hid hta
      have HOWN:Hid ((Wa.alloc (.cells #[.int .i64 0,.int .i64 sp,.int .i64 3,.int .i64 2,.int .i64 q,.slice none 0 0] 39)).ownsRow w.heap.size 39 6 (.slice na Bs.length nc) Bs.length (sE Bs)):=(wN kWa hown0 (fun _ _ e=>e)).alloc _
      have HZA:Hid (w.heap.size≤wr.heap.size):=hsw
      have t0:=aB hta 0
      have t1:=aB hta 1
      have t2:=aB hta 2
      have t3:=aB hta 3
      have t4:=aB hta 4
      have t5':=aB hta 5
      have tl:=aC hta
      have HSA:=Lib.hid hsa
      have HNB:Hid (∀ j,(Value.slice na Bs.length nc).ownBlock=some j→j<wr.heap.size):=fun j e=>(hown0.lt j e).2
      have HFL:Hid (¬ FQ wr.heap.size):=fun e=>by have:=(kZ db bb n Bs q).lt HR.out.once _ e;omega
      have HBN:=Lib.hid hbn
      clear kWa hta hown0 hsw hn0 HSP0 hq0 hsa hbn HR
      go_upto_region 17 with fail
      rw [← hWa]
      clear hWa
      go_upto_region 18 with (at_builtin;refine bW (v:=.slice na Bs.length nc) rfl rfl Tryz.underlying30 uR rfl aE rfl HOWN.out rfl (aI _ _ _ rfl) rfl rfl ⟨by have:=HBN.out;omega,by decide⟩ (by have:=HZA.out;have:=HSA.out;simp;omega) ?_;intro g2 cap2 w5 hA5;have HA5:=Lib.hid hA5;clear hA5)
      have hR5:=(HRA.out.keep0 ((aD.refl (fun _=>False) Wa).alloc (.cells #[.int .i64 0,.int .i64 sp,.int .i64 3,.int .i64 2,.int .i64 q,.slice none 0 0] 39))).app (b:=onB q sp) HA5.out H0.out
      have hT5:=HA5.out.far (aL HTA.out (.cells #[.int .i64 0,.int .i64 sp,.int .i64 3,.int .i64 2,.int .i64 q,.slice none 0 0] 39)) (fun e=>Nat.lt_irrefl _ (HNB.out _ e))
      obtain ⟨tb,htb⟩:∃ tb,tb=wr.heap.size:=⟨_,rfl⟩
      rw [← htb] at hT5 HFL ⊢
      have hst5:=HST.out.keep0 hR5.k0
      have hz5:¬ FQ 0:=fun e=>by have:=(hR5.new _ e).1;have:=H0.out;omega
      have hlt5:=(kZ db bb n Bs q).lt hR5.once
      have HPUT:=Lib.hid (aGt (aQ9 hR5.once HQR.out HSP.out (by have:=hR5.nk;have:=HK12.out;omega) hst5 hz5 (hR5.pl.new HSP.out (by have:=HK12.out;omega))))
      have d0:=aB hT5 0
      have d1:=aB hT5 1
      have d2:=aB hT5 2
      have d3:=aB hT5 3
      have d4:=aB hT5 4
      have d5:=aB hT5 5
      have dl:=aC hT5
      have HR5:=Lib.hid hR5
      have HT5:=Lib.hid hT5
      clear hR5 hT5 hst5 hz5 hlt5 t0 t1 t2 t3 t4 t5' tl HRA HTA HOWN HZA HSA HNB HA5 c0 c1 c2 cl x0 hbl htb
      go_wp2_with fail
      refine HPUT.out.mono ?_
      rintro e w6 ⟨vs6,rfl,hv6,FQ6,ho6,hm6⟩
      have g6:=hm6.guest (aC HT5.out) HFL.out
      have hp6:=HR5.out.pl.add HSP.out HK12.out
      have hR6:=HR5.out.move ho6 hm6 (Nat.succ_le_succ HR5.out.nk) hp6
      obtain ⟨j1,j2,j3,j4⟩:=iV w6 hv6.len
      obtain ⟨W6,hW6⟩:∃ W6,W6=(w6.alloc (.cells #[.int .i64 0,.int .i64 0,.int .i64 0,.int .i64 0,.int .i64 0,.int .i64 0,.int .i64 0,.slice none 0 0,.slice none 0 0,.slice none 0 0] 33)).setCells w6.heap.size 0 vs6:=⟨_,rfl⟩
      rw [← hW6] at j1 j2
      have HV6:=Lib.hid hv6
      have HSZ6:=Lib.hid j4
      have HTH6:=Lib.hid j3
      have hR6':=hR6.keep0 j2
      have hT6:=(j2.block _ (aC (g6.2.trans HT5.out)) (fun e=>e)).trans (g6.2.trans HT5.out)
      have HFL6:Hid (¬ FQ6 tb):=g6.1
      obtain ⟨_,_,r0,r1,_,_,rl⟩:=hv6.block j1
      have e4:W6.cell? ⟨tb,4,none⟩=some (.int .i64 q):=aB hT6 4
      have tl6:=aC hT6
      have HR6:=Lib.hid hR6'
      have HT6:=Lib.hid hT6
      clear hR6 hR6' hT6 hm6 ho6 g6 hp6 hv6 j1 j2 j3 j4 d0 d1 d2 d3 d4 d5 dl HPUT HR5 HT5 HFL
      go_upto_region 19 with (first
       | (refine wpList_store_mid rfl 33 (.tmp 12) (.tmp 85) rfl w6.heap.size 0 vs6.toArray rfl rfl HTH6.out HSZ6.out HV6.out.one ?_)
       | fail)
      rw [← hW6]
      clear hW6
      have c2:=aB HR6.out.arg 2
      have cl:=aC HR6.out.arg
      go_upto_if 99 with fail
      go_cut [6] (fun bv wx=>∃ (n' bb':Nat) (FQ':Nat→Prop),bv=.pointer (some ⟨bb',0,none⟩)∧pN w db w.heap.size t5 (.slice (some ⟨b,off,none⟩) l0.length cap0) (.slice a1 l1.length cap1) c wx bb' n' (k+1) (Bs++[onB q sp]) (q+sp) (Bs++[onB q sp]) FQ' (.slice (some ⟨g2,0,none⟩) (Bs.length+1) cap2)∧wx.heap[tb]?=some (.cells #[.int .i64 0,.int .i64 sp,.int .i64 3,.int .i64 2,.int .i64 q,.slice none 0 0] 39 (0,0))∧¬ FQ' tb)
      case first=>
       have HNK:Hid (n+1≤100):=by have:=HR6.out.nk;have:=HK12.out;show _≤_;omega
       by_cases hkc:(k:Int)=c
       ·subst hkc
        have hst6:=HST.out.keep0 HR6.out.k0
        have HCRA:=Lib.hid (aJ1 HR6.out.once HNK.out)
        have hcf:=HR6.out.conf
        have HZ6:Hid (¬ FQ6 0):=fun e=>by have:=(HR6.out.new _ e).1;have:=H0.out;omega
        have HS6:=Lib.hid hst6
        clear hst6 hcf r0 r1 rl e4 tl6 c2 cl
        go_wp2_with fail
        refine HCRA.out.mono ?_
        rintro e w7 ⟨rfl,FD7,hd7,hm7⟩
        have g5:=hm7.guest (aC HR6.out.conf) (fun e=>(HR6.out.new _ e).2.2 rfl)
        have hc7:=g5.2.trans HR6.out.conf
        have z0:=aB hc7 0
        have z1:=aB hc7 1
        have z2:=aB hc7 2
        have zl:=aC hc7
        have h07:¬ FD7 0:=(hm7.guest (b:=0) (by have:=H0.out;have:=HR6.out.k0.size;omega) HZ6.out).1
        have HOP:=Lib.hid (aNw hd7 HNK.out (HS6.out.keep hm7.keeps HZ6.out) h07)
        have HM7:=Lib.hid hm7
        clear g5 hc7 h07 hd7 hm7 HCRA
        go_wp2_with fail
        refine HOP.out.mono ?_
        rintro e w8 ⟨bb8,FQ8,rfl,ho8,hm8⟩
        have hmm:=HM7.out.trans hm8
        have g8:=hmm.guest (aC HT6.out) HFL6.out
        have HR8:=Lib.hid (HR6.out.moved ho8 hmm)
        have HT8:=Lib.hid (g8.2.trans HT6.out)
        have HG8:=Lib.hid g8.1
        clear hmm g8 ho8 hm8 z0 z1 z2 zl
        go_wp2_with fail
        go_meet
        case rel=>exact ⟨n+1,bb8,FQ8,rfl,HR8.out,HT8.out,HG8.out⟩
       ·go_wp2_with fail
        go_meet
        case rel=>exact ⟨n+1,bb,FQ6,rfl,HR6.out,HT6.out,HFL6.out⟩
      case rest=>
       obtain ⟨n',bb',FQ',rfl,hR,hT,hG⟩:=hcut
       obtain ⟨wg,rfl⟩:∃ wg:World,wg=wc:=⟨_,rfl⟩
       clear r0 r1 rl e4 tl6 c2 cl HR6 HT6 HFL6
       obtain ⟨Cs,hCs⟩:∃ Cs,Cs=Bs++[onB q sp]:=⟨_,rfl⟩
       have hl2:Cs.length=Bs.length+1:=by rw [hCs];simp
       rw [← hCs,← hl2] at hR
       rw [← hl2]
       clear hCs
       have c1:=aB hR.arg 1
       have cl:=aC hR.arg
       have HR:=Lib.hid hR
       have HT7:=Lib.hid hT
       have HG7:=Lib.hid hG
       have HL2:=Lib.hid hl2
       clear hR hT hG hl2
       by_cases hag:k<l1.length
       ·obtain ⟨b1,off1,rfl,hrow1⟩:=HS1.out.row hag
        obtain ⟨y0,ybl⟩:=aLr hrow1 HR.out.k0 k hag
        generalize l1[k]=ag at y0
        have i2:(k:Int)<l1.length:=aA
        clear hrow1
        have HCN:Hid (1≤Cs.length∧Cs.length≤12):=by
         have h1:=HR.out.pl.chain.len
         rw [List.length_map] at h1
         have h2:=HK12.out
         have h3:=HL2.out
         exact ⟨by omega,by omega⟩
        have hcn:=HCN.out
        go_upto_region 29 with fail
        obtain ⟨J,hJ⟩:∃ J:Int,J=(Cs.length:Int) - 1 - max ag 0 % 5:=⟨_,rfl⟩
        rw [← hJ]
        have hJe:J≤(Cs.length:Int) - 1∧(Cs.length:Int)≤J+5:=by
         have h1:0≤max ag 0 % 5∧max ag 0 % 5<5:=⟨Int.emod_nonneg _ aE,Int.emod_lt_of_pos _ aE⟩
         rw [hJ]
         omega
        have HJE:=Lib.hid hJe
        clear hJ hJe y0 hcn
        by_cases hj0:J<0
        ·go_wp2
         go_roundw
         case rel=>exact ⟨k+1,n',bb',q+sp,Cs,FQ',_,_,rfl,rfl,rfl,by go_num,by omega,HR.out⟩
         case measure=>simp [intOf];omega
        obtain ⟨j,hjj⟩:∃ j:Nat,J=j:=⟨J.toNat,by omega⟩
        subst hjj
        have hjl:j<Cs.length:=by have:=HJE.out;omega
        obtain ⟨xs,hxs⟩:∃ xs,xs=(Cs[j]'hjl).span:=⟨_,rfl⟩
        obtain ⟨xq,hxqe⟩:∃ xq,xq=(Cs[j]'hjl).base:=⟨_,rfl⟩
        have HJL:=Lib.hid hjl
        have HJ5:Hid (Cs.length≤j+5):=by have:=HJE.out;show _≤_;omega
        have hat:=HR.out.pl.at_ hjl
        have hsq:=HR.out.pl.chain.seqR
        have HK13:Hid (k+1≤12):=by have:=HK12.out;show _≤_;omega
        have hk13:=HK13.out
        have hxq:(Cs[j]'hjl).base≤600:=aA
        have hag:=HR.out.pl.again hjl HJ5.out HK13.out
        have hfe:=HR.out.pl.fenced hjl HK13.out
        have hea:=HR.out.pl.early HSP.out HK13.out
        rw [← hxs,← hxqe] at hag hfe hat
        rw [← hxqe] at hxq
        have HXS:=Lib.hid hxs
        have HXQ:=Lib.hid hxqe
        have HQ3:Hid (0≤q+sp∧q+sp≤1000):=⟨hsq.1,by omega⟩
        have HR2:Hid (OnR 2 xs xq):=⟨by decide,⟨hat.2.1,hat.2.2.1⟩,⟨hat.1,by omega⟩⟩
        have HR1:Hid (OnR 1 xs xq):=⟨by decide,⟨hat.2.1,hat.2.2.1⟩,⟨hat.1,by omega⟩⟩
        have HRE:Hid (OnR 2 sp (q+sp+1)):=⟨by decide,HSP.out,⟨by omega,by omega⟩⟩
        have HAG:=Lib.hid hag
        have HFE:=Lib.hid hfe
        have HEA:=Lib.hid hea
        have HR7:=HR
        have hw2:IntKind.i64.wrap (q+sp+1)=q+sp+1:=IntWalk.i64_in _ aA
        have hw3:wrap64 (q+sp+1)=q+sp+1:=(by unfold wrap64;omega)
        have hj1:(0:Int)≤j:=aA
        have hj2:(j:Int)<Cs.length:=aA
        have T0:vH xq 0=bY 0 xq 0 0 0 0 0 (.slice none 0 0):=rfl
        have T8:vH 0 8=bY 8 0 0 0 0 0 0 (.slice none 0 0):=rfl
        have T9:vH 0 9=bY 9 0 0 0 0 0 0 (.slice none 0 0):=rfl
        have D1:=Lib.hid (aGt (wL HR7.out.once HQ3.out HR2.out (HST.out.keep0 HR7.out.k0) HAG.out (.inr ⟨rfl,rfl⟩) T0))
        clear hag hfe hea hat hxs hxqe hsq hk13 hxq T0
        obtain ⟨o0,o1,o2,o3,o4,o5,ol⟩:=qV HR7.out.row hjl
        rw [← HXS.out] at o1
        rw [← HXQ.out] at o4
        go_wp2_with fail
        refine D1.out.mono ?_
        rintro e w8 ⟨vs8,rfl,hv8,FQ8,ho8,hm8⟩
        have g8:=hm8.guest (aC HT7.out) HG7.out
        obtain ⟨j1,j2,j3,j4⟩:=iV w8 hv8.len
        obtain ⟨W8,hW8⟩:∃ W8,W8=(w8.alloc (.cells #[.int .i64 0,.int .i64 0,.int .i64 0,.int .i64 0,.int .i64 0,.int .i64 0,.int .i64 0,.slice none 0 0,.slice none 0 0,.slice none 0 0] 33)).setCells w8.heap.size 0 vs8:=⟨_,rfl⟩
        rw [← hW8] at j1 j2
        have HV8:=Lib.hid hv8
        have HSZ8:=Lib.hid j4
        have HTH8:=Lib.hid j3
        have HR8:=Lib.hid ((HR7.out.moved ho8 hm8).keep0 j2)
        have HT8:=Lib.hid ((j2.block _ (aC (g8.2.trans HT7.out)) (fun e=>e)).trans (g8.2.trans HT7.out))
        have HG8:Hid (¬ FQ8 tb):=g8.1
        have hl8:=(kZ _ _ _ _ _).lt ho8
        have HB8_8:=Lib.hid j1
        have HN8_8:Hid (¬ FQ8 w8.heap.size):=fun e=>by have:=hl8 _ e;omega
        clear ho8 hm8 g8 hv8 j1 j2 j3 j4 hl8
        clear o0 o1 o2 o3 o4 o5 ol
        obtain ⟨o0,o1,o2,o3,o4,o5,ol⟩:=qV HR8.out.row hjl
        rw [← HXS.out] at o1
        rw [← HXQ.out] at o4
        go_upto_region 31 with (first
         | (refine wpList_store_mid rfl 33 (.tmp 16) (.tmp 139) rfl w8.heap.size 0 vs8.toArray rfl rfl HTH8.out HSZ8.out HV8.out.one ?_)
         | fail)
        rw [← hW8]
        clear hW8
        obtain ⟨W18,hW18⟩:∃ W18,W18=W8.alloc (.cells #[.int .i64 0,.int .i64 xs,.int .i64 3,.int .i64 1,.int .i64 xq,.slice none 0 0] 39):=⟨_,rfl⟩
        have k18:K0 W8 W18:=by rw [hW18];exact (aD.refl _ _).alloc _
        have hb18:W18.heap[W8.heap.size]?=some (.cells #[.int .i64 0,.int .i64 xs,.int .i64 3,.int .i64 1,.int .i64 xq,.slice none 0 0] 39 (0,0)):=by rw [hW18];exact aI _ _ _ rfl
        have HR18:=Lib.hid (HR8.out.keep0 k18)
        have HT18:=Lib.hid ((k18.block _ (aC HT8.out) (fun e=>e)).trans HT8.out)
        have HG18:=HG8
        have HB8_18:=Lib.hid ((k18.block _ (aC HB8_8.out) (fun e=>e)).trans HB8_8.out)
        have HN8_18:=HN8_8
        have p0:=aB hb18 0
        have p1:=aB hb18 1
        have p2:=aB hb18 2
        have p3:=aB hb18 3
        have p4:=aB hb18 4
        have p5:=aB hb18 5
        have ml18:=aC hb18
        clear k18 hb18
        have D2:=Lib.hid (aGt (wL HR18.out.once HQ3.out HR1.out (HST.out.keep0 HR18.out.k0) HFE.out (.inl rfl) T8))
        clear T8
        go_upto_region 33 with fail
        clear o0 o1 o2 o3 o4 o5 ol
        rw [← hW18]
        clear hW18
        go_wp2_with fail
        refine D2.out.mono ?_
        rintro e w9 ⟨vs9,rfl,hv9,FQ9,ho9,hm9⟩
        have g9:=hm9.guest (aC HT18.out) HG18.out
        have g9_8:=hm9.guest (aC HB8_18.out) HN8_18.out
        obtain ⟨j1,j2,j3,j4⟩:=iV w9 hv9.len
        obtain ⟨W9,hW9⟩:∃ W9,W9=(w9.alloc (.cells #[.int .i64 0,.int .i64 0,.int .i64 0,.int .i64 0,.int .i64 0,.int .i64 0,.int .i64 0,.slice none 0 0,.slice none 0 0,.slice none 0 0] 33)).setCells w9.heap.size 0 vs9:=⟨_,rfl⟩
        rw [← hW9] at j1 j2
        have HV9:=Lib.hid hv9
        have HSZ9:=Lib.hid j4
        have HTH9:=Lib.hid j3
        have HR9:=Lib.hid ((HR18.out.moved ho9 hm9).keep0 j2)
        have HT9:=Lib.hid ((j2.block _ (aC (g9.2.trans HT18.out)) (fun e=>e)).trans (g9.2.trans HT18.out))
        have HG9:Hid (¬ FQ9 tb):=g9.1
        have hl9:=(kZ _ _ _ _ _).lt ho9
        have HB9_9:=Lib.hid j1
        have HN9_9:Hid (¬ FQ9 w9.heap.size):=fun e=>by have:=hl9 _ e;omega
        have HB8_9:=Lib.hid ((j2.block _ (aC (g9_8.2.trans HB8_18.out)) (fun e=>e)).trans (g9_8.2.trans HB8_18.out))
        have HN8_9:Hid (¬ FQ9 w8.heap.size):=g9_8.1
        clear ho9 hm9 g9 hv9 j1 j2 j3 j4 hl9 g9_8
        clear p0 p1 p2 p3 p4 p5 ml18
        have d0:=aB HT9.out 0
        have d1:=aB HT9.out 1
        have d2:=aB HT9.out 2
        have d3:=aB HT9.out 3
        have d4:=aB HT9.out 4
        have d5:=aB HT9.out 5
        have dl:=aC HT9.out
        go_upto_region 34 with (first
         | (refine wpList_store_mid rfl 33 (.tmp 18) (.tmp 148) rfl w9.heap.size 0 vs9.toArray rfl rfl HTH9.out HSZ9.out HV9.out.one ?_)
         | fail)
        rw [← hW9]
        clear hW9
        obtain ⟨W19,hW19⟩:∃ W19,W19=W9.alloc (.cells #[.int .i64 0,.int .i64 sp,.int .i64 3,.int .i64 2,.int .i64 (q+sp+1),.slice none 0 0] 39):=⟨_,rfl⟩
        have k19:K0 W9 W19:=by rw [hW19];exact (aD.refl _ _).alloc _
        have hb19:W19.heap[W9.heap.size]?=some (.cells #[.int .i64 0,.int .i64 sp,.int .i64 3,.int .i64 2,.int .i64 (q+sp+1),.slice none 0 0] 39 (0,0)):=by rw [hW19];exact aI _ _ _ rfl
        have HR19:=Lib.hid (HR9.out.keep0 k19)
        have HT19:=Lib.hid ((k19.block _ (aC HT9.out) (fun e=>e)).trans HT9.out)
        have HG19:=HG9
        have HB8_19:=Lib.hid ((k19.block _ (aC HB8_9.out) (fun e=>e)).trans HB8_9.out)
        have HN8_19:=HN8_9
        have HB9_19:=Lib.hid ((k19.block _ (aC HB9_9.out) (fun e=>e)).trans HB9_9.out)
        have HN9_19:=HN9_9
        have p0:=aB hb19 0
        have p1:=aB hb19 1
        have p2:=aB hb19 2
        have p3:=aB hb19 3
        have p4:=aB hb19 4
        have p5:=aB hb19 5
        have ml19:=aC hb19
        clear k19 hb19
        have D3:=Lib.hid (aGt (wL HR19.out.once HQ3.out HRE.out (HST.out.keep0 HR19.out.k0) HEA.out (.inl rfl) T9))
        clear T9
        go_upto_region 36 with fail
        clear d0 d1 d2 d3 d4 d5 dl
        rw [← hW19]
        clear hW19
        go_wp2_with fail
        refine D3.out.mono ?_
        rintro e w10 ⟨vs10,rfl,hv10,FQ10,ho10,hm10⟩
        have g10:=hm10.guest (aC HT19.out) HG19.out
        have g10_8:=hm10.guest (aC HB8_19.out) HN8_19.out
        have g10_9:=hm10.guest (aC HB9_19.out) HN9_19.out
        obtain ⟨j1,j2,j3,j4⟩:=iV w10 hv10.len
        obtain ⟨W10,hW10⟩:∃ W10,W10=(w10.alloc (.cells #[.int .i64 0,.int .i64 0,.int .i64 0,.int .i64 0,.int .i64 0,.int .i64 0,.int .i64 0,.slice none 0 0,.slice none 0 0,.slice none 0 0] 33)).setCells w10.heap.size 0 vs10:=⟨_,rfl⟩
        rw [← hW10] at j1 j2
        have HV10:=Lib.hid hv10
        have HSZ10:=Lib.hid j4
        have HTH10:=Lib.hid j3
        have HR10:=Lib.hid ((HR19.out.moved ho10 hm10).keep0 j2)
        have HT10:=Lib.hid ((j2.block _ (aC (g10.2.trans HT19.out)) (fun e=>e)).trans (g10.2.trans HT19.out))
        have HG10:Hid (¬ FQ10 tb):=g10.1
        have hl10:=(kZ _ _ _ _ _).lt ho10
        have HB10_10:=Lib.hid j1
        have HN10_10:Hid (¬ FQ10 w10.heap.size):=fun e=>by have:=hl10 _ e;omega
        have HB8_10:=Lib.hid ((j2.block _ (aC (g10_8.2.trans HB8_19.out)) (fun e=>e)).trans (g10_8.2.trans HB8_19.out))
        have HN8_10:Hid (¬ FQ10 w8.heap.size):=g10_8.1
        have HB9_10:=Lib.hid ((j2.block _ (aC (g10_9.2.trans HB9_19.out)) (fun e=>e)).trans (g10_9.2.trans HB9_19.out))
        have HN9_10:Hid (¬ FQ10 w9.heap.size):=g10_9.1
        clear ho10 hm10 g10 hv10 j1 j2 j3 j4 hl10 g10_8 g10_9
        clear p0 p1 p2 p3 p4 p5 ml19
        obtain ⟨_,_,u0,u1,_,_,ul⟩:=HV8.out.block HB8_10.out
        obtain ⟨_,_,v0,_,_,_,vl⟩:=HV9.out.block HB9_10.out
        obtain ⟨_,_,x0,_,_,_,xl⟩:=HV10.out.block HB10_10.out
        obtain ⟨o0,o1,o2,o3,o4,o5,ol⟩:=qV HR10.out.row hjl
        rw [← HXQ.out] at o4
        go_upto_region 37 with (first
         | (refine wpList_store_mid rfl 33 (.tmp 20) (.tmp 156) rfl w10.heap.size 0 vs10.toArray rfl rfl HTH10.out HSZ10.out HV10.out.one ?_)
         | fail)
        rw [← hW10]
        clear hW10
        go_quiet (fail)
        go_wp2
        go_roundw
        case rel=>exact ⟨k+1,n',bb',q+sp,Cs,FQ10,_,_,rfl,rfl,rfl,by go_num,by omega,HR10.out.keep0 ((aD.refl _ _).drewN _)⟩
        case measure=>simp [intOf];omega
       ·have i2:¬ (k:Int)<l1.length:=by omega
        go_wp2
        go_roundw
        case rel=>exact ⟨k+1,n',bb',q+sp,Cs,FQ',_,_,rfl,rfl,rfl,by go_num,by omega,HR.out⟩
        case measure=>simp [intOf];omega
   ·have HR:=Lib.hid hr
    have HEND:=Lib.hid (aQ8 hr.once)
    have i1:¬ (k:Int)<l0.length:=aA
    have c0:=aB hr.arg 0
    have cl:=aC hr.arg
    clear hr hsz
    go_wp2_with fail
    refine HEND.out.mono ?_
    rintro e w8 ⟨rfl,k8⟩
    have HK8:=Lib.hid (K0.tr HR.out.k0 k8)
    clear k8 c0 cl
    go_wp2_with fail
    refine (HWK.out _ HK8.out).mono ?_
    rintro e w9 ⟨rfl,k9⟩
    have HK9:=Lib.hid (K0.tr HK8.out k9)
    clear k9
    go_wp2_with fail
    go_ret
    exact ⟨rfl,HK9.out⟩
end Go.Proofs.YteapahcklcldkaaGreatDoor
