/-
  The statement is proved: all that it reaches, in parts.
-/
import Derived.Test.YteapahcklcldkaaGreatDoorW32
set_option maxRecDepth 100000
set_option maxHeartbeats 16000000
namespace Go.Proofs.YteapahcklcldkaaGreatDoor.Tpc
open Go.RowKit Fx
def zQ (w:World) (s:ByteArray) (e:Ending) (w':World):Prop:=
 (paE s≠0∧e=.returned (.tuple #[.pointer none,.int .i64 (paE s)])∧K0 w w')∨
 (paE s=0∧∃ tb m,e=.returned (.tuple #[.pointer (some ⟨tb,0,none⟩),.int .i64 0])∧cP w' tb m ⟨paX s,aA0 (xO s).l⟩∧w.heap.size≤tb∧w.heap.size≤m∧K0 w w')
def aXv (w:World) (rb tb m d:Nat) (s:ByteArray) (nx n:Int) (F:pE) (i lv:Value) (wr:World):Prop:=
 ∃ (k:Nat) (p:pE),i=.int .i64 k∧k≤n.toNat∧lv=.string (xM p.l)∧oZ s nx (n.toNat - k) p=F∧p.a≤s.size∧(p.e=0→0≤nx∧nx≤1073741824∧0≤n∧n≤20)∧pS w wr rb tb m d s nx p
theorem cP.setNext {w:World} {b m:Nat} {t:gG} (h:cP w b m t) (x:Int):cP (w.setCell ⟨b,0,none⟩ (.int .i64 x)) b m ⟨x,t.all⟩:=
 ⟨h.ne,aM h.rcd 0 _,h.map.keep ((aD.refl (fun k=>k=b) w).setC 0 _ (fun _=>rfl)) (fun e=>h.ne e.symm)⟩
theorem aV3 (a b:ByteArray):(!Op.bytesLess a.toList b.toList&&!(a.toList==b.toList))=gU b a:=by
 rw [aTx]
 show (!gU a b&&!decide (a=b))=gU b a
 by_cases h:a=b
 ·subst h;simp [sL]
 ·rw [decide_eq_false h]
  cases h1:gU a b with
  | true=>
   cases h2:gU b a with
   | true=>have:=wA h1 h2;rw [sL] at this;cases this
   | false=>rfl
  | false=>rw [aCq h h1];rfl
theorem aDq {e:Int} {b:Bool} (h:¬ (e=0∧b=true)):wE e b≠0:=fun h2=>h (zK h2)
theorem aDa (s:ByteArray) (w:World) (hs:s.size≤9223372036854775807):Calls Tryz.prog 181 #[.string s] w (zQ w s):=by
 have hmm:=@run_makeMap Tryz.prog
 have HN:Hid (∀ e w',aK6 (w.alloc (.cells #[.string s,.int .i64 0,.int .i64 0] 413)) e w'→∃ tb m,e=.returned (.pointer (some ⟨tb,0,none⟩))∧Rr 413 w' w.heap.size s 0 0∧cP w' tb m ⟨0,[]⟩∧K0 w w'∧w.heap.size<tb∧w.heap.size<m):=by
  show ∀ _ _,_→_
  rintro e w' ⟨rfl,ht,hk,hz⟩
  have hr:Rr 413 (w.alloc (.cells #[.string s,.int .i64 0,.int .i64 0] 413)) w.heap.size s 0 0:=aI _ _ _ rfl
  refine ⟨_,_,rfl,hr.keep hk (fun e=>e),ht,K0.tr ((aD.refl _ _).alloc _) hk,?_,?_⟩ <;> simp
  omega
 have hrb:Hid (∃ rb,rb=w.heap.size):=⟨_,rfl⟩
 obtain ⟨rb,hrb⟩:=hrb.out
 rw [← hrb] at HN
 have HRB:=Lib.hid hrb
 clear hrb
 go_enter Tryz.func181,Tryz.ntmps181
 go_wp2_with fail
 refine (wJ _).mono ?_
 intro e w1 hn
 obtain ⟨tb,m,rfl,hr1,ht1,hk1,hlb,hlm⟩:=HN.out e w1 hn
 have HK1:=Lib.hid hk1
 have HT1:=Lib.hid ht1
 rw [← HRB.out]
 have hd1:rb≠tb:=aA
 have hd2:rb≠m:=aA
 have b0:vO s 0 0≤s.size:=wK aA
 clear hn hk1 ht1 HN
 go_wp2_with fail
 refine (oW 0 1073741824 hr1 hs aA).mono ?_
 rintro e w2 ⟨rfl,hr2,hk2⟩
 have ht2:=HT1.out.keep hk2 (fun e=>hd1 e.symm) (fun e=>hd2 e.symm)
 have f2:=ht2.free 0
 have c2:=ht2.cell0
 have l2:=ht2.lt
 have ht3:=ht2.setNext (xN s 0 0)
 have lm2:=ht2.map.lt
 have lr2:=aC hr2
 have hr3:Rr 413 ((w2.setCell ⟨tb,0,none⟩ (.int .i64 (xN s 0 0))).alloc (.map #[] 0)) rb s (vO s 0 0) (nuE s 0 0 0 1073741824):=hr2.keep (((aD.refl (fun k=>k=tb) w2).setC 0 _ (fun _=>rfl)).alloc _) hd1
 have HT3:Hid (cP ((w2.setCell ⟨tb,0,none⟩ (.int .i64 (xN s 0 0))).alloc (.map #[] 0)) tb m ⟨xN s 0 0,[]⟩):=ht3.keep (S:=fun _=>False) ((aD.refl _ _).alloc _) (fun e=>e) (fun e=>e)
 have HK3:Hid (K0 w ((w2.setCell ⟨tb,0,none⟩ (.int .i64 (xN s 0 0))).alloc (.map #[] 0))):=(lS (lS HK1.out hk2 (fun k e=>by rw [e,HRB.out];exact Nat.le_refl _)) ((aD.refl (fun k=>k=tb) w2).setC 0 _ (fun _=>rfl)) (fun k e=>by have:=HRB.out;rw [e];omega)).alloc _
 have HD3:Hid (∃ d,d=w2.heap.size∧bM (.int .i64) ((w2.setCell ⟨tb,0,none⟩ (.int .i64 (xN s 0 0))).alloc (.map #[] 0)) d []):=by
  refine ⟨_,rfl,?_⟩
  have h1:bM (κ:=Int) (.int .i64) ((w2.setCell ⟨tb,0,none⟩ (.int .i64 (xN s 0 0))).alloc (.map #[] 0)) (w2.setCell ⟨tb,0,none⟩ (.int .i64 (xN s 0 0))).heap.size []:=kF _
  have h2:(w2.setCell ⟨tb,0,none⟩ (.int .i64 (xN s 0 0))).heap.size=w2.heap.size:=aK
  rw [h2] at h1
  exact h1
 have HLD:Hid (w.heap.size≤w2.heap.size):=Nat.le_trans HK1.out.size hk2.size
 clear hr2 hk2 ht2 ht3 hr1
 go_wp2_with fail
 obtain ⟨d,hdd,hid⟩:=HD3.out
 rw [← hdd]
 refine (oW 0 20 hr3 hs aA).mono ?_
 rintro e w4 ⟨rfl,hr4,hk4⟩
 have hrb:=HRB.out
 have hz1:=HK1.out.size
 have HB:Hid (PBk w rb tb m d):=⟨hd1,hd2,by omega,by omega,by omega,by omega,by omega,by omega,by rw [hdd];exact HLD.out⟩
 have HP0:Hid (pS w w4 rb tb m d s (paX s) (paP s)):=⟨hr4,HT3.out.keep hk4 (fun e=>hd1 e.symm) (fun e=>hd2 e.symm),hid.keep hk4 (fun e=>HB.out.a3 e.symm),lS HK3.out hk4 (fun k e=>e▸HB.out.b1)⟩
 have HPE:Hid (paE s=wE (xO s).e (decide ((xO s).a=s.size)&&decide (((iG (xO s).l).length:Int)=paC s))):=rfl
 have HFF1:Hid (xO s=oZ s (paX s) (paC s).toNat (paP s)):=rfl
 have HZ:=Lib.hid (@aHq s)
 have b1:(paP s).a≤s.size:=wK b0
 have B1:=Lib.hid b1
 have hCC:xN s (vO s 0 0) (nuE s 0 0 0 1073741824)=paC s:=rfl
 have HLL:Hid (xM (paP s).l=⟨#[]⟩):=by show _=_;rfl
 rw [hCC]
 generalize paP s=p0 at HP0 HFF1 HZ B1 HLL
 generalize hFg:xO s=F at HPE HFF1
 have HFF2:Hid (xO s=F):=hFg
 generalize paC s=n at HPE HFF1 HZ ⊢
 generalize hng:paX s=nx at HP0 HFF1 HZ
 have HNX:Hid (paX s=nx):=hng
 clear hrb hz1 hr4 hk4 hr3 b1 hCC b0 f2 c2 l2 lm2 lr2 hdd hid HD3 hlb hlm hd1 hd2 hng hFg
 go_wp2
 go_loopw [9,6] (aXv w rb tb m d s nx n F) (fun i _ _=>n.toNat - (intOf i).toNat)
 case atStart=>exact ⟨0,p0,rfl,Nat.zero_le _,by rw [HLL.out],HFF1.out.symm,B1.out,HZ.out,HP0.out⟩
 case round=>
  obtain ⟨k,p,rfl,hk,rfl,hF,ha,hzz,hp⟩:=hrel
  have HP:=Lib.hid hp
  by_cases hgo:(k:Int)<n∧p.e=0
  ·obtain ⟨hkn,he⟩:=hgo
   obtain ⟨n1,n2,n3,n4⟩:=hzz he
   have hkn2:k<n.toNat:=aA
   rw [aN6 s nx hkn2 he] at hF
   have HF:=Lib.hid hF
   have HA:Hid ((lL s nx p).a≤s.size):=by
    show vO _ _ _≤_
    exact wK (wK (aSa ha))
   have HZ2:Hid ((lL s nx p).e=0→0≤nx∧nx≤1073741824∧0≤n∧n≤20):=fun _=>hzz he
   obtain ⟨a,e,l⟩:=p
   obtain rfl:e=0:=he
   have hr:Rr 413 wr rb s a 0:=hp.rd
   have HTB:Hid (cP wr tb m ⟨nx,aA0 l⟩):=hp.tb
   have HID:Hid (bM (.int .i64) wr d (iG l)):=hp.ids
   have hk0:=Lib.hid hp.k0
   obtain ⟨r0,r1,r2,r3,r4,r5⟩:=hr.all
   have lr:=aC hr
   have ha:a≤s.size:=ha
   have b1:wW s a 0≤s.size:=aSa ha
   have b2:vO s (wW s a 0) (wE (txE s a 0) (Op.bytesLess (xM l).toList (txS s a 0).toList))≤s.size:=wK b1
   have HBX:Hid (∀ w3 w4:World,aD (fun k=>k=rb) wr w3→Rr 413 w4 rb s (tN s nx ⟨a,0,l⟩) (aFf s nx ⟨a,0,l⟩)→aD (fun k=>k=rb) (w3.alloc (.cells #[.int .i64 (nX s ⟨a,0,l⟩),.int .i64 0] 193)) w4→w4.cell? ⟨w3.heap.size,1,none⟩=some (.int .i64 0)∧w4.frozen? ⟨w3.heap.size,1,none⟩=false):=by
    show ∀ _ _,_→_→_→_
    intro w3 w4 hk3 hr4 hk4
    have hb:(w3.alloc (.cells #[.int .i64 (nX s ⟨a,0,l⟩),.int .i64 0] 193)).heap[w3.heap.size]?=some (.cells #[.int .i64 (nX s ⟨a,0,l⟩),.int .i64 0] 193 (0,0)):=aI _ _ _ rfl
    have hne:w3.heap.size≠rb:=by have:=hk3.size;omega
    have hb4:=(hk4.block _ (aC hb) hne).trans hb
    exact ⟨aB hb4 1,aH hb4 1⟩
   have HRD:Hid (∀ w3 w4:World,aD (fun k=>k=rb) wr w3→Rr 413 w4 rb s (tN s nx ⟨a,0,l⟩) (aFf s nx ⟨a,0,l⟩)→aD (fun k=>k=rb) (w3.alloc (.cells #[.int .i64 (nX s ⟨a,0,l⟩),.int .i64 0] 193)) w4→
     ∃ v0 st o1 o2 q,R14 (w4.setCell ⟨w3.heap.size,1,none⟩ (.int .i64 (pR s nx ⟨a,0,l⟩))).drew m d tb w3.heap.size (txS s a 0) (nX s ⟨a,0,l⟩) (pR s nx ⟨a,0,l⟩) v0 st o1 o2 q∧aW6 w rb tb m d s nx (lL s nx ⟨a,0,l⟩) (w4.setCell ⟨w3.heap.size,1,none⟩ (.int .i64 (pR s nx ⟨a,0,l⟩))).drew o1 o2 q):=by
    show ∀ _ _,_→_→_→_
    intro w3 w4 hk3 hr4 hk4
    have hb:(w3.alloc (.cells #[.int .i64 (nX s ⟨a,0,l⟩),.int .i64 0] 193)).heap[w3.heap.size]?=some (.cells #[.int .i64 (nX s ⟨a,0,l⟩),.int .i64 0] 193 (0,0)):=aI _ _ _ rfl
    have hsz:=hk3.size
    have hne:w3.heap.size≠rb:=aA
    have hb4:=(hk4.block _ (aC hb) hne).trans hb
    have hk34:aD (fun k=>k=rb) wr w4:=(hk3.alloc _).trans hk4 (fun _ _ e=>e)
    have lm:=HTB.out.map.lt
    have lt:=HTB.out.lt
    have ld:=HID.out.lt
    have hk5:aD (fun k=>k=rb∨k=w3.heap.size) wr (w4.setCell ⟨w3.heap.size,1,none⟩ (.int .i64 (pR s nx ⟨a,0,l⟩))).drew:=((hk34.mono (fun _ _ e=>.inl e)).setC 1 _ (fun _=>.inr rfl)).drew
    have hr5:Rr 413 (w4.setCell ⟨w3.heap.size,1,none⟩ (.int .i64 (pR s nx ⟨a,0,l⟩))).drew rb s (tN s nx ⟨a,0,l⟩) (aFf s nx ⟨a,0,l⟩):=hr4.keep ((aD.refl (fun k=>k=w3.heap.size) w4).setC 1 _ (fun _=>rfl)).drew (fun e=>hne e.symm)
    have hat:pS w (w4.setCell ⟨w3.heap.size,1,none⟩ (.int .i64 (pR s nx ⟨a,0,l⟩))).drew rb tb m d s nx ⟨tN s nx ⟨a,0,l⟩,aFf s nx ⟨a,0,l⟩,l⟩:=
     ⟨hr5,HTB.out.keep hk5 (fun e=>e.elim (fun e=>HB.out.a1 e.symm) (fun e=>by omega)) (fun e=>e.elim (fun e=>HB.out.a2 e.symm) (fun e=>by omega)),HID.out.keep hk5 (fun e=>e.elim (fun e=>HB.out.a3 e.symm) (fun e=>by omega)),lS hk0.out hk5 (fun k e=>by rcases e with rfl | rfl;exact HB.out.b1;have:=hk0.out.size;omega)⟩
    have hbx:(w4.setCell ⟨w3.heap.size,1,none⟩ (.int .i64 (pR s nx ⟨a,0,l⟩))).drew.heap[w3.heap.size]?=some (.cells #[.int .i64 (nX s ⟨a,0,l⟩),.int .i64 (pR s nx ⟨a,0,l⟩)] 193 (0,0)):=aM hb4 1 _
    exact aXk (txS s a 0) HB.out ⟨by omega,by omega⟩ hat hbx
   have nn:wrap64 (nx - 1)=nx - 1:=(by unfold wrap64;omega)
   have nn2:IntKind.i64.wrap (nx - 1)=nx - 1:=IntWalk.i64_in _ aA
   clear hp hF hzz
   have b1b:wW s a 0≤9223372036854775807:=aA
   go_wp2_with fail
   refine (aQt hr hs aA).mono ?_
   rintro e w1 ⟨rfl,hr1,hk1⟩
   go_wp2_with fail
   rw [aV3]
   refine (nZ _ hr1).mono ?_
   rintro e w2 ⟨rfl,hr2,hk2⟩
   have hk12:aD (fun k=>k=rb) wr w2:=hk1.trans hk2 (fun _ _ e=>e)
   have ht2:=HTB.out.keep hk12 (fun e=>HB.out.a1 e.symm) (fun e=>HB.out.a2 e.symm)
   have tc0:=ht2.cell0
   have tl:=ht2.lt
   clear ht2 hk1 hk2
   go_wp2_with fail
   have HC1:Calls Tryz.prog 254 #[.pointer (some ⟨rb,0,none⟩),.int .i64 0,.int .i64 (nx - 1)] w2 (RrP 413 w2 rb s (.int .i64 (nX s ⟨a,0,l⟩)) (yQ s ⟨a,0,l⟩) (aKp s nx ⟨a,0,l⟩)):=oW 0 (nx - 1) hr2 hs b1b
   refine HC1.mono ?_
   clear HC1
   rintro e w3 ⟨rfl,hr3,hk3⟩
   have hk13:aD (fun k=>k=rb) wr w3:=hk12.trans hk3 (fun _ _ e=>e)
   have hr3a:Rr 413 (w3.alloc (.cells #[.int .i64 (nX s ⟨a,0,l⟩),.int .i64 0] 193)) rb s (yQ s ⟨a,0,l⟩) (aKp s nx ⟨a,0,l⟩):=hr3.keep (S:=fun _=>False) ((aD.refl _ _).alloc _) (fun e=>e)
   have b2:yQ s ⟨a,0,l⟩≤s.size:=wK b1
   change Hid _ at HRD
   go_wp2_with fail
   have HC2:Calls Tryz.prog 254 #[.pointer (some ⟨rb,0,none⟩),.int .i64 1,.int .i64 16] (w3.alloc (.cells #[.int .i64 (nX s ⟨a,0,l⟩),.int .i64 0] 193)) (RrP 413 (w3.alloc (.cells #[.int .i64 (nX s ⟨a,0,l⟩),.int .i64 0] 193)) rb s (.int .i64 (pR s nx ⟨a,0,l⟩)) (tN s nx ⟨a,0,l⟩) (aFf s nx ⟨a,0,l⟩)):=oW 1 16 hr3a hs (Int.le_trans b2 aA)
   refine HC2.mono ?_
   clear HC2
   rintro e w4 ⟨rfl,hr4,hk4⟩
   obtain ⟨v0,st,o1,o2,q,hR,hE⟩:=HRD.out w3 w4 hk13 hr4 hk4
   obtain ⟨e0,e1,s0,s1,s2,u0,u1,u2,t1,t2,x1,x2,y1,y2,z0,z1,z2⟩:=hR
   obtain ⟨bc,bf⟩:=HBX.out w3 w4 hk13 hr4 hk4
   have HE:=Lib.hid hE
   clear hr1 hr2 hr3 hr4 hr3a hk12 hk13 hk3 hk4 hE tc0 tl hr
   go_wp2_with fail
   generalize w4.setCell ⟨w3.heap.size,1,none⟩ (.int .i64 (pR s nx ⟨a,0,l⟩))=W at e0 e1 s0 s1 s2 u0 u1 u2 z0 z1 z2 HE ⊢
   have z0:W.cell? ⟨tb,1,none⟩=some (.map (some m)):=z0
   have z1:W.cell? ⟨w3.heap.size,0,none⟩=some (.int .i64 (nX s ⟨a,0,l⟩)):=z1
   have z2:W.cell? ⟨w3.heap.size,1,none⟩=some (.int .i64 (pR s nx ⟨a,0,l⟩)):=z2
   go_region
   all_goals
    go_wp2
    go_roundw
    case rel=>first | exact ⟨k+1,lL s nx ⟨a,0,l⟩,by go_num,by omega,by rw [show (lL s nx ⟨a,0,l⟩).l=l++[aHv s nx ⟨a,0,l⟩] from rfl,nR];rfl,HF.out,HA.out,HZ2.out,HE.out.1⟩ | exact ⟨k+1,lL s nx ⟨a,0,l⟩,by go_num,by omega,by rw [show (lL s nx ⟨a,0,l⟩).l=l++[aHv s nx ⟨a,0,l⟩] from rfl,nR];rfl,HF.out,HA.out,HZ2.out,HE.out.2.1⟩ | exact ⟨k+1,lL s nx ⟨a,0,l⟩,by go_num,by omega,by rw [show (lL s nx ⟨a,0,l⟩).l=l++[aHv s nx ⟨a,0,l⟩] from rfl,nR];rfl,HF.out,HA.out,HZ2.out,HE.out.2.2⟩
    case measure=>simp [intOf];omega
  ·have hEND:oZ s nx (n.toNat - k) p=p:=by
    by_cases he:p.e=0
    ·have:n.toNat - k=0:=by omega
     rw [this];rfl
    ·exact aN7 s nx _ he
   by_cases hkn:(k:Int)<n
   ·have he:(p.e==0)=false:=by rw [beq_eq_false_iff_ne];exact fun h=>hgo ⟨hkn,h⟩
    clear hgo hzz hp ha
    have HIL:Hid (bM (.int .i64) wr d (iG p.l)):=HP.out.ids
    have HFE:Hid (oZ s nx (n.toNat - k) p=p):=hEND
    have HFF:Hid (F=p):=by
     show F=p
     rw [← hF,hEND]
    obtain ⟨pa,pe,pl⟩:=p
    have hrd:Rr 413 wr rb s pa pe:=HP.out.rd
    obtain ⟨r0,r1,r2,r3,r4,r5⟩:=hrd.all
    have HT0:Hid (cP wr tb m ⟨nx,aA0 pl⟩):=HP.out.tb
    have HIL:Hid (bM (.int .i64) wr d (iG pl)):=HIL.out
    have HW:Hid (∀ b,Calls Tryz.prog 256 #[.pointer (some ⟨rb,0,none⟩),.bool b] wr (RrP 413 wr rb s (.tuple #[]) pa (wE pe b))):=by
     show ∀ _,_
     exact fun b=>nZ b hrd
    have HNO:Hid (∀ wx,wE pe (decide (pa=s.size)&&decide (((iG pl).length:Int)=n))≠0→K0 wr wx∨aD (fun k=>k=rb) wr wx→zQ w s (.returned (.tuple #[.pointer none,.int .i64 (wE pe (decide (pa=s.size)&&decide (((iG pl).length:Int)=n)))])) wx):=by
     show ∀ _,_→_→_
     intro wx hne hkk
     have hpe:paE s=wE pe (decide (pa=s.size)&&decide (((iG pl).length:Int)=n)):=(by rw [HPE.out,HFF.out])
     refine .inl ⟨by rw [hpe];exact hne,by rw [hpe],?_⟩
     rcases hkk with h | h
     ·exact K0.tr HP.out.k0 h
     ·exact lS HP.out.k0 h (fun k e=>e▸HB.out.b1)
    have HYES:Hid (∀ wx,wE pe (decide (pa=s.size)&&decide (((iG pl).length:Int)=n))=0→aD (fun k=>k=rb) wr wx→zQ w s (.returned (.tuple #[.pointer (some ⟨tb,0,none⟩),.int .i64 0])) wx):=by
     show ∀ _,_→_→_
     intro wx hz hkk
     have hpe:paE s=wE pe (decide (pa=s.size)&&decide (((iG pl).length:Int)=n)):=(by rw [HPE.out,HFF.out])
     have ht:=HT0.out.keep hkk (fun e=>HB.out.a1 e.symm) (fun e=>HB.out.a2 e.symm)
     refine .inr ⟨by rw [hpe];exact hz,tb,m,rfl,?_,HB.out.b2,HB.out.b3,lS HP.out.k0 hkk (fun k e=>e▸HB.out.b1)⟩
     rw [HNX.out,HFF2.out,HFF.out]
     exact ht
    have HLEN:Hid (∀ x:Nat,(iG pl).length=x→bM (.int .i64) wr d (iG pl)):=fun _ _=>HIL.out
    have hil:bM (.int .i64) wr d (iG pl):=HIL.out
    have hln:=hil.len Tryz.underlying414 3
    generalize hLL:(iG pl).length=len at HNO HYES hln
    clear hrd HP hF hEND
    by_cases h1:pa=s.size
    ·by_cases h2:(len:Int)=n
     ·have hbb:(decide (pa=(s.size:Int))&&decide ((len:Int)=n))=true:=by simp [h1,h2]
      rw [hbb] at HNO HYES
      by_cases hz:pe=0
      ·rw [hz] at he;simp at he
      ·obtain ⟨x,hx⟩:∃ x,wE pe true=x:=⟨_,rfl⟩
       have hx0:x≠0:=hx▸aDq (fun h=>hz h.1)
       have hx1:(x==0)=false:=(by rw [beq_eq_false_iff_ne];exact hx0)
       have HX0:=Lib.hid hx0
       rw [hx] at HNO
       clear HYES
       go_wp2_with ((go_at_call 256;refine (HW.out true).mono ?_;rintro e w' ⟨rfl,hr,hk⟩;rw [hx] at hr;obtain ⟨g0,g1,g2,g3,g4,g5⟩:=Rr.all hr))
       go_quiet (fail)
       go_wp2
       go_ret2
       exact HNO.out _ HX0.out (.inr (hk.drewN _))
     ·have hbb:(decide (pa=(s.size:Int))&&decide ((len:Int)=n))=false:=by simp [h2]
      have h2':((len:Int)==n)=false:=by rw [beq_eq_false_iff_ne];exact h2
      rw [hbb] at HNO HYES
      obtain ⟨x,hx⟩:∃ x,wE pe false=x:=⟨_,rfl⟩
      have hx0:x≠0:=hx▸aDq (fun h=>by cases h.2)
      have hx1:(x==0)=false:=(by rw [beq_eq_false_iff_ne];exact hx0)
      have HX0:=Lib.hid hx0
      rw [hx] at HNO
      clear HYES
      go_wp2_with ((go_at_call 256;refine (HW.out false).mono ?_;rintro e w' ⟨rfl,hr,hk⟩;rw [hx] at hr;obtain ⟨g0,g1,g2,g3,g4,g5⟩:=Rr.all hr))
      go_quiet (fail)
      go_wp2
      go_ret2
      exact HNO.out _ HX0.out (.inr (hk.drewN _))
    ·have hbb:(decide (pa=(s.size:Int))&&decide ((len:Int)=n))=false:=by simp [h1]
     have h1':(pa==(s.size:Int))=false:=by rw [beq_eq_false_iff_ne];exact h1
     rw [hbb] at HNO HYES
     obtain ⟨x,hx⟩:∃ x,wE pe false=x:=⟨_,rfl⟩
     have hx0:x≠0:=hx▸aDq (fun h=>by cases h.2)
     have hx1:(x==0)=false:=(by rw [beq_eq_false_iff_ne];exact hx0)
     have HX0:=Lib.hid hx0
     rw [hx] at HNO
     clear HYES
     go_wp2_with ((go_at_call 256;refine (HW.out false).mono ?_;rintro e w' ⟨rfl,hr,hk⟩;rw [hx] at hr;obtain ⟨g0,g1,g2,g3,g4,g5⟩:=Rr.all hr))
     go_quiet (fail)
     go_wp2
     go_ret2
     exact HNO.out _ HX0.out (.inr (hk.drewN _))
   ·clear hgo hzz hp ha
    have HIL:Hid (bM (.int .i64) wr d (iG p.l)):=HP.out.ids
    have HFE:Hid (oZ s nx (n.toNat - k) p=p):=hEND
    have HFF:Hid (F=p):=by
     show F=p
     rw [← hF,hEND]
    obtain ⟨pa,pe,pl⟩:=p
    have hrd:Rr 413 wr rb s pa pe:=HP.out.rd
    obtain ⟨r0,r1,r2,r3,r4,r5⟩:=hrd.all
    have HT0:Hid (cP wr tb m ⟨nx,aA0 pl⟩):=HP.out.tb
    have HIL:Hid (bM (.int .i64) wr d (iG pl)):=HIL.out
    have HW:Hid (∀ b,Calls Tryz.prog 256 #[.pointer (some ⟨rb,0,none⟩),.bool b] wr (RrP 413 wr rb s (.tuple #[]) pa (wE pe b))):=by
     show ∀ _,_
     exact fun b=>nZ b hrd
    have HNO:Hid (∀ wx,wE pe (decide (pa=s.size)&&decide (((iG pl).length:Int)=n))≠0→K0 wr wx∨aD (fun k=>k=rb) wr wx→zQ w s (.returned (.tuple #[.pointer none,.int .i64 (wE pe (decide (pa=s.size)&&decide (((iG pl).length:Int)=n)))])) wx):=by
     show ∀ _,_→_→_
     intro wx hne hkk
     have hpe:paE s=wE pe (decide (pa=s.size)&&decide (((iG pl).length:Int)=n)):=(by rw [HPE.out,HFF.out])
     refine .inl ⟨by rw [hpe];exact hne,by rw [hpe],?_⟩
     rcases hkk with h | h
     ·exact K0.tr HP.out.k0 h
     ·exact lS HP.out.k0 h (fun k e=>e▸HB.out.b1)
    have HYES:Hid (∀ wx,wE pe (decide (pa=s.size)&&decide (((iG pl).length:Int)=n))=0→aD (fun k=>k=rb) wr wx→zQ w s (.returned (.tuple #[.pointer (some ⟨tb,0,none⟩),.int .i64 0])) wx):=by
     show ∀ _,_→_→_
     intro wx hz hkk
     have hpe:paE s=wE pe (decide (pa=s.size)&&decide (((iG pl).length:Int)=n)):=(by rw [HPE.out,HFF.out])
     have ht:=HT0.out.keep hkk (fun e=>HB.out.a1 e.symm) (fun e=>HB.out.a2 e.symm)
     refine .inr ⟨by rw [hpe];exact hz,tb,m,rfl,?_,HB.out.b2,HB.out.b3,lS HP.out.k0 hkk (fun k e=>e▸HB.out.b1)⟩
     rw [HNX.out,HFF2.out,HFF.out]
     exact ht
    have HLEN:Hid (∀ x:Nat,(iG pl).length=x→bM (.int .i64) wr d (iG pl)):=fun _ _=>HIL.out
    have hil:bM (.int .i64) wr d (iG pl):=HIL.out
    have hln:=hil.len Tryz.underlying414 3
    generalize hLL:(iG pl).length=len at HNO HYES hln
    clear hrd HP hF hEND
    by_cases h1:pa=s.size
    ·by_cases h2:(len:Int)=n
     ·have hbb:(decide (pa=(s.size:Int))&&decide ((len:Int)=n))=true:=by simp [h1,h2]
      rw [hbb] at HNO HYES
      by_cases hz:pe=0
      ·have hx:wE pe true=0:=by unfold wE;rw [if_pos hz,if_pos rfl]
       rw [hx] at HYES
       clear HNO
       go_wp2_with ((go_at_call 256;refine (HW.out true).mono ?_;rintro e w' ⟨rfl,hr,hk⟩;rw [hx] at hr;obtain ⟨g0,g1,g2,g3,g4,g5⟩:=Rr.all hr))
       go_ret2
       exact HYES.out _ (by first | rfl | trivial) hk
      ·obtain ⟨x,hx⟩:∃ x,wE pe true=x:=⟨_,rfl⟩
       have hx0:x≠0:=hx▸aDq (fun h=>hz h.1)
       have hx1:(x==0)=false:=(by rw [beq_eq_false_iff_ne];exact hx0)
       have HX0:=Lib.hid hx0
       rw [hx] at HNO
       clear HYES
       go_wp2_with ((go_at_call 256;refine (HW.out true).mono ?_;rintro e w' ⟨rfl,hr,hk⟩;rw [hx] at hr;obtain ⟨g0,g1,g2,g3,g4,g5⟩:=Rr.all hr))
       go_quiet (fail)
       go_wp2
       go_ret2
       exact HNO.out _ HX0.out (.inr (hk.drewN _))
     ·have hbb:(decide (pa=(s.size:Int))&&decide ((len:Int)=n))=false:=by simp [h2]
      have h2':((len:Int)==n)=false:=by rw [beq_eq_false_iff_ne];exact h2
      rw [hbb] at HNO HYES
      obtain ⟨x,hx⟩:∃ x,wE pe false=x:=⟨_,rfl⟩
      have hx0:x≠0:=hx▸aDq (fun h=>by cases h.2)
      have hx1:(x==0)=false:=(by rw [beq_eq_false_iff_ne];exact hx0)
      have HX0:=Lib.hid hx0
      rw [hx] at HNO
      clear HYES
      go_wp2_with ((go_at_call 256;refine (HW.out false).mono ?_;rintro e w' ⟨rfl,hr,hk⟩;rw [hx] at hr;obtain ⟨g0,g1,g2,g3,g4,g5⟩:=Rr.all hr))
      go_quiet (fail)
      go_wp2
      go_ret2
      exact HNO.out _ HX0.out (.inr (hk.drewN _))
    ·have hbb:(decide (pa=(s.size:Int))&&decide ((len:Int)=n))=false:=by simp [h1]
     have h1':(pa==(s.size:Int))=false:=by rw [beq_eq_false_iff_ne];exact h1
     rw [hbb] at HNO HYES
     obtain ⟨x,hx⟩:∃ x,wE pe false=x:=⟨_,rfl⟩
     have hx0:x≠0:=hx▸aDq (fun h=>by cases h.2)
     have hx1:(x==0)=false:=(by rw [beq_eq_false_iff_ne];exact hx0)
     have HX0:=Lib.hid hx0
     rw [hx] at HNO
     clear HYES
     go_wp2_with ((go_at_call 256;refine (HW.out false).mono ?_;rintro e w' ⟨rfl,hr,hk⟩;rw [hx] at hr;obtain ⟨g0,g1,g2,g3,g4,g5⟩:=Rr.all hr))
     go_quiet (fail)
     go_wp2
     go_ret2
     exact HNO.out _ HX0.out (.inr (hk.drewN _))
end Go.Proofs.YteapahcklcldkaaGreatDoor.Tpc
namespace Go.Proofs.YteapahcklcldkaaGreatDoor
open Go.RowKit Fx
abbrev cC:ByteArray:=⟨#[109,101,116,97,46,110,101,119]⟩
abbrev eS:ByteArray:=⟨#[109,101,116,97]⟩
section
variable {w:World} {FD:Nat→Prop} {db:Nat} {D:Dsk.aS}
theorem aBk {stb:Nat} (c0:w.cell? ⟨stb,0,none⟩=some (.pointer (some ⟨db,0,none⟩))) (hd:aU w FD db D) (wf:Dsk.fV D) (s:ByteArray) (he:Dsk.bJ D s=6) :
  Calls Tryz.prog 129 #[.pointer (some ⟨stb,0,none⟩),.string s] w (cZ w FD db (.int .i64 0) D):=by
 have HD:Hid (Calls Tryz.prog 182 #[.pointer (some ⟨db,0,none⟩),.string s] w (cZ w FD db (.int .i64 6) D)):=by
  have:=aLn hd wf s
  rwa [he,aAl he] at this
 have lt:stb<w.heap.size:=World.block_lt_of_cell? w _ c0
 clear hd wf he
 go_enter Tryz.func129,Tryz.ntmps129
 go_wp2_with fail
 refine HD.out.mono ?_
 rintro e w2 ⟨rfl,FD',h1,h2⟩
 have H1:=Lib.hid h1
 have H2:=Lib.hid h2
 clear h1 h2
 go_wp2_with fail
 go_ret
 exact ⟨rfl,FD',H1.out,H2.out⟩
theorem aUn {x3 stb:Nat} (cx:w.cell? ⟨x3,0,none⟩=some (.pointer (some ⟨stb,0,none⟩))) (c0:w.cell? ⟨stb,0,none⟩=some (.pointer (some ⟨db,0,none⟩))) (hd:aU w FD db D) (wf:Dsk.fV D) (he:Dsk.bJ D cC=6) :
  Calls Tryz.prog 201 #[.pointer (some ⟨x3,0,none⟩)] w (cZ w FD db (.int .i64 0) D):=by
 have HC:Hid (Calls Tryz.prog 129 #[.pointer (some ⟨stb,0,none⟩),.string cC] w (cZ w FD db (.int .i64 0) D)):=by
  exact aBk c0 hd wf _ he
 have lt:stb<w.heap.size:=World.block_lt_of_cell? w _ c0
 clear hd
 go_enter Tryz.func201,Tryz.ntmps201
 go_wp2_with fail
 refine HC.out.mono ?_
 rintro e w2 ⟨rfl,FD',h1,h2⟩
 have H1:=Lib.hid h1
 have H2:=Lib.hid h2
 clear h1 h2
 go_wp2_with fail
 go_ret
 exact ⟨rfl,FD',H1.out,H2.out⟩
theorem aUp {x3 stb:Nat} (cx:w.cell? ⟨x3,0,none⟩=some (.pointer (some ⟨stb,0,none⟩))) (c0:w.cell? ⟨stb,0,none⟩=some (.pointer (some ⟨db,0,none⟩))) (hd:aU w FD db D) (wf:Dsk.fV D) (he:Dsk.bJ D cC=0) :
  Calls Tryz.prog 204 #[.pointer (some ⟨x3,0,none⟩)] w (cZ w FD db (.int .i64 0) (Dsk.dJ D cC)):=by
 have HC:Hid (Calls Tryz.prog 205 #[.pointer (some ⟨db,0,none⟩),.string cC] w (cZ w FD db (.int .i64 0) (Dsk.dJ D cC))):=by
  have:=aLo hd wf cC
  rwa [he] at this
 have lt:stb<w.heap.size:=World.block_lt_of_cell? w _ c0
 clear hd
 go_enter Tryz.func204,Tryz.ntmps204
 go_wp2_with fail
 refine HC.out.mono ?_
 rintro e w2 ⟨rfl,FD',h1,h2⟩
 have H1:=Lib.hid h1
 have H2:=Lib.hid h2
 clear h1 h2
 go_wp2_with fail
 go_ret
 exact ⟨rfl,FD',H1.out,H2.out⟩
theorem aUq {x3 stb:Nat} (cx:w.cell? ⟨x3,0,none⟩=some (.pointer (some ⟨stb,0,none⟩))) (c0:w.cell? ⟨stb,0,none⟩=some (.pointer (some ⟨db,0,none⟩))) (hd:aU w FD db D) (wf:Dsk.fV D) (he:Dsk.rY D cC eS=0) :
  Calls Tryz.prog 206 #[.pointer (some ⟨x3,0,none⟩)] w (cZ w FD db (.int .i64 0) (Dsk.xH D cC eS)):=by
 have HC:Hid (Calls Tryz.prog 207 #[.pointer (some ⟨db,0,none⟩),.string cC,.string eS] w (cZ w FD db (.int .i64 0) (Dsk.xH D cC eS))):=by
  have:=aM4 hd wf cC eS
  rwa [he] at this
 have lt:stb<w.heap.size:=World.block_lt_of_cell? w _ c0
 clear hd
 go_enter Tryz.func206,Tryz.ntmps206
 go_wp2_with fail
 refine HC.out.mono ?_
 rintro e w2 ⟨rfl,FD',h1,h2⟩
 have H1:=Lib.hid h1
 have H2:=Lib.hid h2
 clear h1 h2
 go_wp2_with fail
 go_ret
 exact ⟨rfl,FD',H1.out,H2.out⟩
end
theorem aWs {g cap:Nat} {x3 x4 x5:Nat} (S:Nat→World→Prop) (hrow:∀ k wx,S k wx→wx.cell? ⟨g,0,none⟩=some (.func (Fn.func 201) #[] #[.pointer (some ⟨x3,0,none⟩)])∧wx.cell? ⟨g,1,none⟩=some (.func (Fn.func 202) #[] #[.pointer (some ⟨x3,0,none⟩),.pointer (some ⟨x4,0,none⟩),.pointer (some ⟨x5,0,none⟩)])∧wx.cell? ⟨g,2,none⟩=some (.func (Fn.func 204) #[] #[.pointer (some ⟨x3,0,none⟩)])∧wx.cell? ⟨g,3,none⟩=some (.func (Fn.func 206) #[] #[.pointer (some ⟨x3,0,none⟩)]))
  (h0:∀ wx,S 0 wx→Calls Tryz.prog 201 #[.pointer (some ⟨x3,0,none⟩)] wx fun e w'=>e=.returned (.int .i64 0)∧S 1 w')
  (h1:∀ wx,S 1 wx→Calls Tryz.prog 202 #[.pointer (some ⟨x3,0,none⟩),.pointer (some ⟨x4,0,none⟩),.pointer (some ⟨x5,0,none⟩)] wx fun e w'=>e=.returned (.int .i64 0)∧S 2 w')
  (h2:∀ wx,S 2 wx→Calls Tryz.prog 204 #[.pointer (some ⟨x3,0,none⟩)] wx fun e w'=>e=.returned (.int .i64 0)∧S 3 w')
  (h3:∀ wx,S 3 wx→Calls Tryz.prog 206 #[.pointer (some ⟨x3,0,none⟩)] wx fun e w'=>e=.returned (.int .i64 0)∧S 4 w')
  {w:World} (hw:S 0 w):Calls Tryz.prog 126 #[.slice (some ⟨g,0,none⟩) 4 cap] w fun e w'=>e=.returned (.int .i64 0)∧S 4 w':=by
 have HROW:=Lib.hid hrow
 have H0:=Lib.hid h0
 have H1:=Lib.hid h1
 have H2:=Lib.hid h2
 have H3:=Lib.hid h3
 have HS0:=Lib.hid hw
 clear hrow hw h0 h1 h2 h3
 go_enter Tryz.func126,Tryz.ntmps126
 go_wp2_with fail
 refine wp_loop_rounds 5 ?_
 rw [rounds_succ]
 obtain ⟨r0,r1,r2,r3⟩:=HROW.out _ _ HS0.out
 go_wp2_with fail
 refine (H0.out _ HS0.out).mono ?_
 rintro e w1 ⟨rfl,hs⟩
 have HS1:=Lib.hid hs
 clear hs HS0 H0 r0 r1 r2 r3
 go_wp2_with fail
 rw [rounds_succ]
 obtain ⟨r0,r1,r2,r3⟩:=HROW.out _ _ HS1.out
 go_wp2_with fail
 refine (H1.out _ HS1.out).mono ?_
 rintro e w2 ⟨rfl,hs⟩
 have HS2:=Lib.hid hs
 clear hs HS1 H1 r0 r1 r2 r3
 go_wp2_with fail
 rw [rounds_succ]
 obtain ⟨r0,r1,r2,r3⟩:=HROW.out _ _ HS2.out
 go_wp2_with fail
 refine (H2.out _ HS2.out).mono ?_
 rintro e w3 ⟨rfl,hs⟩
 have HS3:=Lib.hid hs
 clear hs HS2 H2 r0 r1 r2 r3
 go_wp2_with fail
 rw [rounds_succ]
 obtain ⟨r0,r1,r2,r3⟩:=HROW.out _ _ HS3.out
 go_wp2_with fail
 refine (H3.out _ HS3.out).mono ?_
 rintro e w4 ⟨rfl,hs⟩
 have HS4:=Lib.hid hs
 clear hs HS3 H3 r0 r1 r2 r3
 go_wp2_with fail
 rw [rounds_succ]
 go_wp2_with fail
 go_ret
 exact ⟨rfl,HS4.out⟩
def mI (nx:Int) (R:Tpc.gG):ByteArray:=putB nx++Tpc.bE R
section
variable {w:World} {FD:Nat→Prop} {db:Nat} {D:Dsk.aS}
theorem aUo {x3 x4 x5 stb tb tm:Nat} {nx:Int} {t R:Tpc.gG} (cx:w.cell? ⟨x3,0,none⟩=some (.pointer (some ⟨stb,0,none⟩))) (c0:w.cell? ⟨stb,0,none⟩=some (.pointer (some ⟨db,0,none⟩))) (c4:w.cell? ⟨x4,0,none⟩=some (.int .i64 nx)) (c5:w.cell? ⟨x5,0,none⟩=some (.pointer (some ⟨tb,0,none⟩)))
  (hd:aU w FD db D) (wf:Dsk.fV D) (hn:0≤nx∧nx≤1073741824) (ht:Tpc.cP w tb tm t) (hs:Tpc.mS t R) (hw:Tpc.tS t) (he:Dsk.fQ D cC (mI nx R)=0) :
  Calls Tryz.prog 202 #[.pointer (some ⟨x3,0,none⟩),.pointer (some ⟨x4,0,none⟩),.pointer (some ⟨x5,0,none⟩)] w (cZ w FD db (.int .i64 0) (Dsk.cL D cC (mI nx R))):=by
 have hR:Tpc.tS R:=hs.wf hw
 have hz1:(Tpc.bE R).size≤2620:=(by have:=Tpc.mZ hR R.all.length;rw [List.take_length] at this;exact this)
 have hz2:(putB nx).size≤10:=bU aA
 have HPU:Hid (∀ wx,Calls Tryz.prog 172 #[.int .i64 nx] wx fun e w'=>e=.returned (.string (putB nx))∧K0 wx w'):=fun wx=>rB nx wx ⟨by omega,by omega⟩
 have HPR0:Hid (∀ wx,K0 w wx→Calls Tryz.prog 200 #[.pointer (some ⟨tb,0,none⟩)] wx fun e w'=>e=.returned (.string (Tpc.bE R))∧K0 wx w'):=fun wx k=>Tpc.aBv (ht.keep k (fun e=>e) (fun e=>e)) hs hw
 have HAP0:Hid (∀ wx,K0 w wx→Calls Tryz.prog 203 #[.pointer (some ⟨db,0,none⟩),.string cC,.string (putB nx++Tpc.bE R)] wx (cZ wx FD db (.int .i64 0) (Dsk.cL D cC (mI nx R)))):=fun wx k=>by
  have:=aCx (hd.k0 k) wf cC (mI nx R) (by unfold mI;rw [ByteArray.size_append];omega)
  rwa [he] at this
 have lt0:stb<w.heap.size:=World.block_lt_of_cell? w _ c0
 have z1:¬ 9223372036854775807<(putB nx).size+(Tpc.bE R).size:=aA
 have z2:((putB nx).size:Int)+(Tpc.bE R).size≤9223372036854775807:=aA
 have z3:(putB nx).size+(Tpc.bE R).size≤9223372036854775807:=aA
 clear hd he ht hw hs hR hz1 hz2
 generalize Tpc.bE R=pt at HPR0 HAP0 z1 z2 z3
 generalize putB nx=pn at HPU HAP0 z1 z2 z3
 go_enter Tryz.func202,Tryz.ntmps202
 go_wp2_with fail
 obtain ⟨W3,hW3⟩:∃ W3,W3=w:=⟨_,rfl⟩
 rw [← hW3] at HPR0 HAP0 cx c0 c4 c5 lt0 ⊢
 have HPR:=HPR0
 have HAP:=HAP0
 have HW3:=Lib.hid hW3
 clear hW3 HPR0 HAP0
 refine aX 9 (fun w'=>w'.cell? ⟨x3,0,none⟩=some (.pointer (some ⟨stb,0,none⟩))∧w'.cell? ⟨stb,0,none⟩=some (.pointer (some ⟨db,0,none⟩))∧w'.cell? ⟨x4,0,none⟩=some (.int .i64 nx)∧w'.cell? ⟨x5,0,none⟩=some (.pointer (some ⟨tb,0,none⟩))) (fun _=>True) aF ⟨by go_simp,by go_simp,by go_simp,by go_simp⟩ trivial (fun hS=>?_)
 refine tA 0 hS (fun hS=>?_)
 simp only [Act.put,Sw]
 refine tB 1 hS (fun hS=>?_)
 simp only [Act.put]
 refine tB 2 hS (fun hS=>?_)
 simp only [Act.put]
 refine tA 3 hS (fun hS=>?_)
 simp only [Act.put]
 refine tA 4 hS (fun hS=>?_)
 simp only [Act.put]
 refine tA 6 hS (fun hS=>?_)
 simp only [Act.put]
 refine tO 5 (fun K hK=>?_)
 go_simp
 refine (HPU.out _).mono ?_
 rintro e wb ⟨rfl,kb⟩
 have kWb:K0 W3 wb:=K0.tr (aD.drew (aD.refl _ _)) kb
 have HKB:=Lib.hid kWb
 go_simp
 refine hK.out _ _ ⟨fun _=>⟨by (first | assumption | exact trivial | exact kWc.cell' aG (fun e=>e) | exact kWb.cell' aG (fun e=>e) | go_simp),by (first | assumption | exact trivial | exact kWc.cell' aG (fun e=>e) | exact kWb.cell' aG (fun e=>e) | go_simp),by (first | assumption | exact trivial | exact kWc.cell' aG (fun e=>e) | exact kWb.cell' aG (fun e=>e) | go_simp),by (first | assumption | exact trivial | exact kWc.cell' aG (fun e=>e) | exact kWb.cell' aG (fun e=>e) | go_simp)⟩,trivial⟩ (fun hS=>?_)
 clear hK K
 try simp only [Act.put,Sw]
 refine tO 7 (fun K hK=>?_)
 go_simp
 ((with_reducible refine Calls.mono (HPR.out _ ?_) ?_);· exact HKB.out)
 rintro e wc ⟨rfl,kc⟩
 have kWc:K0 W3 wc:=K0.tr HKB.out kc
 have HKC:=Lib.hid kWc
 go_simp
 refine hK.out _ _ ⟨fun _=>⟨by (first | assumption | exact trivial | exact kWc.cell' aG (fun e=>e) | exact kWb.cell' aG (fun e=>e) | go_simp),by (first | assumption | exact trivial | exact kWc.cell' aG (fun e=>e) | exact kWb.cell' aG (fun e=>e) | go_simp),by (first | assumption | exact trivial | exact kWc.cell' aG (fun e=>e) | exact kWb.cell' aG (fun e=>e) | go_simp),by (first | assumption | exact trivial | exact kWc.cell' aG (fun e=>e) | exact kWb.cell' aG (fun e=>e) | go_simp)⟩,trivial⟩ (fun hS=>?_)
 clear hK K
 try simp only [Act.put,Sw]
 refine tB 8 hS (fun hS=>?_)
 simp only [Act.put,Sw]
 refine tO 9 (fun K hK=>?_)
 go_simp
 ((with_reducible refine Calls.mono (HAP.out _ ?_) ?_);· exact HKC.out)
 rintro e w5 ⟨rfl,FD',hD5,hM5⟩
 have HD5:=Lib.hid hD5
 have HM5:=Lib.hid hM5
 clear hD5 hM5
 go_simp
 refine hK.out _ _ ⟨fun e=>absurd e aE,trivial⟩ (fun hS=>?_)
 clear hK K
 try simp only [Act.put,Sw]
 refine tO 10 (fun K hK=>?_)
 go_simp
 refine hK.out _ _ ⟨fun e=>absurd e aE,trivial⟩ (fun hS=>?_)
 clear hK K
 try simp only [Act.put,Sw]
 refine bC aF ?_ _
 skip
 go_wp2_with fail
 go_ret
 have hh:=HW3.out
 subst hh
 exact ⟨rfl,FD',HD5.out,aP.k0_left HKC.out HM5.out⟩
end
def sA (D:Dsk.aS) (txt:ByteArray):Dsk.aS:=Dsk.xH (Dsk.dJ (Dsk.cL D cC txt) cC) cC eS
structure aIt (D:Dsk.aS) (txt:ByteArray):Prop where
 wf:Dsk.fV D
 none:Dsk.bJ D cC=6
 app:Dsk.fQ D cC txt=0
 wf1:Dsk.fV (Dsk.cL D cC txt)
 is1:Dsk.bJ (Dsk.cL D cC txt) cC=0
 wf2:Dsk.fV (Dsk.dJ (Dsk.cL D cC txt) cC)
 ren:Dsk.rY (Dsk.dJ (Dsk.cL D cC txt) cC) cC eS=0
def aXi (D:Dsk.aS) (txt:ByteArray) (k:Nat):Dsk.aS:=
 if k≤1 then D else if k=2 then Dsk.cL D cC txt else if k=3 then Dsk.dJ (Dsk.cL D cC txt) cC else sA D txt
def WrS (W:World) (FD:Nat→Prop) (db:Nat) (D:Dsk.aS) (txt:ByteArray) (k:Nat) (wx:World):Prop:=∃ FD1,aU wx FD1 db (aXi D txt k)∧aP FD FD1 W wx
theorem aKv {w:World} {FD:Nat→Prop} {db:Nat} {D:Dsk.aS} {stb tb tm:Nat} {nx:Int} {t R:Tpc.gG} (c0:w.cell? ⟨stb,0,none⟩=some (.pointer (some ⟨db,0,none⟩))) (hd:aU w FD db D) (hsf:¬ FD stb) (htf:¬ FD tb∧¬ FD tm) (hn:0≤nx∧nx≤1073741824) (ht:Tpc.cP w tb tm t) (hs:Tpc.mS t R) (hw:Tpc.tS t) (hm:aIt D (mI nx R)) :
  Calls Tryz.prog 138 #[.pointer (some ⟨stb,0,none⟩),.int .i64 nx,.pointer (some ⟨tb,0,none⟩)] w (cZ w FD db (.int .i64 0) (sA D (mI nx R))):=by
 have HA:Hid (∀ W,K0 w W→W.cell? ⟨w.heap.size,0,none⟩=some (.pointer (some ⟨stb,0,none⟩))→W.cell? ⟨w.heap.size+1,0,none⟩=some (.int .i64 nx)→W.cell? ⟨w.heap.size+1+1,0,none⟩=some (.pointer (some ⟨tb,0,none⟩))→W.heap[w.heap.size+1+1+1]?=some (.cells #[.func (Fn.func 201) #[] #[.pointer (some ⟨w.heap.size,0,none⟩)],.func (Fn.func 202) #[] #[.pointer (some ⟨w.heap.size,0,none⟩),.pointer (some ⟨w.heap.size+1,0,none⟩),.pointer (some ⟨w.heap.size+1+1,0,none⟩)],.func (Fn.func 204) #[] #[.pointer (some ⟨w.heap.size,0,none⟩)],.func (Fn.func 206) #[] #[.pointer (some ⟨w.heap.size,0,none⟩)]] 122 (0,0))→
   Calls Tryz.prog 126 #[.slice (some ⟨w.heap.size+1+1+1,0,none⟩) 4 4] W fun e w'=>e=.returned (.int .i64 0)∧WrS W FD db D (mI nx R) 4 w'):=fun W k e3 e4 e5 bg=>by
  have hlt:∀ {x:Nat},w.heap.size≤x→¬ FD x:=fun hx e=>by have:=hd.lt _ e;omega
  have n3:¬ FD w.heap.size:=hlt (Nat.le_refl _)
  have n4:¬ FD (w.heap.size+1):=hlt aA
  have n5:¬ FD (w.heap.size+1+1):=hlt aA
  have ng:¬ FD (w.heap.size+1+1+1):=hlt aA
  have c0':=k.cell' c0 (fun e=>e)
  refine aWs (x3:=w.heap.size) (x4:=w.heap.size+1) (x5:=w.heap.size+1+1) (WrS W FD db D (mI nx R)) (fun j wx hj=>?_) (fun wx hj=>?_) (fun wx hj=>?_) (fun wx hj=>?_) (fun wx hj=>?_) ⟨FD,hd.k0 k,aP.refl _ _⟩
  ·obtain ⟨FD1,_,hM⟩:=hj
   have hg:∀ i v,W.cell? ⟨w.heap.size+1+1+1,i,none⟩=some v→wx.cell? ⟨w.heap.size+1+1+1,i,none⟩=some v:=fun i v e=>hM.keeps.cell' e ng
   exact ⟨hg _ _ (aB bg 0),hg _ _ (aB bg 1),hg _ _ (aB bg 2),hg _ _ (aB bg 3)⟩
  ·obtain ⟨FD1,h1,hM⟩:=hj
   refine (aUn (hM.keeps.cell' e3 n3) (hM.keeps.cell' c0' hsf) h1 hm.wf hm.none).mono ?_
   rintro e w' ⟨rfl,FD2,h2,m2⟩
   exact ⟨rfl,FD2,h2,hM.trans m2⟩
  ·obtain ⟨FD1,h1,hM⟩:=hj
   refine (aUo (hM.keeps.cell' e3 n3) (hM.keeps.cell' c0' hsf) (hM.keeps.cell' e4 n4) (hM.keeps.cell' e5 n5) h1 hm.wf hn ((ht.keep k (fun e=>e) (fun e=>e)).keep hM.keeps htf.1 htf.2) hs hw hm.app).mono ?_
   rintro e w' ⟨rfl,FD2,h2,m2⟩
   exact ⟨rfl,FD2,h2,hM.trans m2⟩
  ·obtain ⟨FD1,h1,hM⟩:=hj
   refine (aUp (hM.keeps.cell' e3 n3) (hM.keeps.cell' c0' hsf) h1 hm.wf1 hm.is1).mono ?_
   rintro e w' ⟨rfl,FD2,h2,m2⟩
   exact ⟨rfl,FD2,h2,hM.trans m2⟩
  ·obtain ⟨FD1,h1,hM⟩:=hj
   refine (aUq (hM.keeps.cell' e3 n3) (hM.keeps.cell' c0' hsf) h1 hm.wf2 hm.ren).mono ?_
   rintro e w' ⟨rfl,FD2,h2,m2⟩
   exact ⟨rfl,FD2,h2,hM.trans m2⟩
 clear c0 hd hsf htf hn ht hs hw hm
 generalize mI nx R=txt at HA ⊢
 go_enter Tryz.func138,Tryz.ntmps138
 go_wp2_with fail
 obtain ⟨W,hW⟩:∃ W,W=(((w.alloc (.cells #[.pointer (some ⟨stb,0,none⟩)] 140)).alloc (.cells #[.int .i64 nx] 3)).alloc (.cells #[.pointer (some ⟨tb,0,none⟩)] 102)).alloc (.cells #[.func (Fn.func 201) #[] #[.pointer (some ⟨w.heap.size,0,none⟩)],.func (Fn.func 202) #[] #[.pointer (some ⟨w.heap.size,0,none⟩),.pointer (some ⟨w.heap.size+1,0,none⟩),.pointer (some ⟨w.heap.size+1+1,0,none⟩)],.func (Fn.func 204) #[] #[.pointer (some ⟨w.heap.size,0,none⟩)],.func (Fn.func 206) #[] #[.pointer (some ⟨w.heap.size,0,none⟩)]] 122):=⟨_,rfl⟩
 rw [← hW]
 have KW:K0 w W:=(by rw [hW];exact ((((aD.refl _ _).alloc _).alloc _).alloc _).alloc _)
 have HKW:=Lib.hid KW
 refine (HA.out W KW (by rw [hW];exact aB (aL (aL (aL (aI w _ _ rfl) _) _) _) 0) (by rw [hW];exact aB (aL (aL (aI _ _ _ aK) _) _) 0) (by rw [hW];exact aB (aL (aI _ _ _ (by simp)) _) 0) (by rw [hW];exact aI _ _ _ (by simp))).mono ?_
 rintro e w2 ⟨rfl,FD',h1,h2⟩
 have H1:=Lib.hid h1
 have H2:=Lib.hid h2
 clear h1 h2 hW KW HA
 go_wp2_with fail
 go_ret
 exact ⟨rfl,FD',H1.out,aP.k0_left HKW.out H2.out⟩
def qJ (i:Nat):ByteArray:=⟨(Lib.decDigits i).toArray⟩
def fE (id ix:Nat):ByteArray:=(⟨#[112]⟩++qJ id)++⟨#[46]⟩++qJ ix
theorem qZ (id ix:Nat) (h1:id<100) (h2:ix<100) (hz:(qJ id).size≤10∧(qJ ix).size≤10) (w:World):Calls Tryz.prog 187 #[.agg #[.int .i64 id,.int .i64 ix]] w fun e w'=>e=.returned (.string (fE id ix))∧K0 w w':=by
 have HI1:Hid (∀ wx,Calls Tryz.prog 261 #[.int .i64 id] wx fun e w'=>e=.returned (.string (qJ id))∧w'=wx):=fun wx=>Tryz.strconv_Itoa_small id h1 wx
 have HI2:Hid (∀ wx,Calls Tryz.prog 261 #[.int .i64 ix] wx fun e w'=>e=.returned (.string (qJ ix))∧w'=wx):=fun wx=>Tryz.strconv_Itoa_small ix h2 wx
 unfold fE
 obtain ⟨z1,z2⟩:=hz
 generalize qJ id=a at HI1 z1 ⊢
 generalize qJ ix=b at HI2 z2 ⊢
 have y1:¬ 9223372036854775807<1+a.size:=aA
 have y2:¬ 9223372036854775807<1+a.size+1:=aA
 have y3:¬ 9223372036854775807<1+a.size+1+b.size:=aA
 have y4:(1:Int)+a.size≤9223372036854775807:=aA
 have y5:(1:Int)+a.size+1≤9223372036854775807:=aA
 have y6:(1:Int)+a.size+1+b.size≤9223372036854775807:=aA
 have e1:(⟨#[112]⟩:ByteArray).size=1:=rfl
 have e2:(⟨#[46]⟩:ByteArray).size=1:=rfl
 have x1:¬ 9223372036854775807<(⟨#[112]⟩:ByteArray).size+a.size:=by rw [e1];omega
 have x2:¬ 9223372036854775807<(⟨#[112]⟩++a:ByteArray).size+(⟨#[46]⟩:ByteArray).size:=by rw [ByteArray.size_append,e1,e2];omega
 have x3:¬ 9223372036854775807<(⟨#[112]⟩++a++⟨#[46]⟩:ByteArray).size+b.size:=by rw [ByteArray.size_append,ByteArray.size_append,e1,e2];omega
 clear h1 h2 e1 e2
 go_enter Tryz.func187,Tryz.ntmps187
 go_upto_region 1 with fail
 obtain ⟨W,hW⟩:∃ W,W=w.alloc (.cells #[.int .i64 id,.int .i64 ix] 280):=⟨_,rfl⟩
 have q0:W.cell? ⟨w.heap.size,0,none⟩=some (.int .i64 id):=by rw [hW];exact aB (aI w _ _ rfl) 0
 have q1:W.cell? ⟨w.heap.size,1,none⟩=some (.int .i64 ix):=by rw [hW];exact aB (aI w _ _ rfl) 1
 have HK:Hid (K0 w W):=(by rw [hW];exact (aD.refl _ _).alloc _)
 rw [← hW]
 clear hW
 go_quiet ((first
  | (go_at_call 261;exact Calls.quiet_of_same (HI1.out _))
  | (go_at_call 261;exact Calls.quiet_of_same (HI2.out _))))
 go_wp2_with fail
 go_ret
 exact ⟨rfl,HK.out.trans ((aD.refl _ _).drewN _) (fun _ _ e=>e)⟩
theorem aTs:(Tryz.prog.info? 280).map (fun i=>(i.zero,i.size,i.bytes))=some (some (.agg #[.int .i64 0,.int .i64 0]),2,16):=by kernel_rfl
section
variable {w:World} {stb tb tm:Nat} {nx:Int}
theorem aHu (c3:w.cell? ⟨stb,3,none⟩=some (.pointer (some ⟨tb,0,none⟩))) (ht:Tpc.cP w tb tm ⟨nx,[]⟩) :
  Calls Tryz.prog 183 #[.pointer (some ⟨stb,0,none⟩)] w fun e w'=>e=.returned (.slice none 0 0)∧K0 w w':=by
 have HL:Hid (Calls Tryz.prog 39 #[.pointer (some ⟨tb,0,none⟩)] w fun e w'=>(∃ a c,e=.returned (.slice a 0 c))∧K0 w w'):=by
  refine (Tpc.zC ht (by simp [KD]) (fun p hp=>by cases hp) (Nat.zero_le _)).mono ?_
  rintro e w' ⟨a,c,ss,rfl,hp,_,_,k⟩
  have:ss=[]:=List.perm_nil.1 hp
  subst this
  exact ⟨⟨a,c,rfl⟩,k⟩
 have lt:stb<w.heap.size:=World.block_lt_of_cell? w _ c3
 clear ht
 go_enter Tryz.func183,Tryz.ntmps183
 go_wp2_with fail
 refine HL.out.mono ?_
 rintro e w1 ⟨⟨a,c,rfl⟩,k⟩
 have HK:=Lib.hid k
 clear k c3 lt
 go_wp2_with fail
 refine wp_loop_rounds 1 ?_
 rw [rounds_succ]
 go_wp2_with fail
 go_ret
 exact ⟨rfl,HK.out⟩
theorem aJ6 {s:ByteArray} {id:Int} (c3:w.cell? ⟨stb,3,none⟩=some (.pointer (some ⟨tb,0,none⟩))) (ht:Tpc.cP w tb tm ⟨nx,[(s,(id,1))]⟩) (hs:s.size≤100) :
  Calls Tryz.prog 183 #[.pointer (some ⟨stb,0,none⟩)] w fun e w'=>∃ g c,e=.returned (.slice (some ⟨g,0,none⟩) 1 c)∧w'.cell? ⟨g,0,none⟩=some (.int .i64 id)∧w'.cell? ⟨g,1,none⟩=some (.int .i64 0)∧w.heap.size≤g∧K0 w w':=by
 have HL:Hid (Calls Tryz.prog 39 #[.pointer (some ⟨tb,0,none⟩)] w fun e w'=>(∃ g off c,e=.returned (.slice (some ⟨g,off,none⟩) 1 c)∧w'.cell? ⟨g,off,none⟩=some (.string s)∧w'.cell? ⟨g,off+1,none⟩=some (.int .i64 1))∧K0 w w'):=by
  refine (Tpc.zC ht (by simp [KD]) (fun p hp=>by have:=List.mem_singleton.1 hp;subst this;show s.size≤_;omega) aK).mono ?_
  rintro e w' ⟨a,c,ss,rfl,hp,_,hsl,k⟩
  have:ss=[s]:=List.perm_singleton.1 hp
  subst this
  have hT:Tpc.gE ⟨nx,[(s,(id,1))]⟩ [s]=[(s,1)]:=by simp [Tpc.gE,Tpc.wO,aQ]
  rw [hT] at hsl
  obtain ⟨g,off,rfl,hrow⟩:=hsl.2.2 aK
  obtain ⟨cs,hc1,hc2⟩:=hrow 0 aK
  have e1:cs=[.string s,.int .i64 1]:=hc2.2
  subst e1
  have h0:=hc2.1 0 aA
  have h1:=hc2.1 1 aA
  exact ⟨⟨g,off,c,rfl,by simpa using h0,by simpa using h1⟩,k⟩
 have HF:Hid (∀ wx,K0 w wx→Calls Tryz.prog 87 #[.pointer (some ⟨tb,0,none⟩),.string s] wx fun e w'=>e=.returned (.tuple #[.int .i64 id,.int .i64 1,.int .i64 0])∧K0 wx w'):=fun wx k=>by
  refine (Tpc.aEe tb tm _ s wx (ht.keep k (fun e=>e) (fun e=>e))).mono ?_
  rintro e w' ⟨rfl,k'⟩
  exact ⟨by simp [Tpc.gG.find,aQ],k'⟩
 have lt:stb<w.heap.size:=World.block_lt_of_cell? w _ c3
 clear ht hs
 go_enter Tryz.func183,Tryz.ntmps183
 go_wp2_with fail
 refine HL.out.mono ?_
 rintro e w1 ⟨⟨g,off,c,rfl,r0,r1⟩,k⟩
 have c3':=k.cell' c3 (fun e=>e)
 have lt':stb<w1.heap.size:=Nat.lt_of_lt_of_le lt k.size
 have HK:=Lib.hid k
 clear k c3 lt
 go_wp2_with fail
 refine wp_loop_rounds 2 ?_
 rw [rounds_succ]
 go_upto_region 5 with fail
 obtain ⟨W,hW⟩:∃ W,W=w1.alloc (.cells #[.string s,.int .i64 1] 36):=⟨_,rfl⟩
 have q0:W.cell? ⟨w1.heap.size,0,none⟩=some (.string s):=by rw [hW];exact aB (aI w1 _ _ rfl) 0
 have q1:W.cell? ⟨w1.heap.size,1,none⟩=some (.int .i64 1):=by rw [hW];exact aB (aI w1 _ _ rfl) 1
 have KW:K0 w1 W:=(by rw [hW];exact (aD.refl _ _).alloc _)
 have c3w:=KW.cell' c3' (fun e=>e)
 have ltw:stb<W.heap.size:=Nat.lt_of_lt_of_le lt' KW.size
 have HKW:Hid (K0 w W):=K0.tr HK.out KW
 have HFW:Hid (∀ wx,K0 W wx→Calls Tryz.prog 87 #[.pointer (some ⟨tb,0,none⟩),.string s] wx fun e w'=>e=.returned (.tuple #[.int .i64 id,.int .i64 1,.int .i64 0])∧K0 wx w'):=fun wx k=>HF.out wx (K0.tr HKW.out k)
 rw [← hW]
 clear hW r0 r1 c3' lt' KW HF HL
 go_region_held3 (fun w':World=>K0 W w'∧w'.cell? ⟨stb,3,none⟩=some (.pointer (some ⟨tb,0,none⟩))∧w'.cell? ⟨w1.heap.size,0,none⟩=some (.string s)∧w'.cell? ⟨w1.heap.size,1,none⟩=some (.int .i64 1))
  (first | exact ⟨(aD.refl _ _).drew,by first | assumption | go_simp,by first | assumption | go_simp,by first | assumption | go_simp⟩ | (go_split_ands;exact ⟨K0.tr aG kk,kk.cell' aG (fun e=>e),kk.cell' aG (fun e=>e),kk.cell' aG (fun e=>e)⟩))
  (first
   | (go_at_call 87;go_split_ands;refine (HFW.out _ (by assumption)).mono ?_;rintro e w' ⟨rfl,kk⟩))
 clear c3w q0 q1 ltw HFW
 go_split_ands
 rename World=>w4
 rename_i K4
 have K5:K0 W w4:=aG
 have HK5:Hid (K0 w w4):=K0.tr HKW.out K5
 have HZ5:Hid (w.heap.size≤w4.heap.size):=HK5.out.size
 clear K5
 go_wp2_with fail
 refine wp_loop_rounds 2 ?_
 rw [rounds_succ]
 go_wp2_with (at_builtin;refine bW (v:=.slice none 0 0) (n:=0) (xs:=[]) rfl rfl Tryz.underlying345 aTs rfl aE rfl (World.ownsRow_nil _ w.heap.size _ _) rfl (aI _ _ _ rfl) rfl rfl ⟨by decide,by decide⟩ (by have:=HZ5.out;simp;omega) ?_;intro g5 c5 w5 hA5;have HA5:=Lib.hid hA5;clear hA5)
 rw [rounds_succ]
 go_wp2_with fail
 rw [rounds_succ]
 go_wp2_with fail
 go_ret
 have hr:=HA5.out.own
 exact ⟨g5,c5,rfl,hr.cellAt 0 aA,hr.cellAt 1 aA,(hr.lt g5 rfl).1,((HK5.out.alloc _).trans ((aD.refl (fun _=>False) _).grown HA5.out.grown (fun j e _=>by cases e)) (fun _ _ e=>e))⟩
end
theorem aLk (a b:ByteArray):Lib.hasPrefix (a++b).data.toList a.data.toList=true:=by
 unfold Lib.hasPrefix
 rw [List.isPrefixOf_iff_prefix]
 exact ⟨b.data.toList,by simp [ByteArray.data_append]⟩
theorem aP7 (a b:ByteArray):(⟨(Lib.trimPrefix (a++b).data.toList a.data.toList).toArray⟩:ByteArray)=b:=by
 unfold Lib.trimPrefix
 rw [aLk]
 simp [ByteArray.data_append]
theorem aN1 (pre:ByteArray) (n:Nat) (w:World):Calls Tryz.prog 186 #[.string pre,.string (bB pre n)] w fun e w'=>e=.returned (.bool true)∧w'=w:=by
 have hn:bB pre n=pre++(⟨#[45]⟩++bP (jR 13 n)):=by unfold bB;rw [ByteArray.append_assoc]
 rw [hn]
 have HP:=Lib.hid (aLk pre (⟨#[45]⟩++bP (jR 13 n)))
 have HR:=Lib.hid (aP7 pre (⟨#[45]⟩++bP (jR 13 n)))
 obtain ⟨t,ht⟩:∃ t:ByteArray,t=⟨#[45]⟩++bP (jR 13 n):=⟨_,rfl⟩
 have hsz:t.size=14:=by rw [ht,ByteArray.size_append,dC,jL];rfl
 have h0:t[0]'aA=45:=by subst ht;rfl
 rw [← ht] at HP HR ⊢
 have n3:¬ t.toList=[]:=fun e=>by rw [uM] at e;omega
 have n4:t.toList.isEmpty=false:=(by simpa using n3)
 have n5:0<t.size:=aA
 have n6:(0:Int)<t.size:=aA
 clear ht hn
 go_enter Tryz.func186,Tryz.ntmps186
 go_wp2_with fail
 refine (Tryz.strings_CutPrefix _ _ _).mono ?_
 rintro e w1 ⟨rfl,rfl⟩
 rw [HP.out,HR.out]
 go_wp2_with fail
 go_ret
 exact ⟨rfl,rfl⟩
def isP (s:ByteArray):Bool:=Lib.hasPrefix s.data.toList [112]
theorem aOv {w:World} {FD:Nat→Prop} {db:Nat} {D:Dsk.aS} {stb id:Nat} (hid:id<100) (hz:(qJ id).size≤10) (c0:w.cell? ⟨stb,0,none⟩=some (.pointer (some ⟨db,0,none⟩))) (hd:aU w FD db D) (wf:Dsk.fV D) (hfu:¬ D.fuse=0) (hfl:D.files.length≤900)
  (hpl:∀ wx,K0 w wx→Calls Tryz.prog 183 #[.pointer (some ⟨stb,0,none⟩)] wx fun e w'=>∃ g c,e=.returned (.slice (some ⟨g,0,none⟩) 1 c)∧w'.cell? ⟨g,0,none⟩=some (.int .i64 id)∧w'.cell? ⟨g,1,none⟩=some (.int .i64 0)∧wx.heap.size≤g∧K0 wx w')
  (hnm:∀ s∈Dsk.cR D.files,isP s=false∨isP s=true∧∃ n,s=bB (fE id 0) n) :
  Calls Tryz.prog 130 #[.pointer (some ⟨stb,0,none⟩)] w fun e w'=>e=.returned (.int .i64 0)∧K0 w w':=by
 have HNM:Hid (∀ wx,K0 w wx→Calls Tryz.prog 184 #[.pointer (some ⟨db,0,none⟩)] wx (Dsk.lX wx D)):=fun wx k=>aAm (hd.k0 k) wf aA
 have HPL:=Lib.hid hpl
 have HN:=Lib.hid hnm
 have HFU:=Lib.hid hfu
 have HFL:=Lib.hid hfl
 have HPF:Hid (∀ wx,Calls Tryz.prog 187 #[.agg #[.int .i64 id,.int .i64 0]] wx fun e w'=>e=.returned (.string (fE id 0))∧K0 wx w'):=fun wx=>qZ id 0 hid aA ⟨hz,by unfold qJ;rw [Lib.decDigits];decide⟩ wx
 have lt:stb<w.heap.size:=World.block_lt_of_cell? w _ c0
 clear hd wf hfu hfl hpl hnm
 go_enter Tryz.func130,Tryz.ntmps130
 go_wp2_with fail
 go_step3
 go_wp2_with fail
 refine (HPL.out _ (aD.refl _ _)).mono ?_
 rintro e w1 ⟨g0,cp0,rfl,p0,p1,_,k1⟩
 have c0':=k1.cell' c0 (fun e=>e)
 have lt':stb<w1.heap.size:=Nat.lt_of_lt_of_le lt k1.size
 have HK1:=Lib.hid k1
 clear k1 c0 lt
 go_wp2_with fail
 go_step3
 go_wp2_with fail
 refine (HNM.out _ HK1.out).mono ?_
 rintro e w2 ⟨a,c,ss,rfl,hS,k2,_,hp,hnew⟩
 obtain ⟨hperm,_⟩:=hp HFU.out
 have HS:=Lib.hid hS
 have HK2:Hid (K0 w w2):=K0.tr HK1.out k2
 have p0':=k2.cell' p0 (fun e=>e)
 have p1':=k2.cell' p1 (fun e=>e)
 have HP0:=Lib.hid p0'
 have HP1:=Lib.hid p1'
 have HPERM:=Lib.hid hperm
 have hsl:ss.length≤900:=(by have h1:=hperm.length_eq;have:=HFL.out;simp [Dsk.cR] at h1;omega)
 clear hS k2 hp hnew hperm p0 p1 p0' p1' c0' lt'
 go_wp2_with fail
 go_loopw [17] (fun iv wr=>∃ i:Nat,iv=.int .i64 i∧i≤ss.length∧Hid (K0 w2 wr)) (fun iv _=>ss.length - (intOf iv).toNat)
 case atStart=>exact ⟨0,rfl,by omega,(aD.refl _ _:K0 w2 w2)⟩
 case round=>
  obtain ⟨i,rfl,hil,HKr⟩:=hrel
  have i0:(0:Int)≤i:=aA
  by_cases hi:i<ss.length
  ·have i1:(i:Int)<ss.length:=by omega
   obtain ⟨g,hga,hgl,hgc⟩:=HS.out.row (by intro e;rw [e] at hi;simp at hi)
   subst hga
   have cg:wr.cell? ⟨g,i,none⟩=some (.string ss[i]):=HKr.out.cell' (hgc i hi) (fun e=>e)
   have hs:=HN.out ss[i] ((HPERM.out.mem_iff).1 (List.getElem_mem hi))
   clear hgc hgl
   have HHP:Hid (∀ wx,Calls Tryz.prog 185 #[.string ss[i],.string ⟨#[112]⟩] wx fun e w'=>e=.returned (.bool (isP ss[i]))∧w'=wx):=fun wx=>Tryz.strings_HasPrefix _ _ wx
   rcases hs with hs | ⟨hs,n,hs2⟩
   ·rw [hs] at HHP
    clear hs
    go_wp2_with fail
    refine (HHP.out _).mono ?_
    rintro e w3 ⟨rfl,rfl⟩
    clear cg
    go_wp2_with fail
    go_roundw
    case rel=>exact ⟨i+1,by go_num,by omega,HKr⟩
    case measure=>simp [intOf];omega
   ·rw [hs] at HHP
    have HOW:Hid (∀ wx,Calls Tryz.prog 186 #[.string (fE id 0),.string ss[i]] wx fun e w'=>e=.returned (.bool true)∧w'=wx):=fun wx=>by rw [hs2];exact aN1 _ n wx
    clear hs hs2
    go_wp2_with fail
    refine (HHP.out _).mono ?_
    rintro e w3 ⟨rfl,rfl⟩
    clear cg
    have p0:=HKr.out.cell' HP0.out (fun e=>e)
    have p1:=HKr.out.cell' HP1.out (fun e=>e)
    go_wp2_with fail
    refine wp_loop_rounds 1 ?_
    rw [rounds_succ]
    go_wp2_with fail
    refine (HPF.out _).mono ?_
    rintro e w4 ⟨rfl,k4⟩
    have HK4:Hid (K0 w2 w4):=K0.tr HKr.out (K0.tr ((aD.refl (fun _=>False) _).alloc _) k4)
    clear k4 p0 p1
    go_wp2_with fail
    refine (HOW.out _).mono ?_
    rintro e w5 ⟨rfl,rfl⟩
    go_wp2_with fail
    go_roundw
    case rel=>exact ⟨i+1,by go_num,by omega,HK4⟩
    case measure=>simp [intOf];omega
  ·obtain rfl:i=ss.length:=by omega
   go_wp2_with fail
   rw [Exit.noGoto_ret]
   go_ret
   exact ⟨rfl,K0.tr HK2.out HKr.out⟩
end Go.Proofs.YteapahcklcldkaaGreatDoor
