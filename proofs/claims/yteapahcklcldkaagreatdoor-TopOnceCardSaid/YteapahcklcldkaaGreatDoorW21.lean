/-
  The statement is proved: all that it reaches, in parts.
-/
import Derived.Test.YteapahcklcldkaaGreatDoorW18
import Derived.Deep.RegionWith
import Derived.Deep.DeepCutAuto
set_option maxRecDepth 100000
set_option maxHeartbeats 16000000
namespace Go.Proofs.YteapahcklcldkaaGreatDoor.Idm
open Go.RowKit Fx
theorem aCt (H:aW) {j:Nat} (h:j<5) (s:iZ) :
  (((wG H).setIfInBounds (1+j*3) (.int .i64 s.seq)).setIfInBounds (1+j*3+1) (.int .i64 s.base)).setIfInBounds (1+j*3+2) (.int .i64 s.span)=wG ⟨H.epoch,upd H.ring j s,H.first,H.count⟩:=by
 match j,h with
 | 0,_=>rfl
 | 1,_=>rfl
 | 2,_=>rfl
 | 3,_=>rfl
 | 4,_=>rfl
theorem aMf {w:World} {b:Nat} {H:aW} (h:vQ w b H) (ok:HOk H) (hc:H.count≤4) (s:iZ) :
  Calls Tryz.prog 159 #[.pointer (some ⟨b,0,none⟩),.agg #[.int .i64 s.seq,.int .i64 s.base,.int .i64 s.span]] w fun e w'=>e=.returned (.tuple #[])∧vQ w' b ⟨H.epoch,upd H.ring (jG H H.count) s,H.first,H.count+1⟩∧aD (fun k=>k=b) w w':=by
 have hlt:=aC h
 have hj:=vF H H.count
 obtain ⟨wb,hwb⟩:∃ wb,wb=w.alloc (.cells #[.int .i64 s.seq,.int .i64 s.base,.int .i64 s.span] 309):=⟨_,rfl⟩
 have hB:vQ wb b H:=by rw [hwb];exact aL h _
 have hS:wb.heap[w.heap.size]?=some (.cells #[.int .i64 s.seq,.int .i64 s.base,.int .i64 s.span] 309 (0,0)):=by rw [hwb];exact aI _ _ _ rfl
 have hk:aD (fun k=>k=b) w wb:=aSr
 have A:=Lib.hid (zZ hB ok H.count aA)
 have c17:wb.cell? ⟨b,17,none⟩=some (.int .i64 H.count):=aB hB 17
 have s0:wb.cell? ⟨w.heap.size,0,none⟩=some (.int .i64 s.seq):=aB hS 0
 have s1:wb.cell? ⟨w.heap.size,1,none⟩=some (.int .i64 s.base):=aB hS 1
 have s2:wb.cell? ⟨w.heap.size,2,none⟩=some (.int .i64 s.span):=aB hS 2
 have ltS:=aC hS
 have ltB:=aC hB
 have HB:=Lib.hid hB
 have HK:=Lib.hid hk
 have HWB:=Lib.hid hwb
 have hne:¬ (H.count:Int)=5:=aA
 clear h hB hS hk
 go_enter Tryz.func159,Tryz.ntmps159
 subst hwb
 go_upto_region 4 with fail
 go_cut [] (fun wr=>vQ wr b ⟨H.epoch,upd H.ring (jG H H.count) s,H.first,H.count⟩∧aD (fun k=>k=b) w wr)
 case first=>
  generalize hwb:w.alloc (.cells #[.int .i64 s.seq,.int .i64 s.base,.int .i64 s.span] 309)=wb at *
  have A:=Lib.hid (zZ (w:=wb.drew) HB.out ok H.count aA)
  have HK1:Hid (aD (fun k=>k=b) w wb.drew):=HK.out.drew
  have HB1:Hid (vQ wb.drew b H):=HB.out
  have c17:wb.drew.cell? ⟨b,17,none⟩=some (.int .i64 H.count):=c17
  have s0:wb.drew.cell? ⟨w.heap.size,0,none⟩=some (.int .i64 s.seq):=s0
  have s1:wb.drew.cell? ⟨w.heap.size,1,none⟩=some (.int .i64 s.base):=s1
  have s2:wb.drew.cell? ⟨w.heap.size,2,none⟩=some (.int .i64 s.span):=s2
  have HC:=Lib.hid (rI H hj)
  have ltS:w.heap.size<wb.drew.heap.size:=ltS
  have ltB:b<wb.drew.heap.size:=ltB
  go_region_with (go_at_call 156;refine A.out.mono ?_;rintro e w1 ⟨rfl,k1⟩;have f0:=aH ((k1.block _ (aC HB1.out) (fun e=>e)).trans HB1.out) (1+jG H H.count*3);have f1:=aH ((k1.block _ (aC HB1.out) (fun e=>e)).trans HB1.out) (1+jG H H.count*3+1);have f2:=aH ((k1.block _ (aC HB1.out) (fun e=>e)).trans HB1.out) (1+jG H H.count*3+2);have hb1:=(k1.block _ (aC HB1.out) (fun e=>e)).trans HB1.out;have d0:=(aB hb1 _).trans HC.out.1;have d1:=(aB hb1 _).trans HC.out.2.1;have d2:=(aB hb1 _).trans HC.out.2.2;clear hb1;have g0:=k1.cell' s0 (fun e=>e);have g1:=k1.cell' s1 (fun e=>e);have g2:=k1.cell' s2 (fun e=>e);have l1:=Nat.lt_of_lt_of_le ltS k1.size;have l2:=Nat.lt_of_lt_of_le ltB k1.size)
  all_goals (go_wp2;go_meet;exact ⟨by have hq:=aM (aM (aM ((k1.block _ (aC HB1.out) (fun e=>e)).trans HB1.out) (1+jG H H.count*3) (.int .i64 s.seq)) (1+jG H H.count*3+1) (.int .i64 s.base)) (1+jG H H.count*3+2) (.int .i64 s.span);rw [aCt H hj s] at hq;exact hq,HK1.out.trans (((k1.mono (S1:=fun k=>k=b) (fun _ _ e=>e.elim)).setC _ _ (fun _=>rfl)).setC _ _ (fun _=>rfl) |>.setC _ _ (fun _=>rfl)) (fun _ _ e=>e)⟩)
 case rest=>
  obtain ⟨h1,k1⟩:=hcut
  have c17:wc.cell? ⟨b,17,none⟩=some (.int .i64 H.count):=aB h1 17
  have f17:=aH h1 17
  have lt1:=aC h1
  have H1:=Lib.hid h1
  clear h1 s0 s1 s2 ltS ltB A HB HK
  go_wp2
  go_end0
  refine ⟨rfl,?_,k1.setC _ _ (fun _=>rfl)⟩
  have h2:=aM H1.out 17 (.int .i64 ((H.count:Int)+1))
  exact h2
theorem aPm {w:World} {b:Nat} {H:aW} (h:vQ w b H) (ok:HOk H) (hc:H.count=5) (s:iZ) :
  Calls Tryz.prog 159 #[.pointer (some ⟨b,0,none⟩),.agg #[.int .i64 s.seq,.int .i64 s.base,.int .i64 s.span]] w fun e w'=>e=.returned (.tuple #[])∧vQ w' b ⟨H.epoch,upd H.ring (jG ⟨H.epoch,H.ring,(H.first+1) % 5,4⟩ 4) s,(H.first+1) % 5,5⟩∧aD (fun k=>k=b) w w':=by
 have hlt:=aC h
 obtain ⟨H2,hH2⟩:∃ H2:aW,H2=⟨H.epoch,H.ring,(H.first+1) % 5,4⟩:=⟨_,rfl⟩
 have ok2:HOk H2:=by rw [hH2];exact ⟨Nat.mod_lt _ aA,by show 4≤5;omega⟩
 have hj:=vF H2 4
 have hf:=ok.f
 obtain ⟨wb,hwb⟩:∃ wb,wb=w.alloc (.cells #[.int .i64 s.seq,.int .i64 s.base,.int .i64 s.span] 309):=⟨_,rfl⟩
 have hB:vQ wb b H:=by rw [hwb];exact aL h _
 have hS:wb.heap[w.heap.size]?=some (.cells #[.int .i64 s.seq,.int .i64 s.base,.int .i64 s.span] 309 (0,0)):=by rw [hwb];exact aI _ _ _ rfl
 have hk:aD (fun k=>k=b) w wb:=aSr
 have c16:wb.cell? ⟨b,16,none⟩=some (.int .i64 H.first):=aB hB 16
 have c17:wb.cell? ⟨b,17,none⟩=some (.int .i64 5):=(aB hB 17).trans yP
 have e16:w.cell? ⟨b,16,none⟩=some (.int .i64 H.first):=aB h 16
 have e17:w.cell? ⟨b,17,none⟩=some (.int .i64 5):=(aB h 17).trans yP
 have g16:=aH h 16
 have g17:=aH h 17
 have f16:=aH hB 16
 have f17:=aH hB 17
 have ltB:=aC hB
 have ltS:=aC hS
 have HB:=Lib.hid hB
 have HK:=Lib.hid hk
 have HS:=Lib.hid hS
 have HH2:=Lib.hid hH2
 have HNE:Hid (w.heap.size≠b):=by show w.heap.size≠b;omega
 have HW:=Lib.hid h
 clear h hB hS hk hH2
 go_enter Tryz.func159,Tryz.ntmps159
 subst hwb
 go_upto_region 4 with fail
 go_cut [] (fun wr=>vQ wr b ⟨H.epoch,upd H.ring (jG H2 4) s,H2.first,4⟩∧aD (fun k=>k=b) w wr)
 case first=>
  have hH:vQ w b H:=HW.out
  have hx1:vQ (((w.setCell ⟨b,16,none⟩ (.int .i64 (((H.first:Int)+1) % 5))).setCell ⟨b,17,none⟩ (.int .i64 4)).alloc (.cells #[.int .i64 s.seq,.int .i64 s.base,.int .i64 s.span] 309)) b H2:=by
   rw [HH2.out]
   exact aL (aM (aM hH 16 (.int .i64 (((H.first:Int)+1) % 5))) 17 (.int .i64 4)) _
  have hx2:(((w.setCell ⟨b,16,none⟩ (.int .i64 (((H.first:Int)+1) % 5))).setCell ⟨b,17,none⟩ (.int .i64 4)).alloc (.cells #[.int .i64 s.seq,.int .i64 s.base,.int .i64 s.span] 309)).heap[w.heap.size]?=some (.cells #[.int .i64 s.seq,.int .i64 s.base,.int .i64 s.span] 309 (0,0)):=aI _ _ _ aK
  have hx3:aD (fun k=>k=b) w (((w.setCell ⟨b,16,none⟩ (.int .i64 (((H.first:Int)+1) % 5))).setCell ⟨b,17,none⟩ (.int .i64 4)).alloc (.cells #[.int .i64 s.seq,.int .i64 s.base,.int .i64 s.span] 309)):=(((aD.refl (fun k=>k=b) w).setC _ _ (fun _=>rfl)).setC _ _ (fun _=>rfl)).alloc _
  clear hH c16 c17 f16 f17 e16 e17 g16 g17 ltB ltS HB HK HS
  generalize ((w.setCell ⟨b,16,none⟩ (.int .i64 (((H.first:Int)+1) % 5))).setCell ⟨b,17,none⟩ (.int .i64 4)).alloc (.cells #[.int .i64 s.seq,.int .i64 s.base,.int .i64 s.span] 309)=wx at *
  have A:=Lib.hid (zZ (w:=wx.drew) hx1 ok2 4 aA)
  have HK1:Hid (aD (fun k=>k=b) w wx.drew):=hx3.drew
  have HB1:Hid (vQ wx.drew b H2):=hx1
  have c17:wx.drew.cell? ⟨b,17,none⟩=some (.int .i64 4):=(aB hx1 17).trans (by rw [HH2.out];rfl)
  have s0:wx.drew.cell? ⟨w.heap.size,0,none⟩=some (.int .i64 s.seq):=aB hx2 0
  have s1:wx.drew.cell? ⟨w.heap.size,1,none⟩=some (.int .i64 s.base):=aB hx2 1
  have s2:wx.drew.cell? ⟨w.heap.size,2,none⟩=some (.int .i64 s.span):=aB hx2 2
  have HC:=Lib.hid (rI H2 hj)
  have ltS:w.heap.size<wx.drew.heap.size:=aC hx2
  have ltB:b<wx.drew.heap.size:=aC hx1
  have HP:=Lib.hid (aCt H2 hj s)
  have HE:Hid (H2.epoch=H.epoch∧H2.ring=H.ring∧H2.count=4):=by show _∧_;rw [HH2.out];exact ⟨rfl,rfl,rfl⟩
  clear hx1 hx2 hx3
  go_region_with (go_at_call 156;refine A.out.mono ?_;rintro e w1 ⟨rfl,k1⟩;have f0:=aH ((k1.block _ (aC HB1.out) (fun e=>e)).trans HB1.out) (1+jG H2 4*3);have f1:=aH ((k1.block _ (aC HB1.out) (fun e=>e)).trans HB1.out) (1+jG H2 4*3+1);have f2:=aH ((k1.block _ (aC HB1.out) (fun e=>e)).trans HB1.out) (1+jG H2 4*3+2);have hb1:=(k1.block _ (aC HB1.out) (fun e=>e)).trans HB1.out;have d0:=(aB hb1 _).trans HC.out.1;have d1:=(aB hb1 _).trans HC.out.2.1;have d2:=(aB hb1 _).trans HC.out.2.2;clear hb1;have g0:=k1.cell' s0 (fun e=>e);have g1:=k1.cell' s1 (fun e=>e);have g2:=k1.cell' s2 (fun e=>e);have l1:=Nat.lt_of_lt_of_le ltS k1.size;have l2:=Nat.lt_of_lt_of_le ltB k1.size)
  all_goals (go_wp2;go_meet;exact ⟨by have hq:=aM (aM (aM ((k1.block _ (aC HB1.out) (fun e=>e)).trans HB1.out) (1+jG H2 4*3) (.int .i64 s.seq)) (1+jG H2 4*3+1) (.int .i64 s.base)) (1+jG H2 4*3+2) (.int .i64 s.span);rw [HP.out,HE.out.1,HE.out.2.1,HE.out.2.2] at hq;exact hq,HK1.out.trans (((k1.mono (S1:=fun k=>k=b) (fun _ _ e=>e.elim)).setC _ _ (fun _=>rfl)).setC _ _ (fun _=>rfl) |>.setC _ _ (fun _=>rfl)) (fun _ _ e=>e)⟩)
 case rest=>
  obtain ⟨h1,k1⟩:=hcut
  have c17:wc.cell? ⟨b,17,none⟩=some (.int .i64 4):=aB h1 17
  have f17:=aH h1 17
  have lt1:=aC h1
  have H1:=Lib.hid h1
  clear h1 c16 f16 ltS ltB HB HK e16 e17 g16 g17
  go_wp2
  go_end0
  have h2:=aM H1.out 17 (.int .i64 5)
  refine ⟨rfl,?_,k1.setC _ _ (fun _=>rfl)⟩
  have e:=HH2.out
  subst e
  exact h2
theorem aLe {w:World} {b:Nat} {H:aW} (h:vQ w b H) (ok:HOk H) (s:iZ) :
  Calls Tryz.prog 159 #[.pointer (some ⟨b,0,none⟩),.agg #[.int .i64 s.seq,.int .i64 s.base,.int .i64 s.span]] w fun e w'=>e=.returned (.tuple #[])∧vQ w' b (zU H s)∧aD (fun k=>k=b) w w':=by
 by_cases hc:H.count=5
 ·have:=aPm h ok hc s
  unfold zU shed
  rw [if_pos hc]
  exact this
 ·have:=aMf h ok (by have:=ok.c;omega) s
  unfold zU shed
  rw [if_neg hc]
  exact this
def aG4 (p:Nat×aW):Value:=.pointer (some ⟨p.1,0,none⟩)
structure pS (w0:iW) (w:World) (pb:Nat) (M:List (Int×aW)) (mb:Nat) (L:List (Int×(Nat×aW))):Prop where
 k0:aD (fun k=>¬ w0.O k) w0.w w
 blk:w.heap[pb]?=some (.cells #[.map (some mb)] 301 (0,0))
 core:amap (·.2) L=M
 map:bM (.int .i64) w mb (dM aG4 L)
 her:∀ s p,aQ L s=some p→vQ w p.1 p.2
 apart:∀ s t p q,aQ L s=some p→aQ L t=some q→s≠t→p.1≠q.1
 ne:pb≠mb
 new:w0.out pb∧w0.out mb
 fnew:∀ s p,aQ L s=some p→w0.out p.1∧p.1≠pb∧p.1≠mb
 keys:KD L
def pE (w0:iW) (w:World) (pb:Nat) (M:List (Int×aW)):Prop:=∃ mb L,pS w0 w pb M mb L
section
variable {w0:iW} {w w':World} {pb mb:Nat} {M:List (Int×aW)} {L:List (Int×(Nat×aW))}
theorem pS.keep (h:pS w0 w pb M mb L) (hk:K0 w w'):pS w0 w' pb M mb L:=
 ⟨h.k0.trans hk (fun _ _ e=>e.elim),(hk.block pb (aC h.blk) (fun e=>e)).trans h.blk,h.core,h.map.keep hk (fun e=>e),fun s p e=>(hk.block _ (aC (h.her s p e)) (fun e=>e)).trans (h.her s p e),h.apart,h.ne,h.new,h.fnew,h.keys⟩
theorem pE.keep (h:pE w0 w pb M) (hk:K0 w w'):pE w0 w' pb M:=by
 obtain ⟨mb,L,h⟩:=h
 exact ⟨mb,L,h.keep hk⟩
theorem pE.k0 (h:pE w0 w pb M):aD (fun k=>¬ w0.O k) w0.w w:=by
 obtain ⟨_,_,h⟩:=h
 exact h.k0
theorem pS.agetL (h:pS w0 w pb M mb L) (s:Int):aQ M s=(aQ L s).map (·.2):=by rw [← h.core,aCk]
theorem aMm {s:Int} {b:Nat} {x:aW} (h:aQ L s=Option.some (b,x)) (x':aW):dM aG4 (bD L s (b,x'))=dM aG4 L:=by
 induction L with
 | nil=>simp [aQ] at h
 | cons p L ih=>
  obtain ⟨k,u⟩:=p
  simp only [aQ] at h
  by_cases hk:k=s
  ·rw [if_pos hk] at h
   cases h
   simp [dM,bD,hk,aG4]
  ·rw [if_neg hk] at h
   have:=ih h
   simp only [dM,bD,if_neg hk,List.map_cons] at this ⊢
   rw [this]
theorem pS.turn (h:pS w0 w pb M mb L) {s:Int} {b:Nat} {x x':aW} (e:aQ L s=Option.some (b,x)) (hk:aD (fun k=>k=b) w w') (hf:vQ w' b x'):pS w0 w' pb (bD M s x') mb (bD L s (b,x')):=by
 have hn:=h.fnew s _ e
 refine ⟨h.k0.trans hk (fun k kl e2 o=>by subst e2;exact hn.1 ⟨kl,o⟩),(hk.block _ (aC h.blk) (fun e2=>hn.2.1 e2.symm)).trans h.blk,?_,?_,fun t p e2=>?_,fun t1 t2 p q e1 e2 hne=>?_,h.ne,h.new,fun t p e2=>?_,h.keys.put _ _⟩
 ·rw [← nN (fun p:Nat×aW=>p.2) L s (b,x'),h.core]
 ·rw [aMm e]
  exact h.map.keep hk (fun e2=>hn.2.2 e2.symm)
 ·rw [bX] at e2
  split at e2
  ·cases e2;exact hf
  ·rename_i hst
   exact (hk.block _ (aC (h.her t p e2)) (fun e3=>h.apart s t _ _ e e2 hst e3.symm)).trans (h.her t p e2)
 ·rw [bX] at e1 e2
  split at e1
  ·split at e2
   ·exact cG
   ·rename_i h1 h2
    cases e1
    exact h.apart s t2 (b,x) _ e e2 h2
  ·split at e2
   ·rename_i h1 h2
    cases e2
    exact h.apart t1 s _ (b,x) e1 e (Ne.symm h1)
   ·exact h.apart t1 t2 _ _ e1 e2 hne
 ·rw [bX] at e2
  split at e2
  ·cases e2;exact hn
  ·exact h.fnew t p e2
theorem pS.put (h:pS w0 w pb M mb L) {w1:World} (s:Int) {b:Nat} {x:aW} (hk:K0 w w1) (hb:w.heap.size≤b) (hf:vQ w1 b x)
  {o:Obj} (hm:bM (.int .i64) (aO w1 mb o) mb (bD (dM aG4 L) s (aG4 (b,x)))):pS w0 (aO w1 mb o) pb (bD M s x) mb (bD L s (b,x)):=by
 have hp:aD (fun k=>k=mb) w (aO w1 mb o):=aD.setObj (S:=fun k=>k=mb) (hk.mono (fun _ _ e=>absurd e id)) (fun _=>rfl) _
 have h1:=aC h.blk
 have h2:=h.map.lt
 have h3:=h.k0.size
 have hlt:∀ t p,aQ L t=Option.some p→p.1<w.heap.size:=fun t p e=>aC (h.her t p e)
 refine ⟨h.k0.trans hp (fun k kl e o=>by subst e;exact h.new.2 ⟨kl,o⟩),(hp.block _ h1 h.ne).trans h.blk,?_,?_,fun t p e2=>?_,fun t1 t2 p q e1 e2 hne=>?_,h.ne,h.new,fun t p e2=>?_,h.keys.put _ _⟩
 ·rw [← nN (fun p:Nat×aW=>p.2) L s (b,x),h.core]
 ·rw [← sK]
  exact hm
 ·rw [bX] at e2
  split at e2
  ·cases e2
   exact (cT _ _ (by show b≠mb;omega)).trans hf
  ·exact (hp.block _ (hlt t p e2) (h.fnew t p e2).2.2).trans (h.her t p e2)
 ·rw [bX] at e1 e2
  split at e1
  ·split at e2
   ·exact cG
   ·cases e1
    have:=hlt t2 q e2
    show b≠q.1
    omega
  ·split at e2
   ·cases e2
    have:=hlt t1 p e1
    show p.1≠b
    omega
   ·exact h.apart t1 t2 _ _ e1 e2 hne
 ·rw [bX] at e2
  split at e2
  ·cases e2
   exact ⟨fun q=>by have:=q.1;have:=h.k0.size;dsimp only at *;omega,by show b≠pb;omega,by show b≠mb;omega⟩
  ·exact h.fnew t p e2
def aA5:aW:=⟨-1,fun _=>⟨0,0,0⟩,0,0⟩
theorem aQy:HOk aA5:=⟨by decide,by decide⟩
def inP (pb mb:Nat) (L:List (Int×(Nat×aW))) (k:Nat):Prop:=k=pb∨k=mb∨∃ s p,aQ L s=some p∧p.1=k
theorem pS.lt (h:pS w0 w pb M mb L):∀ k,inP pb mb L k→k<w.heap.size:=fun k e=>by
 rcases e with rfl | rfl | ⟨s,p,e,rfl⟩
 ·exact aC h.blk
 ·exact h.map.lt
 ·exact aC (h.her s p e)
theorem pS.base (h:pS w0 w pb M mb L):pS ⟨w,fun k=>¬ inP pb mb L k⟩ w pb M mb L:=
 ⟨aD.refl _ _,h.blk,h.core,h.map,h.her,h.apart,h.ne,⟨fun q=>q.2 (.inl rfl),fun q=>q.2 (.inr (.inl rfl))⟩,fun s p e=>⟨fun q=>q.2 (.inr (.inr ⟨s,p,e,rfl⟩)),(h.fnew s p e).2⟩,h.keys⟩
theorem pS.inP_out (h:pS w0 w pb M mb L):∀ k,inP pb mb L k→w0.out k:=fun k e=>by
 rcases e with rfl | rfl | ⟨s,p,e,rfl⟩
 ·exact h.new.1
 ·exact h.new.2
 ·exact (h.fnew s p e).1
theorem aDr (w:World):(zeroValue 306).run Tryz.prog w=.ok (.pointer none) w:=by kernel_rfl
theorem aT5 (h:pS w0 w pb M mb L) (id:Int) (e:aQ L id=none):Calls Tryz.prog 155 #[.pointer (some ⟨pb,0,none⟩),.int .i64 id] w fun e w'=>e=.returned (.pointer (some ⟨w.heap.size,0,none⟩))∧vQ w' w.heap.size aA5∧K0 w w':=by
 have c0:w.cell? ⟨pb,0,none⟩=some (.map (some mb)):=aB h.blk 0
 have hlt:=aC h.blk
 have hm:=Lib.hid h.map
 have HV:Hid (aQ (dM aG4 L) id=none):=iI
 clear h e
 go_enter Tryz.func155,Tryz.ntmps155
 go_wp2_with (at_lookup;refine cI (aEi Tryz.underlying3) rfl rfl Tryz.underlying299 aDr rfl id rfl hm.out _ HV.out ?_)
 go_ret
 exact ⟨rfl,aI _ _ _ rfl,(aD.refl _ _).alloc _⟩
theorem aT6 (h:pS w0 w pb M mb L) (id:Int) {b:Nat} {x:aW} (e:aQ L id=some (b,x)):Calls Tryz.prog 155 #[.pointer (some ⟨pb,0,none⟩),.int .i64 id] w fun e w'=>fH w e (.pointer (some ⟨b,0,none⟩)) w':=by
 have c0:w.cell? ⟨pb,0,none⟩=some (.map (some mb)):=aB h.blk 0
 have hlt:=aC h.blk
 have hm:=Lib.hid h.map
 have HV:Hid (aQ (dM aG4 L) id=some (.pointer (some ⟨b,0,none⟩))):=iI
 clear h e
 go_enter Tryz.func155,Tryz.ntmps155
 go_wp2_with (at_lookup;refine cI (aEi Tryz.underlying3) rfl rfl Tryz.underlying299 aDr rfl id rfl hm.out _ HV.out ?_)
 go_ret
 exact ⟨rfl,aD.refl _ _⟩
def dL (M:List (Int×aW)) (id:Int):aW:=(aQ M id).getD aA5
def aVj (w:World) (L:List (Int×(Nat×aW))) (M:List (Int×aW)) (id:Int) (e:Ending) (w':World):Prop:=
 ∃ b,e=.returned (.pointer (some ⟨b,0,none⟩))∧vQ w' b (dL M id)∧K0 w w'∧((aQ L id=some (b,dL M id))∨(aQ L id=none∧w.heap.size≤b))
theorem aEp (h:pS w0 w pb M mb L) (id:Int):Calls Tryz.prog 155 #[.pointer (some ⟨pb,0,none⟩),.int .i64 id] w fun e w'=>aVj w L M id e w':=by
 cases e:aQ L id with
 | none=>
  have ho:dL M id=aA5:=by unfold dL;rw [h.agetL,e];rfl
  refine (aT5 h id e).mono fun e w' hq=>?_
  exact ⟨_,hq.1,by rw [ho];exact hq.2.1,hq.2.2,.inr ⟨by assumption,Nat.le_refl _⟩⟩
 | some p=>
  obtain ⟨b,x⟩:=p
  have ho:dL M id=x:=by unfold dL;rw [h.agetL,e];rfl
  refine (aT6 h id e).mono fun e2 w' hq=>?_
  exact ⟨b,hq.1,by rw [ho];exact (hq.2.block _ (aC (h.her _ _ e)) (fun e=>e)).trans (h.her _ _ e),hq.2,.inl (by rw [ho];exact e)⟩
end
def win (n l m:Int):Bool:=decide (l≤n)&&decide (n≤m)
theorem gA (n l m:Int) (w:World):Calls Tryz.prog 230 #[.int .i64 n,.int .i64 l,.int .i64 m] w fun e w'=>fH w e (.bool (win n l m)) w':=by
 unfold win
 by_cases h1:l≤n
 ·by_cases h2:n≤m
  ·rw [decide_eq_true h1,decide_eq_true h2]
   go_enter Tryz.func230,Tryz.ntmps230
   go_wp2
   go_ret
   exact ⟨rfl,aD.refl _ _⟩
  ·rw [decide_eq_true h1,decide_eq_false h2]
   go_enter Tryz.func230,Tryz.ntmps230
   go_wp2
   go_ret
   exact ⟨rfl,aD.refl _ _⟩
 ·rw [decide_eq_false h1]
  go_enter Tryz.func230,Tryz.ntmps230
  go_wp2
  go_ret
  exact ⟨rfl,aD.refl _ _⟩
structure cY where
 base:Int
 span:Int
 prod:Int
 epoch:Int
 seq:Int
 ra:Option Addr
 rn:Nat
 rc:Nat
def bO (b:cY):Array Value:=#[.int .i64 b.base,.int .i64 b.span,.int .i64 b.prod,.int .i64 b.epoch,.int .i64 b.seq,.slice b.ra b.rn b.rc]
def mT (b:cY):Bool:=win b.prod 0 1073741824&&win b.epoch 0 32768&&win b.seq 0 1073741824&&win b.span 1 50&&win b.base 0 1099511627776
theorem lT (b:cY) (w:World):Calls Tryz.prog 154 #[.agg #[.int .i64 b.base,.int .i64 b.span,.int .i64 b.prod,.int .i64 b.epoch,.int .i64 b.seq,.slice b.ra b.rn b.rc]] w fun e w'=>fH w e (.bool (mT b)) w':=by
 have hB:(w.alloc (.cells (bO b) 39)).heap[w.heap.size]?=some (.cells (bO b) 39 (0,0)):=aI _ _ _ rfl
 have hK:K0 w (w.alloc (.cells (bO b) 39)):=(aD.refl _ _).alloc _
 unfold bO at hB hK
 generalize hwb:w.alloc (.cells #[.int .i64 b.base,.int .i64 b.span,.int .i64 b.prod,.int .i64 b.epoch,.int .i64 b.seq,.slice b.ra b.rn b.rc] 39)=wb at hB hK
 have HB:=Lib.hid hB
 have HK:=Lib.hid hK
 have c2:wb.cell? ⟨w.heap.size,2,none⟩=some (.int .i64 b.prod):=aB hB 2
 have hlt:=aC hB
 unfold mT
 subst hwb
 clear hB hK
 cases h0:win b.prod 0 1073741824 with
 | false=>
  have W0:Hid (∀ wx,Calls Tryz.prog 230 #[.int .i64 b.prod,.int .i64 0,.int .i64 1073741824] wx fun e w'=>fH wx e (.bool false) w'):=fun wx=>by rw [← h0];exact gA _ _ _ wx
  go_enter Tryz.func154,Tryz.ntmps154
  go_wp2_with fail
  refine (W0.out _).mono ?_
  rintro e w1 ⟨rfl,k1⟩
  have K1:=Lib.hid (K0.tr HK.out k1)
  clear k1
  go_wp2
  go_ret
  exact ⟨by simp,K1.out⟩
 | true=>
  have W0:Hid (∀ wx,Calls Tryz.prog 230 #[.int .i64 b.prod,.int .i64 0,.int .i64 1073741824] wx fun e w'=>fH wx e (.bool true) w'):=fun wx=>by rw [← h0];exact gA _ _ _ wx
  cases h1:win b.epoch 0 32768 with
  | false=>
   have W1:Hid (∀ wx,Calls Tryz.prog 230 #[.int .i64 b.epoch,.int .i64 0,.int .i64 32768] wx fun e w'=>fH wx e (.bool false) w'):=fun wx=>by rw [← h1];exact gA _ _ _ wx
   go_enter Tryz.func154,Tryz.ntmps154
   go_wp2_with fail
   refine (W0.out _).mono ?_
   rintro e w1 ⟨rfl,k1⟩
   have K1:=Lib.hid (K0.tr HK.out k1)
   have q1:w1.cell? ⟨w.heap.size,3,none⟩=some (.int .i64 b.epoch):=(k1.cell' (aB HB.out 3) (fun e=>e))
   have B1:=Lib.hid ((k1.block _ (aC HB.out) (fun e=>e)).trans HB.out)
   have l1:=aC B1.out
   clear k1
   go_wp2_with fail
   refine (W1.out _).mono ?_
   rintro e w2 ⟨rfl,k2⟩
   have K2:=Lib.hid (K0.tr K1.out k2)
   clear k2
   go_wp2
   go_ret
   exact ⟨by simp,K2.out⟩
  | true=>
   have W1:Hid (∀ wx,Calls Tryz.prog 230 #[.int .i64 b.epoch,.int .i64 0,.int .i64 32768] wx fun e w'=>fH wx e (.bool true) w'):=fun wx=>by rw [← h1];exact gA _ _ _ wx
   cases h2:win b.seq 0 1073741824 with
   | false=>
    have W2:Hid (∀ wx,Calls Tryz.prog 230 #[.int .i64 b.seq,.int .i64 0,.int .i64 1073741824] wx fun e w'=>fH wx e (.bool false) w'):=fun wx=>by rw [← h2];exact gA _ _ _ wx
    go_enter Tryz.func154,Tryz.ntmps154
    go_wp2_with fail
    refine (W0.out _).mono ?_
    rintro e w1 ⟨rfl,k1⟩
    have K1:=Lib.hid (K0.tr HK.out k1)
    have q1:w1.cell? ⟨w.heap.size,3,none⟩=some (.int .i64 b.epoch):=(k1.cell' (aB HB.out 3) (fun e=>e))
    have B1:=Lib.hid ((k1.block _ (aC HB.out) (fun e=>e)).trans HB.out)
    have l1:=aC B1.out
    clear k1
    go_wp2_with fail
    refine (W1.out _).mono ?_
    rintro e w2 ⟨rfl,k2⟩
    have K2:=Lib.hid (K0.tr K1.out k2)
    have q2:w2.cell? ⟨w.heap.size,4,none⟩=some (.int .i64 b.seq):=(k2.cell' (aB B1.out 4) (fun e=>e))
    have B2:=Lib.hid ((k2.block _ (aC B1.out) (fun e=>e)).trans B1.out)
    have l2:=aC B2.out
    clear k2
    go_wp2_with fail
    refine (W2.out _).mono ?_
    rintro e w3 ⟨rfl,k3⟩
    have K3:=Lib.hid (K0.tr K2.out k3)
    clear k3
    go_wp2
    go_ret
    exact ⟨by simp,K3.out⟩
   | true=>
    have W2:Hid (∀ wx,Calls Tryz.prog 230 #[.int .i64 b.seq,.int .i64 0,.int .i64 1073741824] wx fun e w'=>fH wx e (.bool true) w'):=fun wx=>by rw [← h2];exact gA _ _ _ wx
    cases h3:win b.span 1 50 with
    | false=>
     have W3:Hid (∀ wx,Calls Tryz.prog 230 #[.int .i64 b.span,.int .i64 1,.int .i64 50] wx fun e w'=>fH wx e (.bool false) w'):=fun wx=>by rw [← h3];exact gA _ _ _ wx
     go_enter Tryz.func154,Tryz.ntmps154
     go_wp2_with fail
     refine (W0.out _).mono ?_
     rintro e w1 ⟨rfl,k1⟩
     have K1:=Lib.hid (K0.tr HK.out k1)
     have q1:w1.cell? ⟨w.heap.size,3,none⟩=some (.int .i64 b.epoch):=(k1.cell' (aB HB.out 3) (fun e=>e))
     have B1:=Lib.hid ((k1.block _ (aC HB.out) (fun e=>e)).trans HB.out)
     have l1:=aC B1.out
     clear k1
     go_wp2_with fail
     refine (W1.out _).mono ?_
     rintro e w2 ⟨rfl,k2⟩
     have K2:=Lib.hid (K0.tr K1.out k2)
     have q2:w2.cell? ⟨w.heap.size,4,none⟩=some (.int .i64 b.seq):=(k2.cell' (aB B1.out 4) (fun e=>e))
     have B2:=Lib.hid ((k2.block _ (aC B1.out) (fun e=>e)).trans B1.out)
     have l2:=aC B2.out
     clear k2
     go_wp2_with fail
     refine (W2.out _).mono ?_
     rintro e w3 ⟨rfl,k3⟩
     have K3:=Lib.hid (K0.tr K2.out k3)
     have q3:w3.cell? ⟨w.heap.size,1,none⟩=some (.int .i64 b.span):=(k3.cell' (aB B2.out 1) (fun e=>e))
     have B3:=Lib.hid ((k3.block _ (aC B2.out) (fun e=>e)).trans B2.out)
     have l3:=aC B3.out
     clear k3
     go_wp2_with fail
     refine (W3.out _).mono ?_
     rintro e w4 ⟨rfl,k4⟩
     have K4:=Lib.hid (K0.tr K3.out k4)
     clear k4
     go_wp2
     go_ret
     exact ⟨by simp,K4.out⟩
    | true=>
     have W3:Hid (∀ wx,Calls Tryz.prog 230 #[.int .i64 b.span,.int .i64 1,.int .i64 50] wx fun e w'=>fH wx e (.bool true) w'):=fun wx=>by rw [← h3];exact gA _ _ _ wx
     cases h4:win b.base 0 1099511627776 with
     | false=>
      have W4:Hid (∀ wx,Calls Tryz.prog 230 #[.int .i64 b.base,.int .i64 0,.int .i64 1099511627776] wx fun e w'=>fH wx e (.bool false) w'):=fun wx=>by rw [← h4];exact gA _ _ _ wx
      go_enter Tryz.func154,Tryz.ntmps154
      go_wp2_with fail
      refine (W0.out _).mono ?_
      rintro e w1 ⟨rfl,k1⟩
      have K1:=Lib.hid (K0.tr HK.out k1)
      have q1:w1.cell? ⟨w.heap.size,3,none⟩=some (.int .i64 b.epoch):=(k1.cell' (aB HB.out 3) (fun e=>e))
      have B1:=Lib.hid ((k1.block _ (aC HB.out) (fun e=>e)).trans HB.out)
      have l1:=aC B1.out
      clear k1
      go_wp2_with fail
      refine (W1.out _).mono ?_
      rintro e w2 ⟨rfl,k2⟩
      have K2:=Lib.hid (K0.tr K1.out k2)
      have q2:w2.cell? ⟨w.heap.size,4,none⟩=some (.int .i64 b.seq):=(k2.cell' (aB B1.out 4) (fun e=>e))
      have B2:=Lib.hid ((k2.block _ (aC B1.out) (fun e=>e)).trans B1.out)
      have l2:=aC B2.out
      clear k2
      go_wp2_with fail
      refine (W2.out _).mono ?_
      rintro e w3 ⟨rfl,k3⟩
      have K3:=Lib.hid (K0.tr K2.out k3)
      have q3:w3.cell? ⟨w.heap.size,1,none⟩=some (.int .i64 b.span):=(k3.cell' (aB B2.out 1) (fun e=>e))
      have B3:=Lib.hid ((k3.block _ (aC B2.out) (fun e=>e)).trans B2.out)
      have l3:=aC B3.out
      clear k3
      go_wp2_with fail
      refine (W3.out _).mono ?_
      rintro e w4 ⟨rfl,k4⟩
      have K4:=Lib.hid (K0.tr K3.out k4)
      have q4:w4.cell? ⟨w.heap.size,0,none⟩=some (.int .i64 b.base):=(k4.cell' (aB B3.out 0) (fun e=>e))
      have B4:=Lib.hid ((k4.block _ (aC B3.out) (fun e=>e)).trans B3.out)
      have l4:=aC B4.out
      clear k4
      go_wp2_with fail
      refine (W4.out _).mono ?_
      rintro e w5 ⟨rfl,k5⟩
      have K5:=Lib.hid (K0.tr K4.out k5)
      clear k5
      go_wp2
      go_ret
      exact ⟨by simp,K5.out⟩
     | true=>
      have W4:Hid (∀ wx,Calls Tryz.prog 230 #[.int .i64 b.base,.int .i64 0,.int .i64 1099511627776] wx fun e w'=>fH wx e (.bool true) w'):=fun wx=>by rw [← h4];exact gA _ _ _ wx
      go_enter Tryz.func154,Tryz.ntmps154
      go_wp2_with fail
      refine (W0.out _).mono ?_
      rintro e w1 ⟨rfl,k1⟩
      have K1:=Lib.hid (K0.tr HK.out k1)
      have q1:w1.cell? ⟨w.heap.size,3,none⟩=some (.int .i64 b.epoch):=(k1.cell' (aB HB.out 3) (fun e=>e))
      have B1:=Lib.hid ((k1.block _ (aC HB.out) (fun e=>e)).trans HB.out)
      have l1:=aC B1.out
      clear k1
      go_wp2_with fail
      refine (W1.out _).mono ?_
      rintro e w2 ⟨rfl,k2⟩
      have K2:=Lib.hid (K0.tr K1.out k2)
      have q2:w2.cell? ⟨w.heap.size,4,none⟩=some (.int .i64 b.seq):=(k2.cell' (aB B1.out 4) (fun e=>e))
      have B2:=Lib.hid ((k2.block _ (aC B1.out) (fun e=>e)).trans B1.out)
      have l2:=aC B2.out
      clear k2
      go_wp2_with fail
      refine (W2.out _).mono ?_
      rintro e w3 ⟨rfl,k3⟩
      have K3:=Lib.hid (K0.tr K2.out k3)
      have q3:w3.cell? ⟨w.heap.size,1,none⟩=some (.int .i64 b.span):=(k3.cell' (aB B2.out 1) (fun e=>e))
      have B3:=Lib.hid ((k3.block _ (aC B2.out) (fun e=>e)).trans B2.out)
      have l3:=aC B3.out
      clear k3
      go_wp2_with fail
      refine (W3.out _).mono ?_
      rintro e w4 ⟨rfl,k4⟩
      have K4:=Lib.hid (K0.tr K3.out k4)
      have q4:w4.cell? ⟨w.heap.size,0,none⟩=some (.int .i64 b.base):=(k4.cell' (aB B3.out 0) (fun e=>e))
      have B4:=Lib.hid ((k4.block _ (aC B3.out) (fun e=>e)).trans B3.out)
      have l4:=aC B4.out
      clear k4
      go_wp2_with fail
      refine (W4.out _).mono ?_
      rintro e w5 ⟨rfl,k5⟩
      have K5:=Lib.hid (K0.tr K4.out k5)
      clear k5
      go_wp2
      go_ret
      exact ⟨by simp,K5.out⟩
section
variable {w0:iW} {w w':World} {pb mb:Nat} {M:List (Int×aW)} {L:List (Int×(Nat×aW))}
theorem aRj (w:World):Calls Tryz.prog 89 #[] w fun e w'=>∃ pb,e=.returned (.pointer (some ⟨pb,0,none⟩))∧pE ⟨w,fun _=>True⟩ w' pb []:=by
 have hmm:=@run_makeMap Tryz.prog
 go_enter Tryz.func89,Tryz.ntmps89
 go_wp2
 go_ret
 refine ⟨_,rfl,w.heap.size,[],⟨((aD.refl _ _).alloc _).alloc _,aI _ _ _ aK,rfl,?_,(fun _ _ e=>by cases e),(fun _ _ _ _ e=>by cases e),aK,⟨fun q=>absurd q.1 aK,fun q=>absurd q.1 aK⟩,(fun _ _ e=>by cases e),List.nodup_nil⟩⟩
 exact (kF w).of_block (Below.heap_alloc _ _ _ aK)
end
theorem vW {κ α:Type} [DecidableEq κ] (L:List (κ×α)) (s:κ) (u v:α):bD (bD L s u) s v=bD L s v:=by
 induction L with
 | nil=>simp [bD]
 | cons p L ih=>
  obtain ⟨k,x⟩:=p
  by_cases hk:k=s
  ·simp [bD,hk]
  ·simp [bD,hk,ih]
def aA2 (e:Int):aW:=⟨e,fun _=>⟨0,0,0⟩,0,0⟩
def gS (b:cY):iZ:=⟨b.seq,b.base,b.span⟩
def hZ (M:List (Int×aW)) (b:cY):List (Int×aW):=
 if mT b=true then (if b.epoch<(dL M b.prod).epoch then M else if (dL M b.prod).epoch<b.epoch then bD M b.prod (zU (aA2 b.epoch) (gS b)) else bD M b.prod (zU (dL M b.prod) (gS b))) else M
def WfM (M:List (Int×aW)):Prop:=∀ id H,aQ M id=some H→0≤H.epoch∧HOk H
theorem uV (e:Int):HOk (aA2 e):=⟨by show 0<5;omega,by show 0≤5;omega⟩
theorem WfM.old {M:List (Int×aW)} (h:WfM M) (id:Int):HOk (dL M id)∧(aQ M id=some (dL M id)∨(aQ M id=none∧dL M id=aA5)):=by
 unfold dL
 cases e:aQ M id with
 | none=>exact ⟨aQy,.inr ⟨rfl,rfl⟩⟩
 | some H=>exact ⟨(h id H e).2,.inl rfl⟩
theorem oO {b:cY} (h:mT b=true):0≤b.epoch∧b.epoch≤32768:=by
 unfold mT win at h
 simp only [Bool.and_eq_true,decide_eq_true_eq] at h
 exact h.1.1.1.2
section
variable {w0:iW} {w w':World} {pb mb:Nat} {M:List (Int×aW)} {L:List (Int×(Nat×aW))}
theorem aQz (_h:pS w0 w pb M mb L) (b:cY) (hb:mT b=false):Calls Tryz.prog 95 #[.pointer (some ⟨pb,0,none⟩),.agg #[.int .i64 b.base,.int .i64 b.span,.int .i64 b.prod,.int .i64 b.epoch,.int .i64 b.seq,.slice b.ra b.rn b.rc]] w fun e w'=>fH w e (.tuple #[]) w':=by
 have HM:Hid (∀ wx,Calls Tryz.prog 154 #[.agg #[.int .i64 b.base,.int .i64 b.span,.int .i64 b.prod,.int .i64 b.epoch,.int .i64 b.seq,.slice b.ra b.rn b.rc]] wx fun e w'=>fH wx e (.bool false) w'):=fun wx=>by rw [← hb];exact lT b wx
 have HK:Hid (K0 w (w.alloc (.cells (bO b) 39))):=(aD.refl _ _).alloc _
 go_enter Tryz.func95,Tryz.ntmps95
 go_wp2_with fail
 refine (HM.out _).mono ?_
 rintro e w1 ⟨rfl,k1⟩
 go_wp2
 refine bodyPost_ret (results_none rfl _ _ _) rfl ?_
 exact ⟨rfl,K0.tr HK.out k1⟩
theorem aQ2 (h:pS w0 w pb M mb L) (b:cY) (hb:mT b=true) (hE:b.epoch<(dL M b.prod).epoch):Calls Tryz.prog 95 #[.pointer (some ⟨pb,0,none⟩),.agg #[.int .i64 b.base,.int .i64 b.span,.int .i64 b.prod,.int .i64 b.epoch,.int .i64 b.seq,.slice b.ra b.rn b.rc]] w fun e w'=>fH w e (.tuple #[]) w':=by
 have hB:(w.alloc (.cells (bO b) 39)).heap[w.heap.size]?=some (.cells (bO b) 39 (0,0)):=aI _ _ _ rfl
 have hK:K0 w (w.alloc (.cells (bO b) 39)):=(aD.refl _ _).alloc _
 unfold bO at hB hK
 generalize hwb:w.alloc (.cells #[.int .i64 b.base,.int .i64 b.span,.int .i64 b.prod,.int .i64 b.epoch,.int .i64 b.seq,.slice b.ra b.rn b.rc] 39)=wb at hB hK
 have HMB:=Lib.hid h.map.lt
 have HB:=Lib.hid hB
 have HK:=Lib.hid hK
 have HH:=Lib.hid (h.keep hK)
 have hme:=oO hb
 have HM:Hid (∀ wx,Calls Tryz.prog 154 #[.agg #[.int .i64 b.base,.int .i64 b.span,.int .i64 b.prod,.int .i64 b.epoch,.int .i64 b.seq,.slice b.ra b.rn b.rc]] wx fun e w'=>fH wx e (.bool true) w'):=fun wx=>by rw [← hb];exact lT b wx
 subst hwb
 clear hB hK h hb
 go_enter Tryz.func95,Tryz.ntmps95
 go_wp2_with fail
 refine (HM.out _).mono ?_
 rintro e w1 ⟨rfl,k1⟩
 have HH1:=Lib.hid (HH.out.keep k1)
 have HB1:=Lib.hid ((k1.block _ (aC HB.out) (fun e=>e)).trans HB.out)
 have HK1:=Lib.hid (K0.tr HK.out k1)
 have c2:w1.cell? ⟨w.heap.size,2,none⟩=some (.int .i64 b.prod):=aB HB1.out 2
 have hlt:=aC HB1.out
 clear k1
 go_wp2_with fail
 refine (aEp HH1.out b.prod).mono ?_
 rintro e w2 ⟨hb2,rfl,hh,k2,hor⟩
 have HH2:=Lib.hid (HH1.out.keep k2)
 have hb2':=(k2.block _ (aC HB1.out) (fun e=>e)).trans HB1.out
 have HK2:=Lib.hid (K0.tr HK1.out k2)
 have HB2:=Lib.hid hb2'
 have HO:=Lib.hid hh
 have HOR:=Lib.hid hor
 have c0:w2.cell? ⟨w.heap.size,0,none⟩=some (.int .i64 b.base):=aB hb2' 0
 have c1:w2.cell? ⟨w.heap.size,1,none⟩=some (.int .i64 b.span):=aB hb2' 1
 have c2:w2.cell? ⟨w.heap.size,2,none⟩=some (.int .i64 b.prod):=aB hb2' 2
 have c3:w2.cell? ⟨w.heap.size,3,none⟩=some (.int .i64 b.epoch):=aB hb2' 3
 have c4:w2.cell? ⟨w.heap.size,4,none⟩=some (.int .i64 b.seq):=aB hb2' 4
 have hlt:=aC hb2'
 have e0:w2.cell? ⟨hb2,0,none⟩=some (.int .i64 (dL M b.prod).epoch):=aB hh 0
 have hlt2:=aC hh
 clear k2 hb2' hh hor
 go_wp2
 go_quiet (fail)
 go_wp2
 refine bodyPost_ret (results_none rfl _ _ _) rfl ?_
 exact ⟨rfl,HK2.out.drewN _⟩
theorem aNs (h:pS w0 w pb M mb L) (b:cY) (hb:mT b=true) (hE:¬ b.epoch<(dL M b.prod).epoch) (hE2:¬ (dL M b.prod).epoch<b.epoch) (wf:WfM M):Calls Tryz.prog 95 #[.pointer (some ⟨pb,0,none⟩),.agg #[.int .i64 b.base,.int .i64 b.span,.int .i64 b.prod,.int .i64 b.epoch,.int .i64 b.seq,.slice b.ra b.rn b.rc]] w fun e w'=>e=.returned (.tuple #[])∧pE w0 w' pb (bD M b.prod (zU (dL M b.prod) (gS b))):=by
 have HWF:=Lib.hid wf
 have hB:(w.alloc (.cells (bO b) 39)).heap[w.heap.size]?=some (.cells (bO b) 39 (0,0)):=aI _ _ _ rfl
 have hK:K0 w (w.alloc (.cells (bO b) 39)):=(aD.refl _ _).alloc _
 unfold bO at hB hK
 generalize hwb:w.alloc (.cells #[.int .i64 b.base,.int .i64 b.span,.int .i64 b.prod,.int .i64 b.epoch,.int .i64 b.seq,.slice b.ra b.rn b.rc] 39)=wb at hB hK
 have HMB:=Lib.hid h.map.lt
 have HB:=Lib.hid hB
 have HK:=Lib.hid hK
 have HH:=Lib.hid (h.keep hK)
 have hme:=oO hb
 have HM:Hid (∀ wx,Calls Tryz.prog 154 #[.agg #[.int .i64 b.base,.int .i64 b.span,.int .i64 b.prod,.int .i64 b.epoch,.int .i64 b.seq,.slice b.ra b.rn b.rc]] wx fun e w'=>fH wx e (.bool true) w'):=fun wx=>by rw [← hb];exact lT b wx
 subst hwb
 clear hB hK h hb
 go_enter Tryz.func95,Tryz.ntmps95
 go_wp2_with fail
 refine (HM.out _).mono ?_
 rintro e w1 ⟨rfl,k1⟩
 have HH1:=Lib.hid (HH.out.keep k1)
 have HB1:=Lib.hid ((k1.block _ (aC HB.out) (fun e=>e)).trans HB.out)
 have HK1:=Lib.hid (K0.tr HK.out k1)
 have c2:w1.cell? ⟨w.heap.size,2,none⟩=some (.int .i64 b.prod):=aB HB1.out 2
 have hlt:=aC HB1.out
 clear k1
 go_wp2_with fail
 refine (aEp HH1.out b.prod).mono ?_
 rintro e w2 ⟨hb2,rfl,hh,k2,hor⟩
 have HH2:=Lib.hid (HH1.out.keep k2)
 have hb2':=(k2.block _ (aC HB1.out) (fun e=>e)).trans HB1.out
 have HK2:=Lib.hid (K0.tr HK1.out k2)
 have HB2:=Lib.hid hb2'
 have HO:=Lib.hid hh
 have HOR:=Lib.hid hor
 have c0:w2.cell? ⟨w.heap.size,0,none⟩=some (.int .i64 b.base):=aB hb2' 0
 have c1:w2.cell? ⟨w.heap.size,1,none⟩=some (.int .i64 b.span):=aB hb2' 1
 have c2:w2.cell? ⟨w.heap.size,2,none⟩=some (.int .i64 b.prod):=aB hb2' 2
 have c3:w2.cell? ⟨w.heap.size,3,none⟩=some (.int .i64 b.epoch):=aB hb2' 3
 have c4:w2.cell? ⟨w.heap.size,4,none⟩=some (.int .i64 b.seq):=aB hb2' 4
 have hlt:=aC hb2'
 have e0:w2.cell? ⟨hb2,0,none⟩=some (.int .i64 (dL M b.prod).epoch):=aB hh 0
 have hlt2:=aC hh
 clear k2 hb2' hh hor
 go_wp2
 go_quiet (fail)
 go_wp2
 go_quiet (fail)
 go_wp2_with fail
 refine (aLe (w:=w2.drewN _) HO.out (HWF.out.old b.prod).1 (gS b)).mono ?_
 rintro e w3 ⟨rfl,h3,k3⟩
 have ha:aQ L b.prod=some (hb2,dL M b.prod):=by
  rcases HOR.out with e | ⟨e,_⟩
  ·exact e
  ·have:dL M b.prod=aA5:=by unfold dL;rw [HH2.out.agetL,e];rfl
   rw [this] at hE2
   exact absurd hE2 (by show ¬ (b.epoch≤-1);omega)
 have HQ:=Lib.hid ((HH2.out.keep ((aD.refl (fun _=>False) w2).drewN _)).turn ha k3 h3)
 clear h3 k3
 go_wp2
 go_end0
 exact ⟨rfl,_,_,HQ.out⟩
theorem aQ1 (h:pS w0 w pb M mb L) (b:cY) (hb:mT b=true) (_hE:¬ b.epoch<(dL M b.prod).epoch) (hE2:(dL M b.prod).epoch<b.epoch):Calls Tryz.prog 95 #[.pointer (some ⟨pb,0,none⟩),.agg #[.int .i64 b.base,.int .i64 b.span,.int .i64 b.prod,.int .i64 b.epoch,.int .i64 b.seq,.slice b.ra b.rn b.rc]] w fun e w'=>e=.returned (.tuple #[])∧pE w0 w' pb (bD M b.prod (zU (aA2 b.epoch) (gS b))):=by
 have hB:(w.alloc (.cells (bO b) 39)).heap[w.heap.size]?=some (.cells (bO b) 39 (0,0)):=aI _ _ _ rfl
 have hK:K0 w (w.alloc (.cells (bO b) 39)):=(aD.refl _ _).alloc _
 unfold bO at hB hK
 generalize hwb:w.alloc (.cells #[.int .i64 b.base,.int .i64 b.span,.int .i64 b.prod,.int .i64 b.epoch,.int .i64 b.seq,.slice b.ra b.rn b.rc] 39)=wb at hB hK
 have HMB:=Lib.hid h.map.lt
 have HB:=Lib.hid hB
 have HK:=Lib.hid hK
 have HH:=Lib.hid (h.keep hK)
 have hme:=oO hb
 have HM:Hid (∀ wx,Calls Tryz.prog 154 #[.agg #[.int .i64 b.base,.int .i64 b.span,.int .i64 b.prod,.int .i64 b.epoch,.int .i64 b.seq,.slice b.ra b.rn b.rc]] wx fun e w'=>fH wx e (.bool true) w'):=fun wx=>by rw [← hb];exact lT b wx
 subst hwb
 clear hB hK h hb
 go_enter Tryz.func95,Tryz.ntmps95
 go_wp2_with fail
 refine (HM.out _).mono ?_
 rintro e w1 ⟨rfl,k1⟩
 have HH1:=Lib.hid (HH.out.keep k1)
 have HB1:=Lib.hid ((k1.block _ (aC HB.out) (fun e=>e)).trans HB.out)
 have HK1:=Lib.hid (K0.tr HK.out k1)
 have c2:w1.cell? ⟨w.heap.size,2,none⟩=some (.int .i64 b.prod):=aB HB1.out 2
 have hlt:=aC HB1.out
 clear k1
 go_wp2_with fail
 refine (aEp HH1.out b.prod).mono ?_
 rintro e w2 ⟨hb2,rfl,hh,k2,hor⟩
 have HH2:=Lib.hid (HH1.out.keep k2)
 have hb2':=(k2.block _ (aC HB1.out) (fun e=>e)).trans HB1.out
 have HK2:=Lib.hid (K0.tr HK1.out k2)
 have HB2:=Lib.hid hb2'
 have HO:=Lib.hid hh
 have HOR:=Lib.hid hor
 have c0:w2.cell? ⟨w.heap.size,0,none⟩=some (.int .i64 b.base):=aB hb2' 0
 have c1:w2.cell? ⟨w.heap.size,1,none⟩=some (.int .i64 b.span):=aB hb2' 1
 have c2:w2.cell? ⟨w.heap.size,2,none⟩=some (.int .i64 b.prod):=aB hb2' 2
 have c3:w2.cell? ⟨w.heap.size,3,none⟩=some (.int .i64 b.epoch):=aB hb2' 3
 have c4:w2.cell? ⟨w.heap.size,4,none⟩=some (.int .i64 b.seq):=aB hb2' 4
 have hlt:=aC hb2'
 have e0:w2.cell? ⟨hb2,0,none⟩=some (.int .i64 (dL M b.prod).epoch):=aB hh 0
 have hlt2:=aC hh
 clear k2 hb2' hh hor
 go_wp2
 go_quiet (fail)
 go_wp2
 go_quiet (fail)
 go_upto_region 6 with fail
 generalize hwx:(w2.drewN _).alloc _=wx
 have hN:vQ wx w2.heap.size (aA2 b.epoch):=by rw [← hwx];exact aI _ _ _ rfl
 have hk3:K0 w2 wx:=by rw [← hwx];exact ((aD.refl _ _).drewN _).alloc _
 have h3:=HH2.out.keep hk3
 have b3:=(hk3.block _ (aC HB2.out) (fun e=>e)).trans HB2.out
 have d0:wx.drew.cell? ⟨pb,0,none⟩=some (.map (some mb)):=aB h3.blk 0
 have d2:wx.drew.cell? ⟨w.heap.size,2,none⟩=some (.int .i64 b.prod):=aB b3 2
 have l0:pb<wx.drew.heap.size:=aC h3.blk
 have l2:w.heap.size<wx.drew.heap.size:=aC b3
 obtain ⟨o,hu,hu2⟩:=h3.map.put_all (aEi Tryz.underlying3) Tryz.underlying299 b.prod (.pointer (some ⟨w2.heap.size,0,none⟩))
 have hu1:(Instr.mapUpdate 299 (.map (some mb)) (.int .i64 b.prod) (.pointer (some ⟨w2.heap.size,0,none⟩))).run Tryz.prog wx.drew=.ok () (aO wx.drew mb o):=hu _ rfl
 have HP:=Lib.hid (HH2.out.put (o:=o) (w1:=wx.drew) b.prod (b:=w2.heap.size) (x:=aA2 b.epoch) hk3.drew (Nat.le_refl _) hN (hu2 _ rfl))
 have B3:=Lib.hid b3
 clear hu hu2 hN hk3 h3 b3 c0 c1 c2 c3 c4 e0 hlt hlt2
 go_region
 have b4:=(cT (b:=mb) wx.drew o (show w.heap.size≠mb by have:=HMB.out;omega)).trans B3.out
 have c0:(aO wx.drew mb o).cell? ⟨w.heap.size,0,none⟩=some (.int .i64 b.base):=aB b4 0
 have c1:(aO wx.drew mb o).cell? ⟨w.heap.size,1,none⟩=some (.int .i64 b.span):=aB b4 1
 have c4:(aO wx.drew mb o).cell? ⟨w.heap.size,4,none⟩=some (.int .i64 b.seq):=aB b4 4
 have l4:=aC b4
 have HX:=Lib.hid (HP.out.her b.prod _ zH)
 clear b4 d0 d2 l0 l2 hu1 hwx
 generalize aO wx.drew mb o=wy at *
 go_wp2_with fail
 refine (aLe (w:=wy) HX.out (uV _) (gS b)).mono ?_
 rintro e w3 ⟨rfl,h3,k3⟩
 have hq:=HP.out.turn zH k3 h3
 rw [vW] at hq
 have HQ:=Lib.hid hq
 clear h3 k3 hq
 go_wp2
 go_end0
 exact ⟨rfl,_,_,HQ.out⟩
theorem uX (h:pE w0 w pb M) (wf:WfM M) (b:cY):Calls Tryz.prog 95 #[.pointer (some ⟨pb,0,none⟩),.agg #[.int .i64 b.base,.int .i64 b.span,.int .i64 b.prod,.int .i64 b.epoch,.int .i64 b.seq,.slice b.ra b.rn b.rc]] w fun e w'=>e=.returned (.tuple #[])∧pE w0 w' pb (hZ M b):=by
 have hh:=h
 obtain ⟨mb,L,h⟩:=h
 unfold hZ
 cases hb:mT b with
 | false=>
  rw [if_neg aK]
  exact (aQz h b hb).mono fun e w' hq=>⟨hq.1,hh.keep hq.2⟩
 | true=>
  rw [if_pos rfl]
  by_cases h1:b.epoch<(dL M b.prod).epoch
  ·rw [if_pos h1]
   exact (aQ2 h b hb h1).mono fun e w' hq=>⟨hq.1,hh.keep hq.2⟩
  ·rw [if_neg h1]
   by_cases h2:(dL M b.prod).epoch<b.epoch
   ·rw [if_pos h2]
    exact aQ1 h b hb h1 h2
   ·rw [if_neg h2]
    exact aNs h b hb h1 h2 wf
theorem WfM.note (h:WfM M) (b:cY):WfM (hZ M b):=fun id H e=>by
 unfold hZ at e
 cases hb:mT b with
 | false=>rw [if_neg (by rw [hb];simp)] at e;exact h id H e
 | true=>
  have hme:=oO hb
  rw [if_pos hb] at e
  by_cases h1:b.epoch<(dL M b.prod).epoch
  ·rw [if_pos h1] at e;exact h id H e
  ·rw [if_neg h1] at e
   by_cases h2:(dL M b.prod).epoch<b.epoch
   ·rw [if_pos h2,bX] at e
    split at e
    ·cases e;exact ⟨hme.1,yS (uV _) _⟩
    ·exact h id H e
   ·rw [if_neg h2,bX] at e
    split at e
    ·cases e
     refine ⟨?_,yS (h.old b.prod).1 _⟩
     show 0≤(dL M b.prod).epoch
     omega
    ·exact h id H e
end
end Go.Proofs.YteapahcklcldkaaGreatDoor.Idm
