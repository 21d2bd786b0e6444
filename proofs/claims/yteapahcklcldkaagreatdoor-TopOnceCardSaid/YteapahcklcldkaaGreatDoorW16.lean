/-
  The statement is proved: all that it reaches, in parts.
-/
import Derived.Test.YteapahcklcldkaaGreatDoorW11
import Derived.Test.YteapahcklcldkaaGreatDoorW15
set_option maxRecDepth 100000
set_option maxHeartbeats 16000000
namespace Go.Proofs.YteapahcklcldkaaGreatDoor
open Go.RowKit Fx
theorem aJq {w wd W:World} {ib sb tb c1 c2:Nat} {ev o la:Int} {x y:Nat} (hxy:zJ o 0=.complex .f64 x y) (hB:wd.heap[ib]?=some (.cells #[.int .i64 ev,.slice none 0 0,.slice none 0 0,.bool true,.complex .f64 x y,.int .i64 la] 487 (0,0))) (hK:aD (fun k=>k=ib) w wd) (hW:aD (fun k=>k=ib) wd W)
  (hib:W.heap[ib]?=some (.cells ((#[.int .i64 ev,.slice none 0 0,.slice none 0 0,.bool true,.complex .f64 x y,.int .i64 la].setIfInBounds 1 (.slice (some ⟨sb,0,none⟩) 1 c1)).setIfInBounds 2 (.slice (some ⟨tb,0,none⟩) 1 c2)) 487 (0,0))) (hs:W.cell? ⟨sb,0,none⟩=some (.complex .f64 x y)) (h1:wd.heap.size≤sb) (h2:wd.heap.size≤tb) :
  (∃ sb tb,iX W.drew.drew.drew ib sb tb ev o o 0∧w.heap.size≤sb∧w.heap.size≤tb)∧aD (fun k=>k=ib) w W.drew.drew.drew:=by
 have hl:=aC hB
 have hz:=hK.size
 exact ⟨⟨sb,tb,⟨⟨c1,c2,la,by rw [hxy];exact hib⟩,by rw [hxy];exact hs,by omega,by omega⟩,by omega,by omega⟩,(hK.trans hW (fun _ _ e=>e)).drew.drew.drew⟩
theorem aG7 (ib:Nat) (ev o t:Int) (w:World) (h:zP w ib ev) (ho:aG6 o) (ht:aG6 t) :
  Calls Tryz.prog 345 #[.pointer (some ⟨ib,0,none⟩),.int .i64 o,.int .i64 0,.int .i64 t] w fun e w'=>e=.returned (.int .i64 0)∧(∃ sb tb,iX w' ib sb tb ev o o 0∧w.heap.size≤sb∧w.heap.size≤tb)∧aD (fun k=>k=ib) w w':=by
 have c0:w.cell? ⟨ib,0,none⟩=some (.int .i64 ev):=aB h 0
 have c1:w.cell? ⟨ib,1,none⟩=some (.slice none 0 0):=aB h 1
 have c2:w.cell? ⟨ib,2,none⟩=some (.slice none 0 0):=aB h 2
 have c3:w.cell? ⟨ib,3,none⟩=some (.bool false):=aB h 3
 have c4:w.cell? ⟨ib,4,none⟩=some (.complex .f64 0 0):=aB h 4
 have c5:w.cell? ⟨ib,5,none⟩=some (.int .i64 0):=aB h 5
 have f3:=aH h 3
 have f4:=aH h 4
 have f5:=aH h 5
 have f1:=aH h 1
 have f2:=aH h 2
 have hlt:=aC h
 have HH:=Lib.hid h
 clear h
 obtain ⟨x,y,hxy⟩:∃ x y,zJ o 0=.complex .f64 x y:=⟨_,_,rfl⟩
 have HSP:Hid (∀ w,Calls Tryz.prog 381 #[.int .i64 o,.int .i64 0] w fun e w'=>e=.returned (.complex .f64 x y)∧w'=w):=fun w=>by rw [← hxy];exact aBr o 0 w
 have HXY:=Lib.hid hxy
 clear hxy
 go_enter Tryz.func345,Tryz.ntmps345
 go_wp2_with fail
 refine (xL w.heap.size o 0 t _ (aB (aI w _ _ rfl) 0) (aB (aI w _ _ rfl) 1) (aB (aI w _ _ rfl) 2) ho ⟨by decide,by decide⟩ ht).mono ?_
 rintro e w1 ⟨rfl,rfl⟩
 have HREL:Hid ((∃ la,(((((w.setCell ⟨ib,5,none⟩ (.int .i64 t)).setCell ⟨ib,3,none⟩ (.bool true)).setCell ⟨ib,4,none⟩ (.complex .f64 x y)).setCell ⟨ib,5,none⟩ (.int .i64 t)).alloc (.cells #[.int .i64 o,.int .i64 0,.int .i64 t] 3)).drew.heap[ib]?=some (.cells #[.int .i64 ev,.slice none 0 0,.slice none 0 0,.bool true,.complex .f64 x y,.int .i64 la] 487 (0,0)))∧
   aD (fun k=>k=ib) w (((((w.setCell ⟨ib,5,none⟩ (.int .i64 t)).setCell ⟨ib,3,none⟩ (.bool true)).setCell ⟨ib,4,none⟩ (.complex .f64 x y)).setCell ⟨ib,5,none⟩ (.int .i64 t)).alloc (.cells #[.int .i64 o,.int .i64 0,.int .i64 t] 3)).drew):=
  ⟨⟨t,aL (aM (aM (aM (aM HH.out 5 _) 3 _) 4 _) 5 _) _⟩,(((((aD.refl (fun k=>k=ib) w).setC 5 _ (fun _=>rfl)).setC 3 _ (fun _=>rfl)).setC 4 _ (fun _=>rfl)).setC 5 _ (fun _=>rfl)).alloc _ |>.drew⟩
 go_upto_region 5 with fail
 go_cut [0] (fun v wc=>v=.pointer (some ⟨ib,0,none⟩)∧(∃ la,wc.heap[ib]?=some (.cells #[.int .i64 ev,.slice none 0 0,.slice none 0 0,.bool true,.complex .f64 x y,.int .i64 la] 487 (0,0)))∧aD (fun k=>k=ib) w wc)
 case first=>
  go_wp2_with fail
  go_region_with (go_at_call 381;refine (HSP.out _).mono ?_;rintro e w' ⟨rfl,rfl⟩)
  all_goals
   go_wp2
   go_meet
   case rel=>exact ⟨rfl,HREL.out.1,HREL.out.2⟩
 case rest=>
  obtain ⟨rfl,⟨la,hblk⟩,hk⟩:=hcut
  have d1:wc.cell? ⟨ib,1,none⟩=some (.slice none 0 0):=aB hblk 1
  have d2:wc.cell? ⟨ib,2,none⟩=some (.slice none 0 0):=aB hblk 2
  have d4:wc.cell? ⟨ib,4,none⟩=some (.complex .f64 x y):=aB hblk 4
  have d5:wc.cell? ⟨ib,5,none⟩=some (.int .i64 la):=aB hblk 5
  have e1:=aH hblk 1
  have e2:=aH hblk 2
  have hl:=aC hblk
  have HB:=Lib.hid hblk
  have HK:=Lib.hid hk
  clear hblk hk c0 c1 c2 c3 c4 c5 f1 f2 f3 f4 f5 hlt HREL
  go_wp2_with fail
  go_quiet (fail)
  go_wp2_with fail
  obtain ⟨wd,hwd⟩:∃ wd,wd=wc.drewN nq:=⟨_,rfl⟩
  have HBd:Hid (wd.heap[ib]?=some (.cells #[.int .i64 ev,.slice none 0 0,.slice none 0 0,.bool true,.complex .f64 x y,.int .i64 la] 487 (0,0))):=by rw [hwd];exact HB.out
  have HKd:Hid (aD (fun k=>k=ib) w wd):=by rw [hwd];exact HK.out.drewN _
  rw [← hwd]
  clear hwd HB HK d1 d2 d4 d5 e1 e2 hl
  have d1:wd.cell? ⟨ib,1,none⟩=some (.slice none 0 0):=aB HBd.out 1
  have d2:wd.cell? ⟨ib,2,none⟩=some (.slice none 0 0):=aB HBd.out 2
  have d4:wd.cell? ⟨ib,4,none⟩=some (.complex .f64 x y):=aB HBd.out 4
  have d5:wd.cell? ⟨ib,5,none⟩=some (.int .i64 la):=aB HBd.out 5
  have e1:=aH HBd.out 1
  have e2:=aH HBd.out 2
  have hl:=aC HBd.out
  have hl1:ib<wd.heap.size+1:=aA
  have hl2:ib<wd.heap.size+1+1:=aA
  have hl3:ib<wd.heap.size+1+1+1:=aA
  have hl4:ib<wd.heap.size+1+1+1+1:=aA
  have hn:ib≠wd.heap.size:=aA
  have hn1:ib≠wd.heap.size+1:=aA
  have hn2:ib≠wd.heap.size+1+1:=aA
  have hn3:ib≠wd.heap.size+1+1+1:=aA
  refine aX 24 (fun w'=>w'.cell? ⟨ib,1,none⟩=some (.slice none 0 0)∧w'.cell? ⟨ib,2,none⟩=some (.slice none 0 0)∧w'.cell? ⟨ib,4,none⟩=some (.complex .f64 x y)∧w'.cell? ⟨ib,5,none⟩=some (.int .i64 la)) (fun _=>True) aF ⟨d1,d2,d4,d5⟩ trivial (fun hS=>?_)
  refine tC 0 hS (fun hS=>?_)
  simp only [Act.put,Sw]
  refine tC 1 hS (fun hS=>?_)
  simp only [Act.put]
  refine tC 2 hS (fun hS=>?_)
  simp only [Act.put]
  refine tC 3 hS (fun hS=>?_)
  simp only [Act.put]
  refine tC 4 hS (fun hS=>?_)
  simp only [Act.put]
  refine jF (i:=5) (v:=?_) rfl aF aF aF aF aE (fun _ _ _ h=>h) aBx (fun w hA hB=>?_) hS (fun hS=>?_)
  rotate_left
  ·(try dsimp only at hA hB);go_split_ands;go_simp;(first | done | with_reducible rfl)
  simp only [Act.put]
  refine tC 6 hS (fun hS=>?_)
  simp only [Act.put]
  refine tC 7 hS (fun hS=>?_)
  simp only [Act.put]
  refine tC 8 hS (fun hS=>?_)
  simp only [Act.put]
  refine jF (i:=9) (v:=?_) rfl aF aF aF aF aE (fun _ _ _ h=>h) aBx (fun w hA hB=>?_) hS (fun hS=>?_)
  rotate_left
  ·(try dsimp only at hA hB);go_split_ands;go_simp;(first | done | with_reducible rfl)
  simp only [Act.put]
  refine tC 12 hS (fun hS=>?_)
  simp only [Act.put]
  refine tC 13 hS (fun hS=>?_)
  simp only [Act.put]
  refine tC 14 hS (fun hS=>?_)
  simp only [Act.put]
  refine jF (i:=15) (v:=?_) rfl aF aF aF aF aE (fun _ _ _ h=>h) aBx (fun w hA hB=>?_) hS (fun hS=>?_)
  rotate_left
  ·(try dsimp only at hA hB);go_split_ands;go_simp;(first | done | with_reducible rfl)
  simp only [Act.put]
  refine tC 16 hS (fun hS=>?_)
  simp only [Act.put]
  refine tC 17 hS (fun hS=>?_)
  simp only [Act.put]
  refine tC 18 hS (fun hS=>?_)
  simp only [Act.put]
  refine jF (i:=19) (v:=?_) rfl aF aF aF aF aE (fun _ _ _ h=>h) aBx (fun w hA hB=>?_) hS (fun hS=>?_)
  rotate_left
  ·(try dsimp only at hA hB);go_split_ands;go_simp;(first | done | with_reducible rfl)
  simp only [Act.put]
  refine aBw (i:=10) (i2:=20) rfl rfl aF (fun K hK=>?_) (fun K hK=>?_)
  ·go_simp
   refine hK.out _ _ ⟨fun _=>⟨by (refine aD.cell' (S:=fun _=>False) (w:=wd) ?_ aG (fun e=>e);repeat (first | exact aD.refl _ _ | with_reducible apply aD.drew | with_reducible refine aD.alloc ?_ _)),by (refine aD.cell' (S:=fun _=>False) (w:=wd) ?_ aG (fun e=>e);repeat (first | exact aD.refl _ _ | with_reducible apply aD.drew | with_reducible refine aD.alloc ?_ _)),by (refine aD.cell' (S:=fun _=>False) (w:=wd) ?_ aG (fun e=>e);repeat (first | exact aD.refl _ _ | with_reducible apply aD.drew | with_reducible refine aD.alloc ?_ _)),by (refine aD.cell' (S:=fun _=>False) (w:=wd) ?_ aG (fun e=>e);repeat (first | exact aD.refl _ _ | with_reducible apply aD.drew | with_reducible refine aD.alloc ?_ _))⟩,trivial⟩ (fun hS=>?_)
   clear hK K
   try simp only [Act.put,Sw]
   refine aBw (i:=11) (i2:=20) rfl rfl aF (fun K hK=>?_) (fun K hK=>?_)
   ·refine jE (v:=.complex .f64 x y) rfl rfl rfl rfl Tryz.underlying483 aAt aE aJ ?_
    intro cp1 A1 hA1
    refine hK.out _ _ ⟨fun _=>⟨by (refine aD.cell' (S:=fun _=>False) (w:=wd) ?_ aG (fun e=>e);repeat (first | exact aD.refl _ _ | with_reducible apply aD.drew | with_reducible refine aD.alloc ?_ _)),by (refine aD.cell' (S:=fun _=>False) (w:=wd) ?_ aG (fun e=>e);repeat (first | exact aD.refl _ _ | with_reducible apply aD.drew | with_reducible refine aD.alloc ?_ _)),by (refine aD.cell' (S:=fun _=>False) (w:=wd) ?_ aG (fun e=>e);repeat (first | exact aD.refl _ _ | with_reducible apply aD.drew | with_reducible refine aD.alloc ?_ _)),by (refine aD.cell' (S:=fun _=>False) (w:=wd) ?_ aG (fun e=>e);repeat (first | exact aD.refl _ _ | with_reducible apply aD.drew | with_reducible refine aD.alloc ?_ _))⟩,trivial⟩ (fun hS=>?_)
    clear hK K
    try simp only [Act.put,Sw]
    refine tO 20 (fun K hK=>?_)
    go_simp
    refine hK.out _ _ ⟨fun _=>⟨by (refine aD.cell' (S:=fun _=>False) (w:=wd) ?_ aG (fun e=>e);repeat (first | exact aD.refl _ _ | with_reducible apply aD.drew | with_reducible refine aD.alloc ?_ _)),by (refine aD.cell' (S:=fun _=>False) (w:=wd) ?_ aG (fun e=>e);repeat (first | exact aD.refl _ _ | with_reducible apply aD.drew | with_reducible refine aD.alloc ?_ _)),by (refine aD.cell' (S:=fun _=>False) (w:=wd) ?_ aG (fun e=>e);repeat (first | exact aD.refl _ _ | with_reducible apply aD.drew | with_reducible refine aD.alloc ?_ _)),by (refine aD.cell' (S:=fun _=>False) (w:=wd) ?_ aG (fun e=>e);repeat (first | exact aD.refl _ _ | with_reducible apply aD.drew | with_reducible refine aD.alloc ?_ _))⟩,trivial⟩ (fun hS=>?_)
    clear hK K
    try simp only [Act.put,Sw]
    refine tO 21 (fun K hK=>?_)
    refine jE (v:=.int .i64 la) rfl rfl rfl rfl Tryz.underlying81 aEg aE aJ ?_
    intro cp2 A2 hA2
    refine hK.out _ _ ⟨fun _=>⟨by (refine aD.cell' (S:=fun _=>False) (w:=wd) ?_ aG (fun e=>e);repeat (first | exact aD.refl _ _ | with_reducible apply aD.drew | with_reducible refine aD.alloc ?_ _)),by (refine aD.cell' (S:=fun _=>False) (w:=wd) ?_ aG (fun e=>e);repeat (first | exact aD.refl _ _ | with_reducible apply aD.drew | with_reducible refine aD.alloc ?_ _)),by (refine aD.cell' (S:=fun _=>False) (w:=wd) ?_ aG (fun e=>e);repeat (first | exact aD.refl _ _ | with_reducible apply aD.drew | with_reducible refine aD.alloc ?_ _)),by (refine aD.cell' (S:=fun _=>False) (w:=wd) ?_ aG (fun e=>e);repeat (first | exact aD.refl _ _ | with_reducible apply aD.drew | with_reducible refine aD.alloc ?_ _))⟩,trivial⟩ (fun hS=>?_)
    clear hK K
    try simp only [Act.put,Sw]
    refine tC 22 hS (fun hS=>?_)
    simp only [Act.put]
    refine tC 23 hS (fun hS=>?_)
    simp only [Act.put]
    refine tO 24 (fun K hK=>?_)
    go_simp
    refine hK.out _ _ ⟨fun e=>absurd e aE,trivial⟩ (fun hS=>?_)
    clear hK K
    try simp only [Act.put,Sw]
    refine tC 25 hS (fun hS=>?_)
    simp only [Act.put,Sw]
    refine tC 26 hS (fun hS=>?_)
    simp only [Act.put]
    refine tO 27 (fun K hK=>?_)
    go_simp
    refine hK.out _ _ ⟨fun e=>absurd e aE,trivial⟩ (fun hS=>?_)
    clear hK K
    try simp only [Act.put,Sw]
    refine bC aF ?_ _
    go_wp2_with fail
    go_ret
    refine ⟨rfl,aJq HXY.out HBd.out HKd.out ?_ (aL (aL (aL (aL (aM (aM HBd.out 1 _) 2 _) _) _) _) _) ?_ ?_ ?_⟩
    ·exact ((((((aD.refl (fun k=>k=ib) wd).setC 1 _ (fun _=>rfl)).setC 2 _ (fun _=>rfl)).alloc _).alloc _).alloc _).alloc _
    ·first
     | exact (aB (aI _ _ _ aK) 0).trans hA1
     | exact (aB (aL (aI _ _ _ aK) _) 0).trans hA1
     | exact (aB (aL (aL (aI _ _ _ aK) _) _) 0).trans hA1
    ·omega
    ·omega
   ·go_simp
    refine hK.out _ _ ⟨fun _=>⟨by (refine aD.cell' (S:=fun _=>False) (w:=wd) ?_ aG (fun e=>e);repeat (first | exact aD.refl _ _ | with_reducible apply aD.drew | with_reducible refine aD.alloc ?_ _)),by (refine aD.cell' (S:=fun _=>False) (w:=wd) ?_ aG (fun e=>e);repeat (first | exact aD.refl _ _ | with_reducible apply aD.drew | with_reducible refine aD.alloc ?_ _)),by (refine aD.cell' (S:=fun _=>False) (w:=wd) ?_ aG (fun e=>e);repeat (first | exact aD.refl _ _ | with_reducible apply aD.drew | with_reducible refine aD.alloc ?_ _)),by (refine aD.cell' (S:=fun _=>False) (w:=wd) ?_ aG (fun e=>e);repeat (first | exact aD.refl _ _ | with_reducible apply aD.drew | with_reducible refine aD.alloc ?_ _))⟩,trivial⟩ (fun hS=>?_)
    clear hK K
    try simp only [Act.put,Sw]
    refine tO 11 (fun K hK=>?_)
    refine jE (v:=.complex .f64 x y) rfl rfl rfl rfl Tryz.underlying483 aAt aE aJ ?_
    intro cp1 A1 hA1
    refine hK.out _ _ ⟨fun _=>⟨by (refine aD.cell' (S:=fun _=>False) (w:=wd) ?_ aG (fun e=>e);repeat (first | exact aD.refl _ _ | with_reducible apply aD.drew | with_reducible refine aD.alloc ?_ _)),by (refine aD.cell' (S:=fun _=>False) (w:=wd) ?_ aG (fun e=>e);repeat (first | exact aD.refl _ _ | with_reducible apply aD.drew | with_reducible refine aD.alloc ?_ _)),by (refine aD.cell' (S:=fun _=>False) (w:=wd) ?_ aG (fun e=>e);repeat (first | exact aD.refl _ _ | with_reducible apply aD.drew | with_reducible refine aD.alloc ?_ _)),by (refine aD.cell' (S:=fun _=>False) (w:=wd) ?_ aG (fun e=>e);repeat (first | exact aD.refl _ _ | with_reducible apply aD.drew | with_reducible refine aD.alloc ?_ _))⟩,trivial⟩ (fun hS=>?_)
    clear hK K
    try simp only [Act.put,Sw]
    refine tO 21 (fun K hK=>?_)
    refine jE (v:=.int .i64 la) rfl rfl rfl rfl Tryz.underlying81 aEg aE aJ ?_
    intro cp2 A2 hA2
    refine hK.out _ _ ⟨fun _=>⟨by (refine aD.cell' (S:=fun _=>False) (w:=wd) ?_ aG (fun e=>e);repeat (first | exact aD.refl _ _ | with_reducible apply aD.drew | with_reducible refine aD.alloc ?_ _)),by (refine aD.cell' (S:=fun _=>False) (w:=wd) ?_ aG (fun e=>e);repeat (first | exact aD.refl _ _ | with_reducible apply aD.drew | with_reducible refine aD.alloc ?_ _)),by (refine aD.cell' (S:=fun _=>False) (w:=wd) ?_ aG (fun e=>e);repeat (first | exact aD.refl _ _ | with_reducible apply aD.drew | with_reducible refine aD.alloc ?_ _)),by (refine aD.cell' (S:=fun _=>False) (w:=wd) ?_ aG (fun e=>e);repeat (first | exact aD.refl _ _ | with_reducible apply aD.drew | with_reducible refine aD.alloc ?_ _))⟩,trivial⟩ (fun hS=>?_)
    clear hK K
    try simp only [Act.put]
    refine tC 22 hS (fun hS=>?_)
    simp only [Act.put]
    refine tC 23 hS (fun hS=>?_)
    simp only [Act.put]
    refine tO 24 (fun K hK=>?_)
    go_simp
    refine hK.out _ _ ⟨fun e=>absurd e aE,trivial⟩ (fun hS=>?_)
    clear hK K
    try simp only [Act.put,Sw]
    refine tC 25 hS (fun hS=>?_)
    simp only [Act.put,Sw]
    refine tC 26 hS (fun hS=>?_)
    simp only [Act.put]
    refine tO 27 (fun K hK=>?_)
    go_simp
    refine hK.out _ _ ⟨fun e=>absurd e aE,trivial⟩ (fun hS=>?_)
    clear hK K
    try simp only [Act.put,Sw]
    refine bC aF ?_ _
    go_wp2_with fail
    go_ret
    refine ⟨rfl,aJq HXY.out HBd.out HKd.out ?_ (aL (aL (aL (aL (aM (aM HBd.out 1 _) 2 _) _) _) _) _) ?_ ?_ ?_⟩
    ·exact ((((((aD.refl (fun k=>k=ib) wd).setC 1 _ (fun _=>rfl)).setC 2 _ (fun _=>rfl)).alloc _).alloc _).alloc _).alloc _
    ·first
     | exact (aB (aI _ _ _ aK) 0).trans hA1
     | exact (aB (aL (aI _ _ _ aK) _) 0).trans hA1
     | exact (aB (aL (aL (aI _ _ _ aK) _) _) 0).trans hA1
    ·omega
    ·omega
  ·go_simp
   refine hK.out _ _ ⟨fun _=>⟨by (refine aD.cell' (S:=fun _=>False) (w:=wd) ?_ aG (fun e=>e);repeat (first | exact aD.refl _ _ | with_reducible apply aD.drew | with_reducible refine aD.alloc ?_ _)),by (refine aD.cell' (S:=fun _=>False) (w:=wd) ?_ aG (fun e=>e);repeat (first | exact aD.refl _ _ | with_reducible apply aD.drew | with_reducible refine aD.alloc ?_ _)),by (refine aD.cell' (S:=fun _=>False) (w:=wd) ?_ aG (fun e=>e);repeat (first | exact aD.refl _ _ | with_reducible apply aD.drew | with_reducible refine aD.alloc ?_ _)),by (refine aD.cell' (S:=fun _=>False) (w:=wd) ?_ aG (fun e=>e);repeat (first | exact aD.refl _ _ | with_reducible apply aD.drew | with_reducible refine aD.alloc ?_ _))⟩,trivial⟩ (fun hS=>?_)
   clear hK K
   try simp only [Act.put,Sw]
   refine tO 10 (fun K hK=>?_)
   go_simp
   refine hK.out _ _ ⟨fun _=>⟨by (refine aD.cell' (S:=fun _=>False) (w:=wd) ?_ aG (fun e=>e);repeat (first | exact aD.refl _ _ | with_reducible apply aD.drew | with_reducible refine aD.alloc ?_ _)),by (refine aD.cell' (S:=fun _=>False) (w:=wd) ?_ aG (fun e=>e);repeat (first | exact aD.refl _ _ | with_reducible apply aD.drew | with_reducible refine aD.alloc ?_ _)),by (refine aD.cell' (S:=fun _=>False) (w:=wd) ?_ aG (fun e=>e);repeat (first | exact aD.refl _ _ | with_reducible apply aD.drew | with_reducible refine aD.alloc ?_ _)),by (refine aD.cell' (S:=fun _=>False) (w:=wd) ?_ aG (fun e=>e);repeat (first | exact aD.refl _ _ | with_reducible apply aD.drew | with_reducible refine aD.alloc ?_ _))⟩,trivial⟩ (fun hS=>?_)
   clear hK K
   try simp only [Act.put,Sw]
   refine tO 11 (fun K hK=>?_)
   refine jE (v:=.complex .f64 x y) rfl rfl rfl rfl Tryz.underlying483 aAt aE aJ ?_
   intro cp1 A1 hA1
   refine hK.out _ _ ⟨fun _=>⟨by (refine aD.cell' (S:=fun _=>False) (w:=wd) ?_ aG (fun e=>e);repeat (first | exact aD.refl _ _ | with_reducible apply aD.drew | with_reducible refine aD.alloc ?_ _)),by (refine aD.cell' (S:=fun _=>False) (w:=wd) ?_ aG (fun e=>e);repeat (first | exact aD.refl _ _ | with_reducible apply aD.drew | with_reducible refine aD.alloc ?_ _)),by (refine aD.cell' (S:=fun _=>False) (w:=wd) ?_ aG (fun e=>e);repeat (first | exact aD.refl _ _ | with_reducible apply aD.drew | with_reducible refine aD.alloc ?_ _)),by (refine aD.cell' (S:=fun _=>False) (w:=wd) ?_ aG (fun e=>e);repeat (first | exact aD.refl _ _ | with_reducible apply aD.drew | with_reducible refine aD.alloc ?_ _))⟩,trivial⟩ (fun hS=>?_)
   clear hK K
   try simp only [Act.put,Sw]
   refine tO 21 (fun K hK=>?_)
   refine jE (v:=.int .i64 la) rfl rfl rfl rfl Tryz.underlying81 aEg aE aJ ?_
   intro cp2 A2 hA2
   refine hK.out _ _ ⟨fun _=>⟨by (refine aD.cell' (S:=fun _=>False) (w:=wd) ?_ aG (fun e=>e);repeat (first | exact aD.refl _ _ | with_reducible apply aD.drew | with_reducible refine aD.alloc ?_ _)),by (refine aD.cell' (S:=fun _=>False) (w:=wd) ?_ aG (fun e=>e);repeat (first | exact aD.refl _ _ | with_reducible apply aD.drew | with_reducible refine aD.alloc ?_ _)),by (refine aD.cell' (S:=fun _=>False) (w:=wd) ?_ aG (fun e=>e);repeat (first | exact aD.refl _ _ | with_reducible apply aD.drew | with_reducible refine aD.alloc ?_ _)),by (refine aD.cell' (S:=fun _=>False) (w:=wd) ?_ aG (fun e=>e);repeat (first | exact aD.refl _ _ | with_reducible apply aD.drew | with_reducible refine aD.alloc ?_ _))⟩,trivial⟩ (fun hS=>?_)
   clear hK K
   try simp only [Act.put]
   refine tC 22 hS (fun hS=>?_)
   simp only [Act.put]
   refine tC 23 hS (fun hS=>?_)
   simp only [Act.put]
   refine tO 24 (fun K hK=>?_)
   go_simp
   refine hK.out _ _ ⟨fun e=>absurd e aE,trivial⟩ (fun hS=>?_)
   clear hK K
   try simp only [Act.put,Sw]
   refine tC 25 hS (fun hS=>?_)
   simp only [Act.put,Sw]
   refine tC 26 hS (fun hS=>?_)
   simp only [Act.put]
   refine tO 27 (fun K hK=>?_)
   go_simp
   refine hK.out _ _ ⟨fun e=>absurd e aE,trivial⟩ (fun hS=>?_)
   clear hK K
   try simp only [Act.put,Sw]
   refine bC aF ?_ _
   go_wp2_with fail
   go_ret
   refine ⟨rfl,aJq HXY.out HBd.out HKd.out ?_ (aL (aL (aL (aL (aM (aM HBd.out 1 _) 2 _) _) _) _) _) ?_ ?_ ?_⟩
   ·exact ((((((aD.refl (fun k=>k=ib) wd).setC 1 _ (fun _=>rfl)).setC 2 _ (fun _=>rfl)).alloc _).alloc _).alloc _).alloc _
   ·first
    | exact (aB (aI _ _ _ aK) 0).trans hA1
    | exact (aB (aL (aI _ _ _ aK) _) 0).trans hA1
    | exact (aB (aL (aL (aI _ _ _ aK) _) _) 0).trans hA1
   ·omega
   ·omega
theorem iX.cells {w:World} {ib sb tb:Nat} {ev o lo lp:Int} (h:iX w ib sb tb ev o lo lp):∃ c1 c2 la,w.heap[ib]?=some (.cells #[.int .i64 ev,.slice (some ⟨sb,0,none⟩) 1 c1,.slice (some ⟨tb,0,none⟩) 1 c2,.bool true,zJ lo lp,.int .i64 la] 487 (0,0))∧
  w.cell? ⟨sb,0,none⟩=some (zJ o 0):=by
 obtain ⟨⟨c1,c2,la,h1⟩,h2,_⟩:=h
 exact ⟨c1,c2,la,h1,h2⟩
theorem aJo {w:World} {ib sb tb:Nat} {ev o lo lp:Int} (o' p t:Int) (h:iX w ib sb tb ev o lo lp) (ho':aG6 o') (hp:aG6 p) (ht:aG6 t) (h1:0≤lo∧lo≤1000) (h2:0≤lp∧lp≤1000) (h3:lo<o') (h4:lp<p) (h5:p<ev) (_h6:ev≤1000000) :
  Calls Tryz.prog 345 #[.pointer (some ⟨ib,0,none⟩),.int .i64 o',.int .i64 p,.int .i64 t] w fun e w'=>e=.returned (.int .i64 0)∧iX w' ib sb tb ev o o' p∧aD (fun k=>k=ib) w w':=by
 obtain ⟨c1,c2,la,hb,hs⟩:=h.cells
 have HH:=Lib.hid h
 have HB:=Lib.hid hb
 have hsl:=World.block_lt_of_cell? w _ hs
 have HNE:=Lib.hid h.ne
 obtain ⟨hp1,hp2⟩:=id hp
 have i1:¬ o'≤lo:=aA
 have i2:¬ p≤lp:=aA
 have j1:decide (o'≤lo)=false:=decide_eq_false i1
 have j2:decide (p≤lp)=false:=decide_eq_false i2
 have e0:w.cell? ⟨ib,0,none⟩=some (.int .i64 ev):=aB hb 0
 have e1:w.cell? ⟨ib,1,none⟩=some (.slice (some ⟨sb,0,none⟩) 1 c1):=aB hb 1
 have e3:w.cell? ⟨ib,3,none⟩=some (.bool true):=aB hb 3
 have e4:w.cell? ⟨ib,4,none⟩=some (zJ lo lp):=aB hb 4
 have e5:w.cell? ⟨ib,5,none⟩=some (.int .i64 la):=aB hb 5
 have f3:=aH hb 3
 have f4:=aH hb 4
 have f5:=aH hb 5
 have hlt:=aC hb
 have hlt1:ib<w.heap.size+1:=aA
 have hnn:ib≠w.heap.size:=aA
 clear h hb
 have HW:Hid (∀ wx B,wx.cell? ⟨B,0,none⟩=some (.int .i64 o')→wx.cell? ⟨B,1,none⟩=some (.int .i64 p)→wx.cell? ⟨B,2,none⟩=some (.int .i64 t)→Calls Tryz.prog 379 #[.slice (some ⟨B,0,none⟩) 3 3] wx fun e w'=>e=.returned (.bool true)∧w'=wx):=
  fun wx B a b c=>xL B o' p t wx a b c ho' hp ht
 have HO:Hid (∀ wx,Calls Tryz.prog 375 #[zJ lo lp] wx fun e w'=>e=.returned (.int .i64 lo)∧w'=wx):=fun wx=>sZ lo lp wx h1.1 h1.2
 have HP:Hid (∀ wx,Calls Tryz.prog 380 #[zJ lo lp] wx fun e w'=>e=.returned (.int .i64 lp)∧w'=wx):=fun wx=>aE1 lo lp wx h2.1 h2.2
 have HQ:Hid (∀ wx,Calls Tryz.prog 380 #[zJ o 0] wx fun e w'=>e=.returned (.int .i64 0)∧w'=wx):=fun wx=>aE1 o 0 wx aA aA
 have HSP:Hid (∀ wx,Calls Tryz.prog 381 #[.int .i64 o',.int .i64 p] wx fun e w'=>e=.returned (zJ o' p)∧w'=wx):=fun wx=>aBr o' p wx
 clear h1 h2 h3 h4 ho' hp ht
 have H5:=Lib.hid h5
 clear h5
 obtain ⟨xl,yl,hxl⟩:∃ x y,zJ lo lp=.complex .f64 x y:=⟨_,_,rfl⟩
 obtain ⟨xo,y0,hxo⟩:∃ x y,zJ o 0=.complex .f64 x y:=⟨_,_,rfl⟩
 obtain ⟨xp,yp,hxp⟩:∃ x y,zJ o' p=.complex .f64 x y:=⟨_,_,rfl⟩
 rw [hxl] at HB e4 HO HP
 rw [hxo] at hs HQ
 rw [hxp] at HSP
 have HXO:=Lib.hid hxo
 have HXP:=Lib.hid hxp
 clear hxl hxo hxp
 go_enter Tryz.func345,Tryz.ntmps345
 go_upto_region 5 with (first
  | (go_at_call 379;refine (HW.out _ w.heap.size (aB (aI w _ _ rfl) 0) (aB (aI w _ _ rfl) 1) (aB (aI w _ _ rfl) 2)).mono ?_;rintro e w1 ⟨rfl,rfl⟩)
  | (go_at_call 375;refine (HO.out _).mono ?_;rintro e w1 ⟨rfl,rfl⟩)
  | (go_at_call 380;refine (HP.out _).mono ?_;rintro e w1 ⟨rfl,rfl⟩))
 refine aX 14 (fun w'=>w'.cell? ⟨ib,5,none⟩=some (.int .i64 la)) (fun _=>True) aF (by go_simp) trivial (fun hS=>?_)
 refine tB 0 hS (fun hS=>?_)
 simp only [Act.put,Sw]
 refine tB 1 hS (fun hS=>?_)
 simp only [Act.put]
 refine tB 2 hS (fun hS=>?_)
 simp only [Act.put]
 refine tB 3 hS (fun hS=>?_)
 simp only [Act.put]
 refine tB 4 hS (fun hS=>?_)
 simp only [Act.put]
 refine tB 6 hS (fun hS=>?_)
 simp only [Act.put]
 refine tB 7 hS (fun hS=>?_)
 simp only [Act.put]
 refine tB 8 hS (fun hS=>?_)
 simp only [Act.put]
 refine tA 9 hS (fun hS=>?_)
 simp only [Act.put]
 refine tB 10 hS (fun hS=>?_)
 simp only [Act.put]
 refine tB 11 hS (fun hS=>?_)
 simp only [Act.put]
 refine tO 5 (fun K hK=>?_)
 go_simp
 refine (HSP.out _).mono ?_
 rintro e w' ⟨rfl,rfl⟩
 go_simp
 refine hK.out _ _ ⟨fun _=>by (first | assumption | go_simp),trivial⟩ (fun hS=>?_)
 clear hK K
 try simp only [Act.put,Sw]
 refine tB 12 hS (fun hS=>?_)
 simp only [Act.put,Sw]
 refine tB 13 hS (fun hS=>?_)
 simp only [Act.put]
 refine tO 14 (fun K hK=>?_)
 go_simp
 refine hK.out _ _ ⟨fun e=>absurd e aE,trivial⟩ (fun hS=>?_)
 clear hK K
 try simp only [Act.put,Sw]
 refine tB 15 hS (fun hS=>?_)
 simp only [Act.put,Sw]
 refine tB 16 hS (fun hS=>?_)
 simp only [Act.put]
 refine tO 17 (fun K hK=>?_)
 go_simp
 refine hK.out _ _ ⟨fun e=>absurd e aE,trivial⟩ (fun hS=>?_)
 clear hK K
 try simp only [Act.put,Sw]
 refine tB 18 hS (fun hS=>?_)
 simp only [Act.put,Sw]
 refine tB 19 hS (fun hS=>?_)
 simp only [Act.put]
 refine tO 20 (fun K hK=>?_)
 go_simp
 refine hK.out _ _ ⟨fun e=>absurd e aE,trivial⟩ (fun hS=>?_)
 clear hK K
 try simp only [Act.put,Sw]
 refine bC aF ?_ _
 skip
 go_wp2_with fail
 obtain ⟨W,hW⟩:∃ W,W=((((w.setCell ⟨ib,3,none⟩ (.bool true)).setCell ⟨ib,4,none⟩ (.complex .f64 xp yp)).setCell ⟨ib,5,none⟩ (.int .i64 (max la t))).alloc (.cells #[.int .i64 o',.int .i64 p,.int .i64 t] 3)).drew:=⟨_,rfl⟩
 rw [← hW]
 have HK:Hid (aD (fun k=>k=ib) w W):=by rw [hW];exact (((((aD.refl (fun k=>k=ib) w).setC 3 _ (fun _=>rfl)).setC 4 _ (fun _=>rfl)).setC 5 _ (fun _=>rfl)).alloc _).drew
 have HBW:Hid (W.heap[ib]?=some (.cells (((#[.int .i64 ev,.slice (some ⟨sb,0,none⟩) 1 c1,.slice (some ⟨tb,0,none⟩) 1 c2,.bool true,.complex .f64 xl yl,.int .i64 la].setIfInBounds 3 (.bool true)).setIfInBounds 4 (.complex .f64 xp yp)).setIfInBounds 5 (.int .i64 (max la t))) 487 (0,0))):=by
  rw [hW];exact aL (aM (aM (aM HB.out 3 _) 4 _) 5 _) _
 have q0:W.cell? ⟨ib,0,none⟩=some (.int .i64 ev):=aB HBW.out 0
 have q1:W.cell? ⟨ib,1,none⟩=some (.slice (some ⟨sb,0,none⟩) 1 c1):=aB HBW.out 1
 have qs:W.cell? ⟨sb,0,none⟩=some (.complex .f64 xo y0):=HK.out.cell' hs HNE.out.1
 have h5:=H5.out
 have i5:¬ ev≤p:=aA
 have j5:decide (ev≤p)=false:=decide_eq_false i5
 have w1:IntKind.i64.wrap (1 - 1)=0:=aE
 have w2:IntKind.i64.wrap 0=0:=aE
 have w3:IntKind.i64.wrap p=p:=IntWalk.i64_in _ aA
 clear hW e0 e1 e3 e4 e5 f3 f4 f5 hs hlt hlt1 hnn hsl h5
 go_region_held3 (fun w':World=>w'.cell? ⟨ib,0,none⟩=some (.int .i64 ev)∧w'.cell? ⟨ib,1,none⟩=some (.slice (some ⟨sb,0,none⟩) 1 c1)∧w'.cell? ⟨sb,0,none⟩=some (.complex .f64 xo y0)) (go_keep)
  (first | (go_at_call 380;refine (HQ.out _).mono ?_;rintro e w' ⟨rfl,rfl⟩))
 go_wp2_with fail
 go_ret
 refine ⟨rfl,⟨⟨c1,c2,max la t,by rw [HXP.out];exact HBW.out⟩,?_,HNE.out⟩,HK.out.drew⟩
 rw [HXO.out]
 exact qs
theorem iX.keep {w w':World} {ib sb tb:Nat} {ev o lo lp:Int} {S:Nat→Prop} (h:iX w ib sb tb ev o lo lp) (k:aD S w w') (h1:¬ S ib) (h2:¬ S sb):iX w' ib sb tb ev o lo lp:=by
 obtain ⟨⟨c1,c2,la,hb⟩,hs,hn⟩:=h
 exact ⟨⟨c1,c2,la,(k.block ib (aC hb) h1).trans hb⟩,k.cell' hs h2,hn⟩
theorem iX.keep0 {w w':World} {ib sb tb:Nat} {ev o lo lp:Int} (h:iX w ib sb tb ev o lo lp) (k:K0 w w'):iX w' ib sb tb ev o lo lp:=h.keep k (fun e=>e) (fun e=>e)
theorem aG8 {w:World} {ib sb tb:Nat} {ev o lo lp:Int} (h:iX w ib sb tb ev o lo lp):Calls Tryz.prog 372 #[.pointer (some ⟨ib,0,none⟩),.int .i64 1] w fun e w'=>e=.returned (.int .i64 0)∧K0 w w':=by
 obtain ⟨c1,c2,la,hb,hs⟩:=h.cells
 have e1:w.cell? ⟨ib,1,none⟩=some (.slice (some ⟨sb,0,none⟩) 1 c1):=aB hb 1
 have HQ:Hid (∀ wx,Calls Tryz.prog 380 #[.complex .f64 (FloatKind.f64.nearest o) (FloatKind.f64.nearest 0)] wx fun e w'=>e=.returned (.int .i64 0)∧w'=wx):=fun wx=>aE1 o 0 wx aA aA
 clear h hb
 obtain ⟨xo,y0,hxo⟩:∃ x y,zJ o 0=.complex .f64 x y:=⟨_,_,rfl⟩
 have hs':w.cell? ⟨sb,0,none⟩=some (zJ o 0):=hs
 have HQ':Hid (∀ wx,Calls Tryz.prog 380 #[zJ o 0] wx fun e w'=>e=.returned (.int .i64 0)∧w'=wx):=HQ
 clear hs HQ
 rw [hxo] at hs' HQ'
 clear hxo
 have w1:IntKind.i64.wrap (1 - 1)=0:=aE
 go_enter Tryz.func372,Tryz.ntmps372
 go_wp2_with (go_at_call 380;refine (HQ'.out _).mono ?_;rintro e w1 ⟨rfl,rfl⟩)
 go_ret
 exact ⟨rfl,aD.refl _ _⟩
theorem aEk {w:World} {ib sb tb bx nx:Nat} {ev lo lp:Int} (h:iX w ib sb tb ev 0 lo lp) (hx:w.cell? ⟨bx,0,none⟩=some (.pointer (some ⟨ib,0,none⟩))) (hn:w.cell? ⟨nx,0,none⟩=some (.int .i64 0)) :
  Calls Tryz.prog 374 #[.int .i64 0,.pointer (some ⟨bx,0,none⟩),.pointer (some ⟨nx,0,none⟩)] w fun e w'=>e=.returned (.bool false)∧K0 w w':=by
 obtain ⟨c1,c2,la,hb,hs⟩:=h.cells
 have e1:w.cell? ⟨ib,1,none⟩=some (.slice (some ⟨sb,0,none⟩) 1 c1):=aB hb 1
 have HQ:Hid (∀ wx,Calls Tryz.prog 375 #[zJ 0 0] wx fun e w'=>e=.returned (.int .i64 0)∧w'=wx):=fun wx=>sZ 0 0 wx aA aA
 clear h hb
 obtain ⟨xo,y0,hxo⟩:∃ x y,zJ 0 0=.complex .f64 x y:=⟨_,_,rfl⟩
 have hs':w.cell? ⟨sb,0,none⟩=some (zJ 0 0):=hs
 clear hs
 rw [hxo] at hs' HQ
 clear hxo
 go_enter Tryz.func374,Tryz.ntmps374
 go_wp2_with fail
 go_region_held3 (fun w':World=>w'.cell? ⟨bx,0,none⟩=some (.pointer (some ⟨ib,0,none⟩))∧w'.cell? ⟨nx,0,none⟩=some (.int .i64 0)∧w'.cell? ⟨ib,1,none⟩=some (.slice (some ⟨sb,0,none⟩) 1 c1)∧w'.cell? ⟨sb,0,none⟩=some (.complex .f64 xo y0)) (go_keep)
  (first | (go_at_call 375;refine (HQ.out _).mono ?_;rintro e w' ⟨rfl,rfl⟩))
 go_wp2
 go_ret
 exact ⟨rfl,(aD.refl _ _).drew⟩
theorem aKk {w:World} {bx nx:Nat} (hc:Hid (∀ wx,K0 w wx→Calls Tryz.prog 374 #[.int .i64 0,.pointer (some ⟨bx,0,none⟩),.pointer (some ⟨nx,0,none⟩)] wx fun e w'=>e=.returned (.bool false)∧K0 wx w')) :
  Calls Tryz.prog 373 #[.int .i64 1,.func (Fn.func 374) #[] #[.pointer (some ⟨bx,0,none⟩),.pointer (some ⟨nx,0,none⟩)]] w fun e w'=>e=.returned (.int .i64 1)∧K0 w w':=by
 go_enter Tryz.func373,Tryz.ntmps373
 go_wp2
 refine wp_loop_rounds 2 ?_
 rw [rounds_succ]
 go_wp2_with (go_at_call 374;refine (hc.out _ (aD.refl _ _)).mono ?_;rintro e w1 ⟨rfl,k⟩;have HK:=Lib.hid k;clear k)
 rw [rounds_succ]
 go_wp2_with fail
 go_ret
 exact ⟨rfl,HK.out⟩
theorem aHa {w:World} {ib sb tb:Nat} {ev lo lp:Int} (h:iX w ib sb tb ev 0 lo lp):Calls Tryz.prog 334 #[.pointer (some ⟨ib,0,none⟩),.int .i64 0] w fun e w'=>e=.returned (.int .i64 0)∧K0 w w':=by
 obtain ⟨c1,c2,la,hb,hs⟩:=h.cells
 have hib:=aC hb
 have K1:K0 w ((w.alloc (.cells #[.pointer (some ⟨ib,0,none⟩)] 424)).alloc (.cells #[.int .i64 0] 3)):=((aD.refl _ _).alloc _).alloc _
 have HS:Hid (∀ wx,K0 ((w.alloc (.cells #[.pointer (some ⟨ib,0,none⟩)] 424)).alloc (.cells #[.int .i64 0] 3)) wx→Calls Tryz.prog 373 #[.int .i64 1,.func (Fn.func 374) #[] #[.pointer (some ⟨w.heap.size,0,none⟩),.pointer (some ⟨w.heap.size+1,0,none⟩)]] wx fun e w'=>e=.returned (.int .i64 1)∧K0 wx w'):=fun wx k=>
  aKk fun wy ky=>aEk (h.keep0 ((K1.tr k).tr ky)) ((k.tr ky).cell' (aB (aL (aI w _ _ rfl) _) 0) (fun e=>e)) ((k.tr ky).cell' (aB (aI _ _ _ aK) 0) (fun e=>e))
 have HA:Hid (∀ wx,K0 ((w.alloc (.cells #[.pointer (some ⟨ib,0,none⟩)] 424)).alloc (.cells #[.int .i64 0] 3)) wx→Calls Tryz.prog 372 #[.pointer (some ⟨ib,0,none⟩),.int .i64 1] wx fun e w'=>e=.returned (.int .i64 0)∧K0 wx w'):=fun wx k=>aG8 (h.keep0 (K1.tr k))
 have e1:w.cell? ⟨ib,1,none⟩=some (.slice (some ⟨sb,0,none⟩) 1 c1):=aB hb 1
 have HK1:=Lib.hid K1
 have hn1:ib≠w.heap.size:=aA
 have hn2:ib≠w.heap.size+1:=aA
 have hl1:ib<w.heap.size+1:=aA
 clear h hb hs K1
 go_enter Tryz.func334,Tryz.ntmps334
 go_wp2_with fail
 obtain ⟨W,hW⟩:∃ W,W=((w.alloc (.cells #[.pointer (some ⟨ib,0,none⟩)] 424)).alloc (.cells #[.int .i64 0] 3)):=⟨_,rfl⟩
 have q0:W.cell? ⟨w.heap.size,0,none⟩=some (.pointer (some ⟨ib,0,none⟩)):=eY
 have q1:W.cell? ⟨ib,1,none⟩=some (.slice (some ⟨sb,0,none⟩) 1 c1):=aO9
 rw [← hW] at HS HA HK1 ⊢
 clear hW e1
 go_region_held3 (fun w':World=>K0 W w'∧w'.cell? ⟨w.heap.size,0,none⟩=some (.pointer (some ⟨ib,0,none⟩))∧w'.cell? ⟨ib,1,none⟩=some (.slice (some ⟨sb,0,none⟩) 1 c1))
  (first | exact ⟨(aD.refl _ _).drew,by first | assumption | go_simp,by first | assumption | go_simp⟩ | (go_split_ands;exact ⟨K0.tr aG kk,kk.cell' aG (fun e=>e),kk.cell' aG (fun e=>e)⟩))
  (first
   | (go_at_call 373;go_split_ands;refine (HS.out _ aG).mono ?_;rintro e w' ⟨rfl,kk⟩)
   | (go_at_call 372;go_split_ands;refine (HA.out _ (by assumption)).mono ?_;rintro e w' ⟨rfl,kk⟩))
 go_wp2
 go_ret
 go_split_ands
 exact ⟨rfl,K0.tr HK1.out aG⟩
end Go.Proofs.YteapahcklcldkaaGreatDoor
