/-
  The statement is proved: all that it reaches, in parts.
-/
import Derived.Test.YteapahcklcldkaaGreatDoorW13
import Derived.Test.YteapahcklcldkaaGreatDoorW36
set_option maxRecDepth 100000
set_option maxHeartbeats 16000000
namespace Go.Proofs.YteapahcklcldkaaGreatDoor
open Go.RowKit Fx
theorem aO4:bP [0]=⟨#[0]⟩:=by
 apply wB
 rw [eZ]
 rfl
def Rx (w:World) (rb:Nat) (p n:Int):Prop:=w.heap[rb]?=some (.cells #[.string ⟨#[0]⟩,.int .i64 p,.int .i64 n,.int .i64 0] 405 (0,0))
structure RxC (w:World) (rb:Nat) (p n:Int):Prop where
 c0:w.cell? ⟨rb,0,none⟩=some (.string ⟨#[0]⟩)
 c1:w.cell? ⟨rb,1,none⟩=some (.int .i64 p)
 c2:w.cell? ⟨rb,2,none⟩=some (.int .i64 n)
 c3:w.cell? ⟨rb,3,none⟩=some (.int .i64 0)
 f1:w.frozen? ⟨rb,1,none⟩=false
 f2:w.frozen? ⟨rb,2,none⟩=false
 lt:rb<w.heap.size
theorem Rx.all {w:World} {rb:Nat} {p n:Int} (h:Rx w rb p n):RxC w rb p n:=⟨aB h 0,aB h 1,aB h 2,aB h 3,aH h 1,aH h 2,aC h⟩
theorem Rx.keep {w w':World} {rb:Nat} {p n:Int} {S:Nat→Prop} (h:Rx w rb p n) (k:aD S w w') (hS:¬ S rb):Rx w' rb p n:=(k.block _ (aC h) hS).trans h
theorem sC {fn:Func} {p u:Tmp} {ty:TypeId} (h:fn.results=#[.cell p ty,.tmp u]) (tmps:Array Value) (P:Program) (w:World) :
  (results fn tmps).run P w=((asAddr (tmps.getD p undef)).run P w).andThen fun a w₁=>((loadVar ty a).run P w₁).andThen fun v w₂=>.ok (.tuple #[v,tmps.getD u undef]) w₂:=by
 simp only [results,h]
 simp [Sem.run_bind,Result.andThen]
theorem aO3:wrap64 ((((⟨#[0]⟩:ByteArray)[0]'aE).toNat:Nat):Int)=0:=by
 have h:((⟨#[0]⟩:ByteArray)[0]'aE).toNat=0:=rfl
 rw [h]
 exact aWw aE aE
section
variable {w:World} {rb:Nat}
theorem wZ {p n:Int} (h:Rx w rb p n) (e:Int):Calls Tryz.prog 251 #[.pointer (some ⟨rb,0,none⟩),.bool true,.int .i64 e] w fun en w'=>en=.returned (.tuple #[])∧w'=w:=by
 obtain ⟨c0,c1,c2,c3,f1,f2,lt⟩:=h.all
 clear h
 go_enter Tryz.func251,Tryz.ntmps251
 go_wp2
 go_end0
 exact ⟨rfl,rfl⟩
theorem aK2 {n:Int} (h:Rx w rb 0 n):Calls Tryz.prog 322 #[.pointer (some ⟨rb,0,none⟩)] w fun en w'=>en=.returned (.int .i64 0)∧Rx w' rb 1 n∧aD (fun k=>k=rb) w w':=by
 have HW:Hid (∀ wx,K0 w wx→Calls Tryz.prog 251 #[.pointer (some ⟨rb,0,none⟩),.bool true,.int .i64 2] wx fun en w'=>en=.returned (.tuple #[])∧w'=wx):=fun wx k=>wZ (h.keep k (fun e=>e)) 2
 obtain ⟨c0,c1,c2,c3,f1,f2,lt⟩:=h.all
 have HH:=Lib.hid h
 clear h
 go_enter Tryz.func322,Tryz.ntmps322
 go_upto_region 1 with fail
 go_quiet ((go_at_call 251;exact Calls.quiet_of_same (HW.out _ ((aD.refl _ _).drewN _))))
 go_upto_region 5 with fail
 go_quiet (fail)
 all_goals
  go_wp2_with fail
  go_ret
  refine ⟨congrArg (fun x:Int=>Ending.returned (.int .i64 x)) aO3,?_,?_⟩
  ·exact (aM HH.out 1 _:_)
  ·exact (((aD.refl (fun k=>k=rb) w).drewN _).setC 1 _ (fun _=>rfl)).drewN _
theorem aK3 (h:Rx w rb 0 0):Calls Tryz.prog 250 #[.pointer (some ⟨rb,0,none⟩),.int .i64 6] w fun en w'=>en=.returned noF∧Rx w' rb 1 1∧aD (fun k=>k=rb) w w':=by
 have hl:=aC h
 have H1:=Lib.hid (aK2 (h.keep (S:=fun _=>False) ((aD.refl _ w).alloc (.cells #[.int .i64 0,.string ⟨#[]⟩,.string ⟨#[]⟩,.slice none 0 0] 42)) (fun e=>e)))
 clear h
 go_enter Tryz.func250,Tryz.ntmps250
 go_wp2_with fail
 refine H1.out.mono ?_
 rintro e w1 ⟨rfl,h1,k1⟩
 obtain ⟨c0,c1,c2,c3,f1,f2,lt⟩:=h1.all
 have hx:=(k1.block w.heap.size aK (fun e=>by have:w.heap.size=rb:=e;omega)).trans (aI w (.cells #[.int .i64 0,.string ⟨#[]⟩,.string ⟨#[]⟩,.slice none 0 0] 42) _ rfl)
 have x0:w1.cell? ⟨w.heap.size,0,none⟩=some (.int .i64 0):=aB hx 0
 have z0:w1.frozen? ⟨w.heap.size,0,none⟩=false:=aH hx 0
 have xl:=aC hx
 have HH1:=Lib.hid h1
 have HK1:=Lib.hid k1
 have HX:=Lib.hid hx
 clear h1 k1 hx
 go_wp2_with fail
 obtain ⟨W,hW⟩:∃ W,W=(w1.setCell ⟨w.heap.size,0,none⟩ (.int .i64 0)).setCell ⟨rb,2,none⟩ (.int .i64 1):=⟨_,rfl⟩
 rw [← hW]
 have hrb:rb<w.heap.size:=hl
 have HRW:Hid (Rx W rb 1 1):=by
  show Rx W rb 1 1
  rw [hW]
  exact aM (HH1.out.keep (S:=fun k=>k=w.heap.size) ((aD.refl (fun k=>k=w.heap.size) w1).setC 0 _ (fun _=>rfl)) (fun e=>by have:rb=w.heap.size:=e;omega)) 2 _
 have HXW:Hid (W.heap[w.heap.size]?=some (.cells #[.int .i64 0,.string ⟨#[]⟩,.string ⟨#[]⟩,.slice none 0 0] 42 (0,0))):=by
  show _=_
  rw [hW]
  exact ((aD.refl (fun k=>k=rb) (w1.setCell ⟨w.heap.size,0,none⟩ (.int .i64 0))).setC 2 _ (fun _=>rfl) |>.block w.heap.size (by simpa [World.setCell] using xl) (fun e=>by have:w.heap.size=rb:=e;omega)).trans (aM HX.out 0 _)
 have HKW:Hid (aD (fun k=>k=rb) w W):=by
  show aD _ w W
  rw [hW]
  exact ((((aD.refl (fun k=>k=rb) w).alloc _).trans HK1.out (fun _ _ e=>e)).setC 0 _ (fun e=>absurd e (Nat.lt_irrefl _))).setC 2 _ (fun _=>rfl)
 clear hW c0 c1 c2 c3 f1 f2 lt x0 z0 xl HX HH1 HK1
 refine (wZ HRW.out 3).mono ?_
 rintro e w2 ⟨rfl,rfl⟩
 obtain ⟨c0,c1,c2,c3,f1,f2,lt⟩:=HRW.out.all
 have x0:w2.cell? ⟨w.heap.size,0,none⟩=some (.int .i64 0):=aB HXW.out 0
 have x1:w2.cell? ⟨w.heap.size,1,none⟩=some (.string ⟨#[]⟩):=aB HXW.out 1
 have x2:w2.cell? ⟨w.heap.size,2,none⟩=some (.string ⟨#[]⟩):=aB HXW.out 2
 have x3:w2.cell? ⟨w.heap.size,3,none⟩=some (.slice none 0 0):=aB HXW.out 3
 have z0:w2.frozen? ⟨w.heap.size,0,none⟩=false:=aH HXW.out 0
 have z1:w2.frozen? ⟨w.heap.size,1,none⟩=false:=aH HXW.out 1
 have z2:w2.frozen? ⟨w.heap.size,2,none⟩=false:=aH HXW.out 2
 have z3:w2.frozen? ⟨w.heap.size,3,none⟩=false:=aH HXW.out 3
 have xl:=aC HXW.out
 go_wp2_with fail
 refine wp_loop_rounds 1 ?_
 rw [rounds_succ]
 go_wp2_with fail
 refine bodyPost_ret (v:=noF) ?_ rfl ?_
 ·rw [eJ rfl]
  go_simp
 ·refine ⟨rfl,?_,?_⟩
  ·exact HRW.out.keep (S:=fun k=>k=w.heap.size) (by (repeat (with_reducible refine aD.setC ?_ _ _ (fun _=>rfl)));exact aD.refl _ _) (fun e=>by have:rb=w.heap.size:=e;omega)
  ·(repeat (with_reducible refine aD.setC ?_ _ _ (fun e=>absurd e (Nat.lt_irrefl _))))
   exact HKW.out
theorem aIl (w:World):Calls Tryz.prog 177 #[.string ⟨#[0]⟩] w fun e w'=>e=.returned (.tuple #[noF,.int .i64 0])∧K0 w w':=by
 have HCK:Hid (∀ wx,Calls Tryz.prog 160 #[noF] wx fun e w'=>e=.returned (.int .i64 0)∧K0 wx w'):=fun wx=>kD wx
 go_enter Tryz.func177,Tryz.ntmps177
 go_wp2_with fail
 obtain ⟨W,hW⟩:∃ W,W=(w.alloc (.cells #[.int .i64 0,.string ⟨#[]⟩,.string ⟨#[]⟩,.slice none 0 0] 42)).alloc (.cells #[.string ⟨#[0]⟩,.int .i64 0,.int .i64 0,.int .i64 0] 405):=⟨_,rfl⟩
 rw [← hW]
 have hr:Rx W (w.heap.size+1) 0 0:=(by rw [hW];exact aI _ _ _ (by simp))
 have kW:K0 w W:=(by rw [hW];exact ((aD.refl _ _).alloc _).alloc _)
 have hx:W.heap[w.heap.size]?=some (.cells #[.int .i64 0,.string ⟨#[]⟩,.string ⟨#[]⟩,.slice none 0 0] 42 (0,0)):=(by rw [hW];exact aL (aI w _ _ rfl) _)
 refine (aK3 hr).mono ?_
 rintro e w1 ⟨rfl,h1,k1⟩
 have HX1:Hid (w1.heap[w.heap.size]?=some (.cells #[.int .i64 0,.string ⟨#[]⟩,.string ⟨#[]⟩,.slice none 0 0] 42 (0,0))):=(k1.block _ (aC hx) (fun e=>by have:w.heap.size=w.heap.size+1:=e;omega)).trans hx
 have HR1:=Lib.hid h1
 have HK1:Hid (K0 w w1):=kW.trans k1 (fun k hk e=>by omega)
 obtain ⟨c0,c1,c2,c3,f1,f2,lt⟩:=h1.all
 clear hW hr kW hx h1 k1
 go_wp2_with fail
 refine (HCK.out _).mono ?_
 rintro e w2 ⟨rfl,k2⟩
 have hy2:w2.heap[w1.heap.size]?=some (.cells #[.int .i64 0,.string ⟨#[]⟩,.string ⟨#[]⟩,.slice none 0 0] 42 (0,0)):=(k2.block _ aK (fun e=>e)).trans (aI w1 _ _ rfl)
 have k12:K0 w1 w2:=((aD.refl (fun _=>False) w1).alloc _).trans k2 (fun _ _ e=>e)
 have HY2:=Lib.hid hy2
 have HX2:Hid (w2.heap[w.heap.size]?=some (.cells #[.int .i64 0,.string ⟨#[]⟩,.string ⟨#[]⟩,.slice none 0 0] 42 (0,0))):=(k12.block _ (aC HX1.out) (fun e=>e)).trans HX1.out
 have HR2:Hid (Rx w2 (w.heap.size+1) 1 1):=HR1.out.keep k12 (fun e=>e)
 have HK2:Hid (K0 w w2):=K0.tr HK1.out k12
 clear k2 hy2 k12 c0 c1 c2 c3 f1 f2 lt HR1 HX1 HK1
 go_wp2_with fail
 refine (wZ HR2.out 3).mono ?_
 rintro e w3 ⟨rfl,rfl⟩
 obtain ⟨c0,c1,c2,c3,f1,f2,lt⟩:=HR2.out.all
 have y0:w3.cell? ⟨w1.heap.size,0,none⟩=some (.int .i64 0):=aB HY2.out 0
 have y1:w3.cell? ⟨w1.heap.size,1,none⟩=some (.string ⟨#[]⟩):=aB HY2.out 1
 have y2:w3.cell? ⟨w1.heap.size,2,none⟩=some (.string ⟨#[]⟩):=aB HY2.out 2
 have y3:w3.cell? ⟨w1.heap.size,3,none⟩=some (.slice none 0 0):=aB HY2.out 3
 have yl:=aC HY2.out
 have x0:w3.cell? ⟨w.heap.size,0,none⟩=some (.int .i64 0):=aB HX2.out 0
 have x1:w3.cell? ⟨w.heap.size,1,none⟩=some (.string ⟨#[]⟩):=aB HX2.out 1
 have x2:w3.cell? ⟨w.heap.size,2,none⟩=some (.string ⟨#[]⟩):=aB HX2.out 2
 have x3:w3.cell? ⟨w.heap.size,3,none⟩=some (.slice none 0 0):=aB HX2.out 3
 have xl:=aC HX2.out
 have z0:w3.frozen? ⟨w.heap.size,0,none⟩=false:=aH HX2.out 0
 have z1:w3.frozen? ⟨w.heap.size,1,none⟩=false:=aH HX2.out 1
 have z2:w3.frozen? ⟨w.heap.size,2,none⟩=false:=aH HX2.out 2
 have z3:w3.frozen? ⟨w.heap.size,3,none⟩=false:=aH HX2.out 3
 go_wp2_with fail
 refine bodyPost_ret (v:=.tuple #[noF,.int .i64 0]) ?_ rfl ?_
 ·rw [sC rfl]
  go_simp
 ·refine ⟨rfl,?_⟩
  (repeat (with_reducible refine aD.setC ?_ _ _ (fun e=>absurd e (Nat.lt_irrefl _))))
  exact HK2.out
end
section
variable {w:World} {cb nb o:Nat} {s:ByteArray} {p p':Int} {c:Array Value} {ty:TypeId}
theorem aMu (h:eW w cb s p true false) (g:fP s p 60000 (bP [0]) p') (hs:s.size≤1000000000) (hp:p≤s.size) (hb:w.heap[nb]?=some (.cells c ty (0,0))) (g0:c[o]?=some (.int .i64 0)) (g1:c[o+1]?=some (.string ⟨#[]⟩)) (g2:c[o+2]?=some (.string ⟨#[]⟩)) (g3:c[o+3]?=some (.slice none 0 0)) (hne:¬ nb=cb) :
  Calls Tryz.prog 109 #[.pointer (some ⟨cb,0,none⟩),.pointer (some ⟨nb,o,none⟩)] w fun e w'=>e=.returned (.tuple #[])∧eW w' cb s p' true false∧aD (fun k=>k=cb) w w':=by
 rw [aO4] at g
 have hlc:cb<w.heap.size:=aC h
 have hln:nb<w.heap.size:=aC hb
 have KA:K0 w (w.alloc (.cells #[.string ⟨#[]⟩] 9)):=(aD.refl _ _).alloc _
 have HT:Hid (Calls Tryz.prog 105 #[.pointer (some ⟨cb,0,none⟩),.pointer (some ⟨w.heap.size,0,none⟩),.int .i64 60000] (w.alloc (.cells #[.string ⟨#[]⟩] 9)) (RdP (w.alloc (.cells #[.string ⟨#[]⟩] 9)) cb w.heap.size s p' #[.string ⟨#[0]⟩] 9)):=
  uI (ni:=0) (h.keep KA (fun e=>e)) g hs hp (aI w _ _ rfl) rfl aA
 obtain ⟨c0,c1,c2,c3,f0,f1,f3,lt⟩:=(h.keep KA (fun e=>e)).all
 have HB:=Lib.hid hb
 have HQ:=Lib.hid (And.intro g0 (And.intro g1 (And.intro g2 g3)))
 have HNE:=Lib.hid hne
 clear h g hs hp hb hne g0 g1 g2 g3
 go_enter Tryz.func109,Tryz.ntmps109
 go_wp2_with fail
 refine HT.out.mono ?_
 rintro e w1 ⟨rfl,h1,hb1,k1⟩
 have HH1:=Lib.hid h1
 obtain ⟨d0,d1,d2,d3,_,_,_,dl⟩:=h1.all
 have m0:w1.cell? ⟨w.heap.size,0,none⟩=some (.string ⟨#[0]⟩):=aB hb1 0
 have ml:=aC hb1
 have HK1:Hid (aD (fun k=>k=cb) w w1):=((aD.refl _ w).alloc _).trans k1 (fun k hk e=>e.elim (fun h=>h) (fun h=>by omega))
 clear h1 hb1 k1 c0 c1 c2 c3 f0 f1 f3 lt
 go_wp2_with fail
 refine (aIl _).mono ?_
 rintro e w2 ⟨rfl,k2⟩
 have HK2:Hid (aD (fun k=>k=cb) w w2):=HK1.out.trans k2 (fun _ _ e=>e.elim)
 have HH2:Hid (eW w2 cb s p' true false):=HH1.out.keep k2 (fun e=>e)
 clear k2 d0 d1 d2 d3 dl m0 ml
 go_wp2_with fail
 obtain ⟨W,hW⟩:∃ W,W=w2.alloc (.cells #[.int .i64 0,.string ⟨#[]⟩,.string ⟨#[]⟩,.slice none 0 0] 42):=⟨_,rfl⟩
 rw [← hW]
 have kW:K0 w2 W:=(by rw [hW];exact (aD.refl _ _).alloc _)
 have yW:W.heap[w2.heap.size]?=some (.cells #[.int .i64 0,.string ⟨#[]⟩,.string ⟨#[]⟩,.slice none 0 0] 42 (0,0)):=by rw [hW];exact aI w2 _ _ rfl
 refine (jA (HH2.out.keep kW (fun e=>e)) _).mono ?_
 rintro e w4 ⟨rfl,h4,k4⟩
 have hc2:cb<w2.heap.size:=aC HH2.out
 have h4c:eW w4 cb s p' true false:=by simpa using h4
 have HK4:Hid (aD (fun k=>k=cb) w w4):=(HK2.out.trans kW (fun _ _ e=>e.elim)).trans k4 (fun _ _ e=>e)
 have hyb:w4.heap[w2.heap.size]?=some (.cells #[.int .i64 0,.string ⟨#[]⟩,.string ⟨#[]⟩,.slice none 0 0] 42 (0,0)):=(k4.block _ (aC yW) (fun e=>by have:w2.heap.size=cb:=e;omega)).trans yW
 have hb4:w4.heap[nb]?=some (.cells c ty (0,0)):=(HK4.out.block _ hln HNE.out).trans HB.out
 have HB4:=Lib.hid hb4
 have HH4:=Lib.hid h4c
 have y0:w4.cell? ⟨w2.heap.size,0,none⟩=some (.int .i64 0):=aB hyb 0
 have y1:w4.cell? ⟨w2.heap.size,1,none⟩=some (.string ⟨#[]⟩):=aB hyb 1
 have y2:w4.cell? ⟨w2.heap.size,2,none⟩=some (.string ⟨#[]⟩):=aB hyb 2
 have y3:w4.cell? ⟨w2.heap.size,3,none⟩=some (.slice none 0 0):=aB hyb 3
 have yl:=aC hyb
 have nl:=aC hb4
 have n0:w4.cell? ⟨nb,o,none⟩=some (.int .i64 0):=(aB hb4 (o)).trans HQ.out.1
 have z0:w4.frozen? ⟨nb,o,none⟩=false:=aH hb4 (o)
 have n1:w4.cell? ⟨nb,o+1,none⟩=some (.string ⟨#[]⟩):=(aB hb4 (o+1)).trans HQ.out.2.1
 have z1:w4.frozen? ⟨nb,o+1,none⟩=false:=aH hb4 (o+1)
 have n2:w4.cell? ⟨nb,o+2,none⟩=some (.string ⟨#[]⟩):=(aB hb4 (o+2)).trans HQ.out.2.2.1
 have z2:w4.frozen? ⟨nb,o+2,none⟩=false:=aH hb4 (o+2)
 have n3:w4.cell? ⟨nb,o+3,none⟩=some (.slice none 0 0):=(aB hb4 (o+3)).trans HQ.out.2.2.2
 have z3:w4.frozen? ⟨nb,o+3,none⟩=false:=aH hb4 (o+3)
 clear hW kW yW h4 k4 h4c hyb hb4 hc2
 go_wp2_with fail
 first | go_end0 | (refine bodyPost_ret (results_none rfl _ _ _) rfl ?_)
 have hA:∀ (wx:World) (i:Nat) (v:Value),wx.heap[nb]?=some (.cells c ty (0,0))→c[i]?=some v→(wx.setCell ⟨nb,i,none⟩ v).heap[nb]?=some (.cells c ty (0,0)):=fun wx i v h1 h2=>by
  rw [aM h1 i v,aId h2]
 have e0:=hA _ _ _ HB4.out HQ.out.1
 have e1:=hA _ _ _ e0 HQ.out.2.1
 have e2:=hA _ _ _ e1 HQ.out.2.2.1
 have e3:K0 w4 _:=dU (dU (dU (dU (aD.refl (fun _=>False) w4) HB4.out HQ.out.1) e0 HQ.out.2.1) e1 HQ.out.2.2.1) e2 HQ.out.2.2.2
 exact ⟨rfl,HH4.out.keep e3 (fun e=>e),HK4.out.trans e3 (fun _ _ e=>e.elim)⟩
end
section
variable {w:World} {cb nb ni:Nat} {s:ByteArray} {p p' most:Int} {c:Array Value} {ty:TypeId} {f:Value}
theorem aI8 (h:eW w cb s p true false) (g:cA s p 0 p') (hs:s.size≤1000000000) (hp:p≤s.size) (hb:w.heap[nb]?=some (.cells c ty (0,0))) (hi:c[ni]?=some (.slice none 0 0)) (hne:¬ nb=cb) (hm:0≤most) :
  Calls Tryz.prog 110 #[.pointer (some ⟨cb,0,none⟩),.pointer (some ⟨nb,ni,none⟩),.int .i64 most,f] w fun e w'=>e=.returned (.tuple #[])∧eW w' cb s p' true false∧aD (fun k=>k=cb) w w':=by
 have hlc:cb<w.heap.size:=aC h
 have hln:nb<w.heap.size:=aC hb
 have KA:K0 w (w.alloc (.cells #[.int .i64 0] 3)):=(aD.refl _ _).alloc _
 have HT:Hid (Calls Tryz.prog 104 #[.pointer (some ⟨cb,0,none⟩),.pointer (some ⟨w.heap.size,0,none⟩),.int .i64 0,.int .i64 most] (w.alloc (.cells #[.int .i64 0] 3)) (RdP (w.alloc (.cells #[.int .i64 0] 3)) cb w.heap.size s p' #[.int .i64 0] 3)):=
  oJ (ni:=0) (h.keep KA (fun e=>e)) g hs hp (aI w _ _ rfl) rfl aA aA hm
 have n0:w.cell? ⟨nb,ni,none⟩=some (.slice none 0 0):=(aB hb ni).trans hi
 have HB:=Lib.hid hb
 have HI:=Lib.hid hi
 have HNE:=Lib.hid hne
 clear h g hs hp hb hi hne
 go_enter Tryz.func110,Tryz.ntmps110
 go_wp2_with fail
 refine HT.out.mono ?_
 rintro e w1 ⟨rfl,h1,hb1,k1⟩
 have HH1:=Lib.hid h1
 obtain ⟨d0,d1,d2,d3,_,_,_,dl⟩:=h1.all
 have HM1:=Lib.hid hb1
 have HK1:Hid (aD (fun k=>k=cb) w w1):=((aD.refl _ w).alloc _).trans k1 (fun k hk e=>e.elim (fun h=>h) (fun h=>by omega))
 have hbn:w1.heap[nb]?=some (.cells c ty (0,0)):=(HK1.out.block _ hln HNE.out).trans HB.out
 have HBN:=Lib.hid hbn
 have n1:w1.cell? ⟨nb,ni,none⟩=some (.slice none 0 0):=(aB hbn ni).trans HI.out
 have z1:w1.frozen? ⟨nb,ni,none⟩=false:=aH hbn ni
 have nl:=aC hbn
 clear h1 hb1 k1 hbn n0
 go_upto_region 4 with fail
 obtain ⟨W,hW⟩:∃ W,W=w1.setCell ⟨nb,ni,none⟩ (.slice none 0 0):=⟨_,rfl⟩
 rw [← hW]
 have hkk:K0 w1 W:=(by rw [hW];exact dU (aD.refl (fun _=>False) w1) HBN.out HI.out)
 have HKK:=Lib.hid hkk
 have m0:W.cell? ⟨w.heap.size,0,none⟩=some (.int .i64 0):=hkk.cell' (aB HM1.out 0) (fun e=>e)
 have ml:w.heap.size<W.heap.size:=Nat.lt_of_lt_of_le (aC HM1.out) hkk.size
 clear hW hkk d0 d1 d2 d3 dl n1 z1 nl
 go_wp2_with fail
 refine wp_loop_rounds 1 ?_
 rw [rounds_succ]
 go_wp2_with fail
 first | go_end0 | (refine bodyPost_ret (results_none rfl _ _ _) rfl ?_)
 exact ⟨rfl,HH1.out.keep HKK.out (fun e=>e),HK1.out.trans HKK.out (fun _ _ e=>e.elim)⟩
theorem aI7 (h:eW w cb s p true false) (g:cA s p 0 p') (hs:s.size≤1000000000) (hp:p≤s.size) (hb:w.heap[nb]?=some (.cells c ty (0,0))) (hi:c[ni]?=some (.slice none 0 0)) (hne:¬ nb=cb) (hm:0≤most) :
  Calls Tryz.prog 119 #[.pointer (some ⟨cb,0,none⟩),.pointer (some ⟨nb,ni,none⟩),.int .i64 most,f] w fun e w'=>e=.returned (.tuple #[])∧eW w' cb s p' true false∧aD (fun k=>k=cb) w w':=by
 have hlc:cb<w.heap.size:=aC h
 have hln:nb<w.heap.size:=aC hb
 have KA:K0 w (w.alloc (.cells #[.int .i64 0] 3)):=(aD.refl _ _).alloc _
 have HT:Hid (Calls Tryz.prog 104 #[.pointer (some ⟨cb,0,none⟩),.pointer (some ⟨w.heap.size,0,none⟩),.int .i64 0,.int .i64 most] (w.alloc (.cells #[.int .i64 0] 3)) (RdP (w.alloc (.cells #[.int .i64 0] 3)) cb w.heap.size s p' #[.int .i64 0] 3)):=
  oJ (ni:=0) (h.keep KA (fun e=>e)) g hs hp (aI w _ _ rfl) rfl aA aA hm
 have n0:w.cell? ⟨nb,ni,none⟩=some (.slice none 0 0):=(aB hb ni).trans hi
 have HB:=Lib.hid hb
 have HI:=Lib.hid hi
 have HNE:=Lib.hid hne
 clear h g hs hp hb hi hne
 go_enter Tryz.func119,Tryz.ntmps119
 go_wp2_with fail
 refine HT.out.mono ?_
 rintro e w1 ⟨rfl,h1,hb1,k1⟩
 have HH1:=Lib.hid h1
 obtain ⟨d0,d1,d2,d3,_,_,_,dl⟩:=h1.all
 have HM1:=Lib.hid hb1
 have HK1:Hid (aD (fun k=>k=cb) w w1):=((aD.refl _ w).alloc _).trans k1 (fun k hk e=>e.elim (fun h=>h) (fun h=>by omega))
 have hbn:w1.heap[nb]?=some (.cells c ty (0,0)):=(HK1.out.block _ hln HNE.out).trans HB.out
 have HBN:=Lib.hid hbn
 have n1:w1.cell? ⟨nb,ni,none⟩=some (.slice none 0 0):=(aB hbn ni).trans HI.out
 have z1:w1.frozen? ⟨nb,ni,none⟩=false:=aH hbn ni
 have nl:=aC hbn
 clear h1 hb1 k1 hbn n0
 go_upto_region 4 with fail
 obtain ⟨W,hW⟩:∃ W,W=w1.setCell ⟨nb,ni,none⟩ (.slice none 0 0):=⟨_,rfl⟩
 rw [← hW]
 have hkk:K0 w1 W:=(by rw [hW];exact dU (aD.refl (fun _=>False) w1) HBN.out HI.out)
 have HKK:=Lib.hid hkk
 have m0:W.cell? ⟨w.heap.size,0,none⟩=some (.int .i64 0):=hkk.cell' (aB HM1.out 0) (fun e=>e)
 have ml:w.heap.size<W.heap.size:=Nat.lt_of_lt_of_le (aC HM1.out) hkk.size
 clear hW hkk d0 d1 d2 d3 dl n1 z1 nl
 go_wp2_with fail
 refine wp_loop_rounds 1 ?_
 rw [rounds_succ]
 go_wp2_with fail
 first | go_end0 | (refine bodyPost_ret (results_none rfl _ _ _) rfl ?_)
 exact ⟨rfl,HH1.out.keep HKK.out (fun e=>e),HK1.out.trans HKK.out (fun _ _ e=>e.elim)⟩
theorem aI9 (h:eW w cb s p true false) (g:cA s p 0 p') (hs:s.size≤1000000000) (hp:p≤s.size) (hb:w.heap[nb]?=some (.cells c ty (0,0))) (hi:c[ni]?=some (.slice none 0 0)) (hne:¬ nb=cb) (hm:0≤most) :
  Calls Tryz.prog 121 #[.pointer (some ⟨cb,0,none⟩),.pointer (some ⟨nb,ni,none⟩),.int .i64 most,f] w fun e w'=>e=.returned (.tuple #[])∧eW w' cb s p' true false∧aD (fun k=>k=cb) w w':=by
 have hlc:cb<w.heap.size:=aC h
 have hln:nb<w.heap.size:=aC hb
 have KA:K0 w (w.alloc (.cells #[.int .i64 0] 3)):=(aD.refl _ _).alloc _
 have HT:Hid (Calls Tryz.prog 104 #[.pointer (some ⟨cb,0,none⟩),.pointer (some ⟨w.heap.size,0,none⟩),.int .i64 0,.int .i64 most] (w.alloc (.cells #[.int .i64 0] 3)) (RdP (w.alloc (.cells #[.int .i64 0] 3)) cb w.heap.size s p' #[.int .i64 0] 3)):=
  oJ (ni:=0) (h.keep KA (fun e=>e)) g hs hp (aI w _ _ rfl) rfl aA aA hm
 have n0:w.cell? ⟨nb,ni,none⟩=some (.slice none 0 0):=(aB hb ni).trans hi
 have HB:=Lib.hid hb
 have HI:=Lib.hid hi
 have HNE:=Lib.hid hne
 clear h g hs hp hb hi hne
 go_enter Tryz.func121,Tryz.ntmps121
 go_wp2_with fail
 refine HT.out.mono ?_
 rintro e w1 ⟨rfl,h1,hb1,k1⟩
 have HH1:=Lib.hid h1
 obtain ⟨d0,d1,d2,d3,_,_,_,dl⟩:=h1.all
 have HM1:=Lib.hid hb1
 have HK1:Hid (aD (fun k=>k=cb) w w1):=((aD.refl _ w).alloc _).trans k1 (fun k hk e=>e.elim (fun h=>h) (fun h=>by omega))
 have hbn:w1.heap[nb]?=some (.cells c ty (0,0)):=(HK1.out.block _ hln HNE.out).trans HB.out
 have HBN:=Lib.hid hbn
 have n1:w1.cell? ⟨nb,ni,none⟩=some (.slice none 0 0):=(aB hbn ni).trans HI.out
 have z1:w1.frozen? ⟨nb,ni,none⟩=false:=aH hbn ni
 have nl:=aC hbn
 clear h1 hb1 k1 hbn n0
 go_upto_region 4 with fail
 obtain ⟨W,hW⟩:∃ W,W=w1.setCell ⟨nb,ni,none⟩ (.slice none 0 0):=⟨_,rfl⟩
 rw [← hW]
 have hkk:K0 w1 W:=(by rw [hW];exact dU (aD.refl (fun _=>False) w1) HBN.out HI.out)
 have HKK:=Lib.hid hkk
 have m0:W.cell? ⟨w.heap.size,0,none⟩=some (.int .i64 0):=hkk.cell' (aB HM1.out 0) (fun e=>e)
 have ml:w.heap.size<W.heap.size:=Nat.lt_of_lt_of_le (aC HM1.out) hkk.size
 clear hW hkk d0 d1 d2 d3 dl n1 z1 nl
 go_wp2_with fail
 refine wp_loop_rounds 1 ?_
 rw [rounds_succ]
 go_wp2_with fail
 first | go_end0 | (refine bodyPost_ret (results_none rfl _ _ _) rfl ?_)
 exact ⟨rfl,HH1.out.keep HKK.out (fun e=>e),HK1.out.trans HKK.out (fun _ _ e=>e.elim)⟩
theorem aGg (h:eW w cb s p true false) (g:cA s p 0 p') (hs:s.size≤1000000000) (hp:p≤s.size) (hb:w.heap[nb]?=some (.cells c ty (0,0))) (hi:c[ni]?=some (.slice none 0 0)) (hne:¬ nb=cb) (hm:0≤most) :
  Calls Tryz.prog 123 #[.pointer (some ⟨cb,0,none⟩),.pointer (some ⟨nb,ni,none⟩),.int .i64 most,f] w fun e w'=>e=.returned (.tuple #[])∧eW w' cb s p' true false∧aD (fun k=>k=cb) w w':=by
 have hlc:cb<w.heap.size:=aC h
 have hln:nb<w.heap.size:=aC hb
 have KA:K0 w (w.alloc (.cells #[.int .i64 0] 3)):=(aD.refl _ _).alloc _
 have HT:Hid (Calls Tryz.prog 104 #[.pointer (some ⟨cb,0,none⟩),.pointer (some ⟨w.heap.size,0,none⟩),.int .i64 0,.int .i64 most] (w.alloc (.cells #[.int .i64 0] 3)) (RdP (w.alloc (.cells #[.int .i64 0] 3)) cb w.heap.size s p' #[.int .i64 0] 3)):=
  oJ (ni:=0) (h.keep KA (fun e=>e)) g hs hp (aI w _ _ rfl) rfl aA aA hm
 have n0:w.cell? ⟨nb,ni,none⟩=some (.slice none 0 0):=(aB hb ni).trans hi
 have HB:=Lib.hid hb
 have HI:=Lib.hid hi
 have HNE:=Lib.hid hne
 clear h g hs hp hb hi hne
 go_enter Tryz.func123,Tryz.ntmps123
 go_wp2_with fail
 refine HT.out.mono ?_
 rintro e w1 ⟨rfl,h1,hb1,k1⟩
 have HH1:=Lib.hid h1
 obtain ⟨d0,d1,d2,d3,_,_,_,dl⟩:=h1.all
 have HM1:=Lib.hid hb1
 have HK1:Hid (aD (fun k=>k=cb) w w1):=((aD.refl _ w).alloc _).trans k1 (fun k hk e=>e.elim (fun h=>h) (fun h=>by omega))
 have hbn:w1.heap[nb]?=some (.cells c ty (0,0)):=(HK1.out.block _ hln HNE.out).trans HB.out
 have HBN:=Lib.hid hbn
 have n1:w1.cell? ⟨nb,ni,none⟩=some (.slice none 0 0):=(aB hbn ni).trans HI.out
 have z1:w1.frozen? ⟨nb,ni,none⟩=false:=aH hbn ni
 have nl:=aC hbn
 clear h1 hb1 k1 hbn n0
 go_upto_region 4 with fail
 obtain ⟨W,hW⟩:∃ W,W=w1.setCell ⟨nb,ni,none⟩ (.slice none 0 0):=⟨_,rfl⟩
 rw [← hW]
 have hkk:K0 w1 W:=(by rw [hW];exact dU (aD.refl (fun _=>False) w1) HBN.out HI.out)
 have HKK:=Lib.hid hkk
 have m0:W.cell? ⟨w.heap.size,0,none⟩=some (.int .i64 0):=hkk.cell' (aB HM1.out 0) (fun e=>e)
 have ml:w.heap.size<W.heap.size:=Nat.lt_of_lt_of_le (aC HM1.out) hkk.size
 clear hW hkk d0 d1 d2 d3 dl n1 z1 nl
 go_wp2_with fail
 refine wp_loop_rounds 1 ?_
 rw [rounds_succ]
 go_wp2_with fail
 first | go_end0 | (refine bodyPost_ret (results_none rfl _ _ _) rfl ?_)
 exact ⟨rfl,HH1.out.keep HKK.out (fun e=>e),HK1.out.trans HKK.out (fun _ _ e=>e.elim)⟩
end
section
variable {w:World} {cb nb ni:Nat} {s:ByteArray} {p p' most:Int} {c:Array Value} {ty:TypeId}
theorem aTh {b:aR} {bx:Nat} {p2:Int} (hbx:w.cell? ⟨bx,0,none⟩=some (.pointer (some ⟨cb,0,none⟩))) (h:eW (w.alloc (.cells #[.int .i64 0,.int .i64 0,.int .i64 0,.int .i64 0,.int .i64 0,.slice none 0 0] 39)) cb s p true false) (g:fP s p 60008 (aZ b) p2) (ho:dH b) (hpl:∀ k (h:k<b.recs.length),bT b.recs[k])
  (hst:bF (w.alloc (.cells #[.int .i64 0,.int .i64 0,.int .i64 0,.int .i64 0,.int .i64 0,.slice none 0 0] 39))) (hs:s.size≤1000000000) (hp:p≤s.size) (hne:¬ w.heap.size=cb) (h0:0≠cb) :
  Calls Tryz.prog 120 #[.pointer (some ⟨w.heap.size,0,none⟩),.pointer (some ⟨bx,0,none⟩)] (w.alloc (.cells #[.int .i64 0,.int .i64 0,.int .i64 0,.int .i64 0,.int .i64 0,.slice none 0 0] 39)) (RdB (w.alloc (.cells #[.int .i64 0,.int .i64 0,.int .i64 0,.int .i64 0,.int .i64 0,.slice none 0 0] 39)) cb w.heap.size 0 s p2 #[.int .i64 0,.int .i64 0,.int .i64 0,.int .i64 0,.int .i64 0,.slice none 0 0] 39 b):=by
 have HC:=Lib.hid (aGc (nb:=w.heap.size) (o:=0) (opt:=false) h g ho hpl hst hs hp (aI w _ _ rfl) aE hne h0)
 obtain ⟨W,hW⟩:∃ W,W=w.alloc (.cells #[.int .i64 0,.int .i64 0,.int .i64 0,.int .i64 0,.int .i64 0,.slice none 0 0] 39):=⟨_,rfl⟩
 have c0:W.cell? ⟨bx,0,none⟩=some (.pointer (some ⟨cb,0,none⟩)):=by rw [hW];exact ((aD.refl (fun _=>False) w).alloc _).cell' hbx (fun e=>e)
 have cl:=World.block_lt_of_cell? W _ c0
 rw [← hW] at HC ⊢
 clear h g ho hpl hst hs hp hbx hW
 go_enter Tryz.func120,Tryz.ntmps120
 go_wp2_with fail
 refine HC.out.mono ?_
 rintro e w2 ⟨a,cap,rfl,h1,h2,h3,h4⟩
 have HF:Hid (RdB W cb w.heap.size 0 s p2 #[.int .i64 0,.int .i64 0,.int .i64 0,.int .i64 0,.int .i64 0,.slice none 0 0] 39 b (.returned (.tuple #[])) w2):=⟨a,cap,rfl,h1,h2,h3,h4⟩
 clear h1 h2 h3 h4
 go_wp2_with fail
 go_end0
 exact HF.out
theorem aP1 {b:aR} {bx:Nat} {p2:Int} (h:eW w cb s p true false) (g:cA s p 1 p') (g2:fP s p' 60008 (aZ b) p2) (hp2:p'≤s.size) (ho:dH b) (hpl:∀ k (h:k<b.recs.length),bT b.recs[k]) (hst:bF w) (h0:0≠cb∧0≠nb) (hbx:w.cell? ⟨bx,0,none⟩=some (.pointer (some ⟨cb,0,none⟩))) (hbn:¬ bx=cb∧¬ bx=nb) (hs:s.size≤1000000000) (hp:p≤s.size) (hb:w.heap[nb]?=some (.cells c ty (0,0))) (hi:c[ni]?=some (.slice none 0 0)) (hne:¬ nb=cb) (hm:1≤most) :
  Calls Tryz.prog 119 #[.pointer (some ⟨cb,0,none⟩),.pointer (some ⟨nb,ni,none⟩),.int .i64 most,.func (Fn.func 120) #[] #[.pointer (some ⟨bx,0,none⟩)]] w fun e w'=>∃ g cp,e=.returned (.tuple #[])∧eW w' cb s p2 true false∧w'.heap[nb]?=some (.cells (c.setIfInBounds ni (.slice (some ⟨g,0,none⟩) 1 cp)) ty (0,0))∧aD (fun k=>k=cb∨k=nb) w w':=by
 have hlc:cb<w.heap.size:=aC h
 have hln:nb<w.heap.size:=aC hb
 have KA:K0 w (w.alloc (.cells #[.int .i64 0] 3)):=(aD.refl _ _).alloc _
 have HT:Hid (Calls Tryz.prog 104 #[.pointer (some ⟨cb,0,none⟩),.pointer (some ⟨w.heap.size,0,none⟩),.int .i64 0,.int .i64 most] (w.alloc (.cells #[.int .i64 0] 3)) (RdP (w.alloc (.cells #[.int .i64 0] 3)) cb w.heap.size s p' #[.int .i64 1] 3)):=
  oJ (ni:=0) (h.keep KA (fun e=>e)) g hs hp (aI w _ _ rfl) rfl aA aA aA
 have n0:w.cell? ⟨nb,ni,none⟩=some (.slice none 0 0):=(aB hb ni).trans hi
 have HB:=Lib.hid hb
 have HI:=Lib.hid hi
 have HNE:=Lib.hid hne
 have G2:=Lib.hid g2
 have HO:=Lib.hid ho
 have HPL:=Lib.hid hpl
 have HST:=Lib.hid hst
 have H0:=Lib.hid h0
 have HBX:=Lib.hid hbx
 have HBXN:=Lib.hid hbn
 have HSZ:=Lib.hid hs
 have HP2:=Lib.hid hp2
 clear h g hs hp hb hi hne g2 hp2 ho hpl hst h0 hbx hbn
 go_enter Tryz.func119,Tryz.ntmps119
 go_wp2_with fail
 refine HT.out.mono ?_
 rintro e w1 ⟨rfl,h1,hb1,k1⟩
 have HH1:=Lib.hid h1
 obtain ⟨d0,d1,d2,d3,_,_,_,dl⟩:=h1.all
 have HM1:=Lib.hid hb1
 have HK1:Hid (aD (fun k=>k=cb) w w1):=((aD.refl _ w).alloc _).trans k1 (fun k hk e=>e.elim (fun h=>h) (fun h=>by omega))
 have hbn:w1.heap[nb]?=some (.cells c ty (0,0)):=(HK1.out.block _ hln HNE.out).trans HB.out
 have HBN:=Lib.hid hbn
 have n1:w1.cell? ⟨nb,ni,none⟩=some (.slice none 0 0):=(aB hbn ni).trans HI.out
 have z1:w1.frozen? ⟨nb,ni,none⟩=false:=aH hbn ni
 have nl:=aC hbn
 clear h1 hb1 k1 hbn n0
 go_upto_region 4 with fail
 obtain ⟨W,hW⟩:∃ W,W=w1.setCell ⟨nb,ni,none⟩ (.slice none 0 0):=⟨_,rfl⟩
 rw [← hW]
 have hkk:K0 w1 W:=(by rw [hW];exact dU (aD.refl (fun _=>False) w1) HBN.out HI.out)
 have HKK:=Lib.hid hkk
 have hcW:eW W cb s p' true false:=HH1.out.keep hkk (fun e=>e)
 have hkW:aD (fun k=>k=cb) w W:=HK1.out.trans hkk (fun _ _ e=>e.elim)
 have HKW:=Lib.hid hkW
 have hbW:W.heap[nb]?=some (.cells c ty (0,0)):=(hkk.block _ nl (fun e=>e)).trans HBN.out
 have HBW:=Lib.hid hbW
 have HCW:=Lib.hid hcW
 have hmW:W.heap[w.heap.size]?=some (.cells #[.int .i64 1] 3 (0,0)):=(hkk.block _ (aC HM1.out) (fun e=>e)).trans HM1.out
 have HMW:=Lib.hid hmW
 have HRP:Hid (Calls Tryz.prog 120 #[.pointer (some ⟨W.heap.size,0,none⟩),.pointer (some ⟨bx,0,none⟩)] (W.alloc (.cells #[.int .i64 0,.int .i64 0,.int .i64 0,.int .i64 0,.int .i64 0,.slice none 0 0] 39)) (RdB (W.alloc (.cells #[.int .i64 0,.int .i64 0,.int .i64 0,.int .i64 0,.int .i64 0,.slice none 0 0] 39)) cb W.heap.size 0 s p2 #[.int .i64 0,.int .i64 0,.int .i64 0,.int .i64 0,.int .i64 0,.slice none 0 0] 39 b)):=
  aTh (hkW.cell' HBX.out HBXN.out.1) (hcW.keep ((aD.refl (fun _=>False) W).alloc _) (fun e=>e)) G2.out HO.out HPL.out ((HST.out.keep hkW H0.out.1).keep0 ((aD.refl (fun _=>False) W).alloc _)) HSZ.out HP2.out (by have:=hkW.size;omega) H0.out.1
 obtain ⟨d0,d1,d2,d3,_,_,_,dl⟩:=hcW.all
 have m0:W.cell? ⟨w.heap.size,0,none⟩=some (.int .i64 1):=aB hmW 0
 have ml:w.heap.size<W.heap.size:=aC hmW
 clear hW hkk n1 z1 nl hcW hkW hbW hmW
 go_wp2_with fail
 refine wp_loop_rounds 2 ?_
 rw [rounds_succ]
 go_wp2_with fail
 refine HRP.out.mono ?_
 rintro e w4 ⟨a,cap,rfl,h4,hx4,k4,_⟩
 have hx4':w4.heap[W.heap.size]?=some (.cells #[.int .i64 b.base,.int .i64 b.span,.int .i64 b.prod,.int .i64 b.epoch,.int .i64 b.seq,.slice a b.recs.length cap] 39 (0,0)):=hx4
 have hk4:aD (fun k=>k=cb) W w4:=((aD.refl _ W).alloc _).trans k4 (fun k hk e=>e.elim (fun h=>h) (fun h=>by omega))
 have HKK4:=Lib.hid hk4
 have hb4:w4.heap[nb]?=some (.cells c ty (0,0)):=(hk4.block _ (aC HBW.out) HNE.out).trans HBW.out
 have HB4:=Lib.hid hb4
 have HM4:Hid (w4.heap[w.heap.size]?=some (.cells #[.int .i64 1] 3 (0,0))):=(hk4.block _ (aC HMW.out) (fun e=>by have:w.heap.size=cb:=e;omega)).trans HMW.out
 have HC4:=Lib.hid h4
 have nn:w4.cell? ⟨nb,ni,none⟩=some (.slice none 0 0):=(aB hb4 ni).trans HI.out
 have x0:w4.cell? ⟨W.heap.size,0,none⟩=some (.int .i64 b.base):=aB hx4' 0
 have x1:w4.cell? ⟨W.heap.size,1,none⟩=some (.int .i64 b.span):=aB hx4' 1
 have x2:w4.cell? ⟨W.heap.size,2,none⟩=some (.int .i64 b.prod):=aB hx4' 2
 have x3:w4.cell? ⟨W.heap.size,3,none⟩=some (.int .i64 b.epoch):=aB hx4' 3
 have x4:w4.cell? ⟨W.heap.size,4,none⟩=some (.int .i64 b.seq):=aB hx4' 4
 have x5:w4.cell? ⟨W.heap.size,5,none⟩=some (.slice a b.recs.length cap):=aB hx4' 5
 have xl:=aC hx4'
 have nl4:=aC hb4
 obtain ⟨x,hx⟩:∃ x,x=W.heap.size:=⟨_,rfl⟩
 rw [← hx] at x0 x1 x2 x3 x4 x5 xl ⊢
 have HX:=Lib.hid hx
 clear hx hx4 hx4' k4 hk4 hb4 h4 d0 d1 d2 d3 dl m0 ml
 go_upto_region 10 with fail
 refine aX 6 (fun w'=>w'.cell? ⟨nb,ni,none⟩=some (.slice none 0 0)∧w'.cell? ⟨x,0,none⟩=some (.int .i64 b.base)∧w'.cell? ⟨x,1,none⟩=some (.int .i64 b.span)∧w'.cell? ⟨x,2,none⟩=some (.int .i64 b.prod)∧w'.cell? ⟨x,3,none⟩=some (.int .i64 b.epoch)∧w'.cell? ⟨x,4,none⟩=some (.int .i64 b.seq)∧w'.cell? ⟨x,5,none⟩=some (.slice a b.recs.length cap)) (fun _=>True) aF ⟨by go_simp,by go_simp,by go_simp,by go_simp,by go_simp,by go_simp,by go_simp⟩ trivial (fun hS=>?_)
 refine tB 0 hS (fun hS=>?_)
 simp only [Act.put,Sw]
 refine tB 1 hS (fun hS=>?_)
 simp only [Act.put]
 refine tB 2 hS (fun hS=>?_)
 simp only [Act.put]
 refine tA 3 hS (fun hS=>?_)
 simp only [Act.put]
 refine tA 4 hS (fun hS=>?_)
 simp only [Act.put]
 refine tO 5 (fun K hK=>?_)
 go_simp
 refine hK.out _ _ ⟨fun _=>⟨by (first | assumption | go_simp),by (first | assumption | go_simp),by (first | assumption | go_simp),by (first | assumption | go_simp),by (first | assumption | go_simp),by (first | assumption | go_simp),by (first | assumption | go_simp)⟩,trivial⟩ (fun hS=>?_)
 clear hK K
 try simp only [Act.put,Sw]
 refine tO 6 (fun K hK=>?_)
 refine aDj rfl rfl Tryz.underlying30 uR rfl aE rfl (World.ownsRow_nil _ 0 _ _) rfl (fA _ _ _ rfl) rfl aBx ⟨by decide,by decide⟩ (Nat.zero_le _) ?_
 intro g cp w5 hA
 have HA:=Lib.hid hA
 have hn5:w5.heap[nb]?=some (.cells c ty (0,0)):=hA.far (aL (show w4.drew.heap[nb]?=_ from HB4.out) _) (fun e=>by cases e)
 have n5:w5.cell? ⟨nb,ni,none⟩=some (.slice none 0 0):=(aB hn5 ni).trans HI.out
 have z5:w5.frozen? ⟨nb,ni,none⟩=false:=aH hn5 ni
 have l5:nb<w5.heap.size:=aC hn5
 have HN5:=Lib.hid hn5
 have hk5:K0 w4 w5:=by
  first
  | exact (((aD.refl (fun _=>False) w4).alloc _).drew).grown hA.grown (fun j e _=>by cases e)
  | exact (((aD.refl (fun _=>False) w4).drew).alloc _).grown hA.grown (fun j e _=>by cases e)
 have HK5:=Lib.hid hk5
 clear hA hn5 hk5
 refine hK.out _ _ ⟨fun e=>absurd e aE,trivial⟩ (fun hS=>?_)
 clear hK K
 try simp only [Act.put,Sw]
 refine tB 7 hS (fun hS=>?_)
 simp only [Act.put]
 refine tO 8 (fun K hK=>?_)
 go_simp
 refine hK.out _ _ ⟨fun e=>absurd e aE,trivial⟩ (fun hS=>?_)
 clear hK K
 try simp only [Act.put,Sw]
 refine bC aF ?_ _
 skip
 obtain ⟨w6,hw6⟩:∃ w6,w6=w5.setCell ⟨nb,ni,none⟩ (.slice (some ⟨g,0,none⟩) (0+1) cp):=⟨_,rfl⟩
 rw [← hw6]
 have K4N:=Lib.hid (show aD (fun k=>k=cb∨k=nb) w w4 from ((aD.refl _ w).trans HKW.out (fun _ _ e=>Or.inl e)).trans HKK4.out (fun _ _ e=>Or.inl e))
 have K6:aD (fun k=>k=nb) w4 w6:=by
  rw [hw6]
  exact (HK5.out.mono (fun _ _ e=>e.elim)).setC _ _ (fun _=>rfl)
 have B6:w6.heap[nb]?=some (.cells (c.setIfInBounds ni (.slice (some ⟨g,0,none⟩) 1 cp)) ty (0,0)):=by
  rw [hw6]
  exact aM HN5.out ni _
 have H6:Hid (eW w6 cb s p2 true false):=HC4.out.keep K6 (fun e=>HNE.out e.symm)
 have K6N:Hid (aD (fun k=>k=cb∨k=nb) w w6):=K4N.out.trans K6 (fun _ _ e=>Or.inr e)
 have m6:w6.heap[w.heap.size]?=some (.cells #[.int .i64 1] 3 (0,0)):=(K6.block _ (aC HM4.out) (fun e=>by have:w.heap.size=nb:=e;omega)).trans HM4.out
 have m0:w6.cell? ⟨w.heap.size,0,none⟩=some (.int .i64 1):=aB m6 0
 have ml:w.heap.size<w6.heap.size:=aC m6
 obtain ⟨d0,d1,d2,d3,_,_,_,dl⟩:=H6.out.all
 have HB6:=Lib.hid B6
 clear K6 B6 m6 hw6
 go_wp2_with fail
 rw [rounds_succ]
 go_wp2_with fail
 go_end0
 exact ⟨g,cp,rfl,H6.out,HB6.out,K6N.out⟩
end
def jT (k:Int) (nm:ByteArray) (ix ct fr:Int) (fl:Bool) (b0 b1 b2 b3 b4:Int) (bs:Value) (gr:ByteArray) (mb gn:Int):Array Value:=
 #[.int .i64 k,.string nm,.int .i64 ix,.int .i64 ct,.int .i64 fr,.bool fl,.int .i64 b0,.int .i64 b1,.int .i64 b2,.int .i64 b3,.int .i64 b4,bs,.int .i64 0,.string ⟨#[]⟩,.string ⟨#[]⟩,.slice none 0 0,.string gr,.int .i64 mb,.int .i64 gn,.slice none 0 0]
structure pT (w0:World) (cb bx nb:Nat) (s:ByteArray) (p:Int) (c:Array Value) (w:World):Prop where
 cod:eW w cb s p true false
 blk:w.heap[nb]?=some (.cells c 45 (0,0))
 box:w.cell? ⟨bx,0,none⟩=some (.pointer (some ⟨cb,0,none⟩))
 nbx:¬ bx=cb∧¬ bx=nb
 qn:¬ nb=cb
 st:bF w
 c0:0≠cb∧0≠nb
 keep:aD (fun k=>k=cb∨k=nb) w0 w
def BX (w0:World) (cb nb:Nat) (w:World) (b:aR) (a:Option Addr) (cap:Nat):Prop:=
 (b=⟨0,0,0,0,0,[]⟩∧a=none∧cap=0)∨∃ N,w0.heap.size≤N∧cb<N∧nb<N∧dN (fun k=>N≤k) w b a cap
theorem BX.keep {w0 w w':World} {cb nb:Nat} {b:aR} {a:Option Addr} {cap:Nat} (h:BX w0 cb nb w b a cap) (k:aD (fun k=>k=cb∨k=nb) w w'):BX w0 cb nb w' b a cap:=by
 rcases h with h | ⟨N,h1,h2,h3,h4⟩
 ·exact .inl h
 ·exact .inr ⟨N,h1,h2,h3,h4.keep k (fun j hj e=>by have:N≤j:=hj;omega) (fun _ e=>e)⟩
section
variable {w0 w w':World} {cb bx nb:Nat} {s:ByteArray} {p p':Int} {c c':Array Value} {k ix ct fr mb gn:Int} {nm gr:ByteArray} {fl:Bool} {b:aR} {a:Option Addr} {cap:Nat}
theorem pT.step (h:pT w0 cb bx nb s p c w) (hc:eW w' cb s p' true false) (hb:w'.heap[nb]?=some (.cells c' 45 (0,0))) (kk:aD (fun k=>k=cb∨k=nb) w w'):pT w0 cb bx nb s p' c' w':=
 ⟨hc,hb,kk.cell' h.box (fun e=>e.elim h.nbx.1 h.nbx.2),h.nbx,h.qn,h.st.keep kk (fun e=>e.elim h.c0.1 h.c0.2),h.c0,h.keep.trans kk (fun _ _ e=>e)⟩
theorem pT.k0 (h:pT w0 cb bx nb s p c w) (kk:K0 w w'):pT w0 cb bx nb s p c w':=
 h.step (h.cod.keep kk (fun e=>e)) ((kk.block _ (aC h.blk) (fun e=>e)).trans h.blk) (kk.mono (fun _ _ e=>e.elim))
theorem pT.kind (h:pT w0 cb bx nb s p (jT 0 ⟨#[]⟩ 0 0 0 false 0 0 0 0 0 (.slice none 0 0) ⟨#[]⟩ 0 0) w) (g:cA s p k p') (hs:s.size≤1000000000) (hp:p≤s.size) (hk:1≤k∧k≤14):Calls Tryz.prog 104 #[.pointer (some ⟨cb,0,none⟩),.pointer (some ⟨nb,0,none⟩),.int .i64 1,.int .i64 14] w
  (fun e w'=>e=.returned (.tuple #[])∧pT w0 cb bx nb s p' (jT k ⟨#[]⟩ 0 0 0 false 0 0 0 0 0 (.slice none 0 0) ⟨#[]⟩ 0 0) w'∧aD (fun k=>k=cb∨k=nb) w w'):=
 (oJ (ni:=0) h.cod g hs hp h.blk rfl h.qn hk.1 hk.2).mono (by rintro e w' ⟨rfl,c,b,k⟩;exact ⟨rfl,h.step c b k,k⟩)
theorem pT.name (h:pT w0 cb bx nb s p (jT k ⟨#[]⟩ 0 0 0 false 0 0 0 0 0 (.slice none 0 0) ⟨#[]⟩ 0 0) w) (g:fP s p 100 nm p') (hs:s.size≤1000000000) (hp:p≤s.size):Calls Tryz.prog 105 #[.pointer (some ⟨cb,0,none⟩),.pointer (some ⟨nb,1,none⟩),.int .i64 100] w
  (fun e w'=>e=.returned (.tuple #[])∧pT w0 cb bx nb s p' (jT k nm 0 0 0 false 0 0 0 0 0 (.slice none 0 0) ⟨#[]⟩ 0 0) w'∧aD (fun k=>k=cb∨k=nb) w w'):=
 (uI (ni:=1) h.cod g hs hp h.blk rfl h.qn).mono (by rintro e w' ⟨rfl,c,b,k⟩;exact ⟨rfl,h.step c b k,k⟩)
theorem pT.plainF {pos:Nat→Int} (h:pT w0 cb bx nb s (pos 0) (jT k nm 0 0 0 false 0 0 0 0 0 (.slice none 0 0) ⟨#[]⟩ 0 0) w) (c:TypeId) (m:Nat) (g0:cA s (pos 0) ix (pos 1)) (g1:cA s (pos 1) ct (pos 2)) (g2:cA s (pos 2) fr (pos 3)) (hs:s.size≤1000000000) (hp:∀ k,k<3→pos k≤s.size) (h0:-1≤ix∧ix≤2199023255552) (h1:-1≤ct∧ct≤2199023255552) (h2:-1≤fr∧fr≤2199023255552) :
  Calls Tryz.prog 106 #[.pointer (some ⟨cb,0,none⟩),.slice (some ⟨w.heap.size,0,none⟩) 3 m] (w.alloc (.cells #[.pointer (some ⟨nb,2,none⟩),.pointer (some ⟨nb,3,none⟩),.pointer (some ⟨nb,4,none⟩)] c))
  (fun e w'=>e=.returned (.tuple #[])∧pT w0 cb bx nb s (pos 3) (jT k nm ix ct fr false 0 0 0 0 0 (.slice none 0 0) ⟨#[]⟩ 0 0) w'∧aD (fun k=>k=cb∨k=nb) w w'):=by
 have k0:K0 w (w.alloc (.cells #[.pointer (some ⟨nb,2,none⟩),.pointer (some ⟨nb,3,none⟩),.pointer (some ⟨nb,4,none⟩)] c)):=(aD.refl _ _).alloc _
 have q:=h.k0 k0
 have l1:=aC h.cod
 have l2:=aC h.blk
 refine (aAi (l:=[(2,ix),(3,ct),(4,fr)]) (pos:=pos) q.cod ⟨⟨_,c,aI w _ _ rfl,fun i hi=>?_⟩⟩ ⟨by omega,by omega⟩ (fun i hi=>?_) hs hp q.blk (fun i hi=>?_) h.qn (by show 3≤1000;omega)).mono (by rintro e w' ⟨rfl,c,b,k⟩;exact ⟨rfl,q.step c b k,((aD.refl _ _).trans k0 (fun _ _ e=>e.elim)).trans k (fun _ _ e=>e)⟩)
 ·match i,hi with
  | 0,_=>rfl
  | 1,_=>rfl
  | 2,_=>rfl
 ·match i,hi with
  | 0,_=>exact g0
  | 1,_=>exact g1
  | 2,_=>exact g2
 ·match i,hi with
  | 0,_=>exact ⟨by show 2<20;omega,h0.1,h0.2⟩
  | 1,_=>exact ⟨by show 3<20;omega,h1.1,h1.2⟩
  | 2,_=>exact ⟨by show 4<20;omega,h2.1,h2.2⟩
theorem pT.flag (h:pT w0 cb bx nb s p (jT k nm ix ct fr false 0 0 0 0 0 (.slice none 0 0) ⟨#[]⟩ 0 0) w) (g:cA s p (kR fl) p') (hs:s.size≤1000000000) (hp:p≤s.size):Calls Tryz.prog 107 #[.pointer (some ⟨cb,0,none⟩),.pointer (some ⟨nb,5,none⟩)] w
  (fun e w'=>e=.returned (.tuple #[])∧pT w0 cb bx nb s p' (jT k nm ix ct fr fl 0 0 0 0 0 (.slice none 0 0) ⟨#[]⟩ 0 0) w'∧aD (fun k=>k=cb∨k=nb) w w'):=
 (aS9 (ni:=5) h.cod g hs hp h.blk rfl h.qn).mono (by rintro e w' ⟨rfl,c,b,k⟩;exact ⟨rfl,h.step c b k,k⟩)
theorem pT.batch {bt:ByteArray} (h:pT w0 cb bx nb s p (jT k nm ix ct fr fl 0 0 0 0 0 (.slice none 0 0) ⟨#[]⟩ 0 0) w) (g:fP s p 60008 bt p') (hb:(b=⟨0,0,0,0,0,[]⟩∧bt=⟨#[]⟩)∨(bt=aZ b∧dH b∧∀ k (h:k<b.recs.length),bT b.recs[k])) (hs:s.size≤1000000000) (hp:p≤s.size):Calls Tryz.prog 108 #[.pointer (some ⟨cb,0,none⟩),.pointer (some ⟨nb,6,none⟩),.bool true] w
  (fun e w'=>e=.returned (.tuple #[])∧(∃ a cap,pT w0 cb bx nb s p' (jT k nm ix ct fr fl b.base b.span b.prod b.epoch b.seq (.slice a b.recs.length cap) ⟨#[]⟩ 0 0) w'∧BX w0 cb nb w' b a cap)∧aD (fun k=>k=cb∨k=nb) w w'):=by
 rcases hb with ⟨rfl,rfl⟩ | ⟨rfl,ho,hpl⟩
 ·refine (aMt h.cod g hs hp).mono ?_
  rintro e w' ⟨rfl,c,k⟩
  have k':aD (fun k=>k=cb∨k=nb) w w':=k.mono (fun _ _ e=>Or.inl e)
  exact ⟨rfl,⟨none,0,h.step c ((k.block _ (aC h.blk) h.qn).trans h.blk) k',.inl ⟨rfl,rfl,rfl⟩⟩,k'⟩
 ·refine (aGc h.cod g ho hpl h.st hs hp h.blk (by show 12≤20;omega) h.qn h.c0.1).mono ?_
  rintro e w' ⟨a,cap,rfl,c,b,k,hP⟩
  exact ⟨rfl,⟨a,cap,h.step c b k,.inr ⟨w.heap.size,h.keep.size,aC h.cod,aC h.blk,hP⟩⟩,k⟩
theorem pT.filter (h:pT w0 cb bx nb s p (jT k nm ix ct fr fl b.base b.span b.prod b.epoch b.seq (.slice a b.recs.length cap) ⟨#[]⟩ 0 0) w) (g:fP s p 60000 (bP [0]) p') (hs:s.size≤1000000000) (hp:p≤s.size):Calls Tryz.prog 109 #[.pointer (some ⟨cb,0,none⟩),.pointer (some ⟨nb,12,none⟩)] w
  (fun e w'=>e=.returned (.tuple #[])∧pT w0 cb bx nb s p' (jT k nm ix ct fr fl b.base b.span b.prod b.epoch b.seq (.slice a b.recs.length cap) ⟨#[]⟩ 0 0) w'∧aD (fun k=>k=cb∨k=nb) w w'):=
 (aMu h.cod g hs hp h.blk rfl rfl rfl rfl h.qn).mono (by
  rintro e w' ⟨rfl,c,k⟩
  have k':aD (fun k=>k=cb∨k=nb) w w':=k.mono (fun _ _ e=>Or.inl e)
  exact ⟨rfl,h.step c ((k.block _ (aC h.blk) h.qn).trans h.blk) k',k'⟩)
theorem pT.group (h:pT w0 cb bx nb s p (jT k nm ix ct fr fl b.base b.span b.prod b.epoch b.seq (.slice a b.recs.length cap) ⟨#[]⟩ 0 0) w) (g:fP s p 100 gr p') (hs:s.size≤1000000000) (hp:p≤s.size):Calls Tryz.prog 105 #[.pointer (some ⟨cb,0,none⟩),.pointer (some ⟨nb,16,none⟩),.int .i64 100] w
  (fun e w'=>e=.returned (.tuple #[])∧pT w0 cb bx nb s p' (jT k nm ix ct fr fl b.base b.span b.prod b.epoch b.seq (.slice a b.recs.length cap) gr 0 0) w'∧aD (fun k=>k=cb∨k=nb) w w'):=
 (uI (ni:=16) h.cod g hs hp h.blk rfl h.qn).mono (by rintro e w' ⟨rfl,c,b,k⟩;exact ⟨rfl,h.step c b k,k⟩)
theorem pT.plainG {pos:Nat→Int} (h:pT w0 cb bx nb s (pos 0) (jT k nm ix ct fr fl b.base b.span b.prod b.epoch b.seq (.slice a b.recs.length cap) gr 0 0) w) (c:TypeId) (m:Nat) (g0:cA s (pos 0) mb (pos 1)) (g1:cA s (pos 1) gn (pos 2)) (hs:s.size≤1000000000) (hp:∀ k,k<2→pos k≤s.size) (h0:-1≤mb∧mb≤2199023255552) (h1:-1≤gn∧gn≤2199023255552) :
  Calls Tryz.prog 106 #[.pointer (some ⟨cb,0,none⟩),.slice (some ⟨w.heap.size,0,none⟩) 2 m] (w.alloc (.cells #[.pointer (some ⟨nb,17,none⟩),.pointer (some ⟨nb,18,none⟩)] c))
  (fun e w'=>e=.returned (.tuple #[])∧pT w0 cb bx nb s (pos 2) (jT k nm ix ct fr fl b.base b.span b.prod b.epoch b.seq (.slice a b.recs.length cap) gr mb gn) w'∧aD (fun k=>k=cb∨k=nb) w w'):=by
 have k0:K0 w (w.alloc (.cells #[.pointer (some ⟨nb,17,none⟩),.pointer (some ⟨nb,18,none⟩)] c)):=(aD.refl _ _).alloc _
 have q:=h.k0 k0
 have l1:=aC h.cod
 have l2:=aC h.blk
 refine (aAi (l:=[(17,mb),(18,gn)]) (pos:=pos) q.cod ⟨⟨_,c,aI w _ _ rfl,fun i hi=>?_⟩⟩ ⟨by omega,by omega⟩ (fun i hi=>?_) hs hp q.blk (fun i hi=>?_) h.qn (by show 2≤1000;omega)).mono (by rintro e w' ⟨rfl,c,b,k⟩;exact ⟨rfl,q.step c b k,((aD.refl _ _).trans k0 (fun _ _ e=>e.elim)).trans k (fun _ _ e=>e)⟩)
 ·match i,hi with
  | 0,_=>rfl
  | 1,_=>rfl
 ·match i,hi with
  | 0,_=>exact g0
  | 1,_=>exact g1
 ·match i,hi with
  | 0,_=>exact ⟨by show 17<20;omega,h0.1,h0.2⟩
  | 1,_=>exact ⟨by show 18<20;omega,h1.1,h1.2⟩
theorem pT.list {f:Value} (h:pT w0 cb bx nb s p (jT k nm ix ct fr fl b.base b.span b.prod b.epoch b.seq (.slice a b.recs.length cap) gr mb gn) w) (g:cA s p 0 p') (hs:s.size≤1000000000) (hp:p≤s.size):Calls Tryz.prog 110 #[.pointer (some ⟨cb,0,none⟩),.pointer (some ⟨nb,19,none⟩),.int .i64 20,f] w
  (fun e w'=>e=.returned (.tuple #[])∧pT w0 cb bx nb s p' (jT k nm ix ct fr fl b.base b.span b.prod b.epoch b.seq (.slice a b.recs.length cap) gr mb gn) w'∧aD (fun k=>k=cb∨k=nb) w w'):=
 (aI8 h.cod g hs hp h.blk rfl h.qn aE).mono (by
  rintro e w' ⟨rfl,c,k⟩
  have k':aD (fun k=>k=cb∨k=nb) w w':=k.mono (fun _ _ e=>Or.inl e)
  exact ⟨rfl,h.step c ((k.block _ (aC h.blk) h.qn).trans h.blk) k',k'⟩)
structure aU9 (s:ByteArray) (k:Int) (nm:ByteArray) (ix ct fr:Int) (fl:Bool) (bt gr:ByteArray) (mb gn:Int) (pos:Nat→Int):Prop where
 kind:cA s (pos 0) k (pos 1)
 name:fP s (pos 1) 100 nm (pos 2)
 gix:cA s (pos 2) ix (pos 3)
 gct:cA s (pos 3) ct (pos 4)
 gfr:cA s (pos 4) fr (pos 5)
 gfl:cA s (pos 5) (kR fl) (pos 6)
 bat:fP s (pos 6) 60008 bt (pos 7)
 fil:fP s (pos 7) 60000 (bP [0]) (pos 8)
 grp:fP s (pos 8) 100 gr (pos 9)
 gmb:cA s (pos 9) mb (pos 10)
 ggn:cA s (pos 10) gn (pos 11)
 top:cA s (pos 11) 0 (pos 12)
 le:∀ k,k<12→pos k≤s.size
 kin:1≤k∧k≤14
 lix:-1≤ix∧ix≤2199023255552
 lct:-1≤ct∧ct≤2199023255552
 lfr:-1≤fr∧fr≤2199023255552
 lmb:-1≤mb∧mb≤2199023255552
 lgn:-1≤gn∧gn≤2199023255552
end
theorem aVx {w:World} {cb nb:Nat} {s:ByteArray} {k ix ct fr mb gn:Int} {nm gr bt:ByteArray} {fl:Bool} {b:aR} {pos:Nat→Int} (h:pT w cb w.heap.size nb s (pos 0) (jT 0 ⟨#[]⟩ 0 0 0 false 0 0 0 0 0 (.slice none 0 0) ⟨#[]⟩ 0 0) (w.alloc (.cells #[.pointer (some ⟨cb,0,none⟩)] 118))) (g:aU9 s k nm ix ct fr fl bt gr mb gn pos)
  (hb:(b=⟨0,0,0,0,0,[]⟩∧bt=⟨#[]⟩)∨(bt=aZ b∧dH b∧∀ k (h:k<b.recs.length),bT b.recs[k])) (hs:s.size≤1000000000) :
  Calls Tryz.prog 46 #[.pointer (some ⟨cb,0,none⟩),.pointer (some ⟨nb,0,none⟩)] w (fun e w'=>∃ a cap,e=.returned (.tuple #[])∧pT w cb w.heap.size nb s (pos 12) (jT k nm ix ct fr fl b.base b.span b.prod b.epoch b.seq (.slice a b.recs.length cap) gr mb gn) w'∧BX w cb nb w' b a cap):=by
 have HG:=Lib.hid g
 have HB:=Lib.hid hb
 have HS:=Lib.hid hs
 have H1:=Lib.hid h
 clear h g hb hs
 go_enter Tryz.func46,Tryz.ntmps46
 go_wp2_with fail
 have D1:=Lib.hid (H1.out.k0 (aD.refl (fun _=>False) _).drew)
 have b1:=D1.out.box
 clear H1
 go_region_held3 (fun w':World=>w'.cell? ⟨w.heap.size,0,none⟩=some (.pointer (some ⟨cb,0,none⟩)))
  (first | go_keep | assumption)
  (first | (go_at_call 104;refine (D1.out.kind HG.out.kind HS.out (HG.out.le 0 aE) HG.out.kin).mono ?_;rintro e w2 ⟨rfl,h2,_⟩;have b2:=h2.box;have H2:=Lib.hid h2;clear h2))
 go_wp2_with fail
 clear b1 D1
 have D2:=Lib.hid (H2.out.k0 (aD.refl (fun _=>False) _).drew)
 have b2:=D2.out.box
 clear H2
 go_region_held3 (fun w':World=>w'.cell? ⟨w.heap.size,0,none⟩=some (.pointer (some ⟨cb,0,none⟩)))
  (first | go_keep | assumption)
  (first | (go_at_call 105;refine (D2.out.name HG.out.name HS.out (HG.out.le 1 aE)).mono ?_;rintro e w3 ⟨rfl,h3,_⟩;have b3:=h3.box;have H3:=Lib.hid h3;clear h3))
 go_wp2_with fail
 clear b2 D2
 have D3:=Lib.hid (H3.out.k0 (aD.refl (fun _=>False) _).drew)
 have b3:=D3.out.box
 clear H3
 go_region_held3 (fun w':World=>w'.cell? ⟨w.heap.size,0,none⟩=some (.pointer (some ⟨cb,0,none⟩)))
  (first | go_keep | assumption)
  (first | (go_at_call 106;refine (D3.out.plainF (pos:=fun i=>pos (i+2)) _ _ HG.out.gix HG.out.gct HG.out.gfr HS.out (fun i hi=>HG.out.le (i+2) aA) HG.out.lix HG.out.lct HG.out.lfr).mono ?_;rintro e w4 ⟨rfl,h4,_⟩;have b4:=h4.box;have H4:=Lib.hid h4;clear h4))
 go_wp2_with fail
 clear b3 D3
 have D4:=Lib.hid (H4.out.k0 (aD.refl (fun _=>False) _).drew)
 have b4:=D4.out.box
 clear H4
 go_region_held3 (fun w':World=>w'.cell? ⟨w.heap.size,0,none⟩=some (.pointer (some ⟨cb,0,none⟩)))
  (first | go_keep | assumption)
  (first | (go_at_call 107;refine (D4.out.flag HG.out.gfl HS.out (HG.out.le 5 aE)).mono ?_;rintro e w5 ⟨rfl,h5,_⟩;have b5:=h5.box;have H5:=Lib.hid h5;clear h5))
 go_wp2_with fail
 clear b4 D4
 have D5:=Lib.hid (H5.out.k0 (aD.refl (fun _=>False) _).drew)
 have b5:=D5.out.box
 clear H5
 go_region_held3 (fun w':World=>w'.cell? ⟨w.heap.size,0,none⟩=some (.pointer (some ⟨cb,0,none⟩)))
  (first | go_keep | assumption)
  (first | (go_at_call 108;refine (D5.out.batch HG.out.bat HB.out HS.out (HG.out.le 6 aE)).mono ?_;rintro e w6 ⟨rfl,⟨a,cap,h6,e6⟩,_⟩;have b6:=h6.box;have H6:=Lib.hid h6;have E5':=Lib.hid e6;clear h6 e6))
 go_wp2_with fail
 clear b5 D5
 have D6:=Lib.hid (H6.out.k0 (aD.refl (fun _=>False) _).drew)
 have b6:=D6.out.box
 have E6:=Lib.hid (E5'.out.keep ((aD.refl _ _).drew))
 clear H6 E5'
 go_region_held3 (fun w':World=>w'.cell? ⟨w.heap.size,0,none⟩=some (.pointer (some ⟨cb,0,none⟩)))
  (first | go_keep | assumption)
  (first | (go_at_call 109;refine (D6.out.filter HG.out.fil HS.out (HG.out.le 7 aE)).mono ?_;rintro e w7 ⟨rfl,h7,k7⟩;have b7:=h7.box;have H7:=Lib.hid h7;have E6':=Lib.hid (E6.out.keep k7);clear h7 k7))
 go_wp2_with fail
 clear b6 D6 E6
 have D7:=Lib.hid (H7.out.k0 (aD.refl (fun _=>False) _).drew)
 have b7:=D7.out.box
 have E7:=Lib.hid (E6'.out.keep ((aD.refl _ _).drew))
 clear H7 E6'
 go_region_held3 (fun w':World=>w'.cell? ⟨w.heap.size,0,none⟩=some (.pointer (some ⟨cb,0,none⟩)))
  (first | go_keep | assumption)
  (first | (go_at_call 105;refine (D7.out.group HG.out.grp HS.out (HG.out.le 8 aE)).mono ?_;rintro e w8 ⟨rfl,h8,k8⟩;have b8:=h8.box;have H8:=Lib.hid h8;have E7':=Lib.hid (E7.out.keep k8);clear h8 k8))
 go_wp2_with fail
 clear b7 D7 E7
 have D8:=Lib.hid (H8.out.k0 (aD.refl (fun _=>False) _).drew)
 have b8:=D8.out.box
 have E8:=Lib.hid (E7'.out.keep ((aD.refl _ _).drew))
 clear H8 E7'
 go_region_held3 (fun w':World=>w'.cell? ⟨w.heap.size,0,none⟩=some (.pointer (some ⟨cb,0,none⟩)))
  (first | go_keep | assumption)
  (first | (go_at_call 106;refine (D8.out.plainG (pos:=fun i=>pos (i+9)) _ _ HG.out.gmb HG.out.ggn HS.out (fun i hi=>HG.out.le (i+9) aA) HG.out.lmb HG.out.lgn).mono ?_;rintro e w9 ⟨rfl,h9,k9⟩;have b9:=h9.box;have H9:=Lib.hid h9;have E8':=Lib.hid (E8.out.keep k9);clear h9 k9))
 go_wp2_with fail
 clear b8 D8 E8
 have D9:=Lib.hid (H9.out.k0 (aD.refl (fun _=>False) _).drew)
 have b9:=D9.out.box
 have E9:=Lib.hid (E8'.out.keep ((aD.refl _ _).drew))
 clear H9 E8'
 go_region_held3 (fun w':World=>w'.cell? ⟨w.heap.size,0,none⟩=some (.pointer (some ⟨cb,0,none⟩)))
  (first | go_keep | assumption)
  (first | (go_at_call 110;refine (D9.out.list HG.out.top HS.out (HG.out.le 11 aE)).mono ?_;rintro e w10 ⟨rfl,h10,k10⟩;have b10:=h10.box;have H10:=Lib.hid h10;have E9':=Lib.hid (E9.out.keep k10);clear h10 k10))
 go_wp2_with fail
 go_end0
 exact ⟨_,_,rfl,H10.out,E9'.out⟩
end Go.Proofs.YteapahcklcldkaaGreatDoor
