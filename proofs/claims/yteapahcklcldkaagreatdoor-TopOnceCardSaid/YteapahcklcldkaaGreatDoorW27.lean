/-
  The statement is proved: all that it reaches, in parts.
-/
import Derived.Test.YteapahcklcldkaaGreatDoorW26
set_option maxRecDepth 100000
set_option maxHeartbeats 16000000
namespace Go.Proofs.YteapahcklcldkaaGreatDoor
open Go.RowKit Fx
theorem aWh {g cap:Nat} {lb x3 x6:Nat} (S:Nat→World→Prop) (hrow:∀ k wx,S k wx→wx.cell? ⟨g,0,none⟩=some (.func (Fn.func 327) #[.pointer (some ⟨lb,0,none⟩)] #[])∧wx.cell? ⟨g,1,none⟩=some (.func (Fn.func 328) #[] #[.pointer (some ⟨x6,0,none⟩),.pointer (some ⟨x3,0,none⟩)])∧wx.cell? ⟨g,2,none⟩=some (.func (Fn.func 330) #[] #[.pointer (some ⟨x6,0,none⟩),.pointer (some ⟨x3,0,none⟩)])∧wx.cell? ⟨g,3,none⟩=some (.func (Fn.func 332) #[.pointer (some ⟨lb,0,none⟩)] #[])∧wx.cell? ⟨g,4,none⟩=some (.func (Fn.func 283) #[.pointer (some ⟨lb,0,none⟩)] #[]))
  (h0:∀ wx,S 0 wx→Calls Tryz.prog 327 #[.pointer (some ⟨lb,0,none⟩)] wx fun e w'=>e=.returned (.int .i64 0)∧S 1 w')
  (h1:∀ wx,S 1 wx→Calls Tryz.prog 328 #[.pointer (some ⟨x6,0,none⟩),.pointer (some ⟨x3,0,none⟩)] wx fun e w'=>e=.returned (.int .i64 0)∧S 2 w')
  (h2:∀ wx,S 2 wx→Calls Tryz.prog 330 #[.pointer (some ⟨x6,0,none⟩),.pointer (some ⟨x3,0,none⟩)] wx fun e w'=>e=.returned (.int .i64 0)∧S 3 w')
  (h3:∀ wx,S 3 wx→Calls Tryz.prog 332 #[.pointer (some ⟨lb,0,none⟩)] wx fun e w'=>e=.returned (.int .i64 0)∧S 4 w')
  (h4:∀ wx,S 4 wx→Calls Tryz.prog 283 #[.pointer (some ⟨lb,0,none⟩)] wx fun e w'=>e=.returned (.int .i64 0)∧S 5 w')
  {w:World} (hw:S 0 w):Calls Tryz.prog 278 #[.slice (some ⟨g,0,none⟩) 5 cap] w fun e w'=>e=.returned (.int .i64 0)∧S 5 w':=by
 have HROW:=Lib.hid hrow
 have H0:=Lib.hid h0
 have H1:=Lib.hid h1
 have H2:=Lib.hid h2
 have H3:=Lib.hid h3
 have H4:=Lib.hid h4
 have HS0:=Lib.hid hw
 clear hrow hw h0 h1 h2 h3 h4
 go_enter Tryz.func278,Tryz.ntmps278
 go_wp2_with fail
 refine wp_loop_rounds 6 ?_
 rw [rounds_succ]
 obtain ⟨r0,r1,r2,r3,r4⟩:=HROW.out _ _ HS0.out
 go_wp2_with fail
 refine (H0.out _ HS0.out).mono ?_
 rintro e w1 ⟨rfl,hs⟩
 have HS1:=Lib.hid hs
 clear hs HS0 H0 r0 r1 r2 r3 r4
 go_wp2_with fail
 rw [rounds_succ]
 obtain ⟨r0,r1,r2,r3,r4⟩:=HROW.out _ _ HS1.out
 go_wp2_with fail
 refine (H1.out _ HS1.out).mono ?_
 rintro e w2 ⟨rfl,hs⟩
 have HS2:=Lib.hid hs
 clear hs HS1 H1 r0 r1 r2 r3 r4
 go_wp2_with fail
 rw [rounds_succ]
 obtain ⟨r0,r1,r2,r3,r4⟩:=HROW.out _ _ HS2.out
 go_wp2_with fail
 refine (H2.out _ HS2.out).mono ?_
 rintro e w3 ⟨rfl,hs⟩
 have HS3:=Lib.hid hs
 clear hs HS2 H2 r0 r1 r2 r3 r4
 go_wp2_with fail
 rw [rounds_succ]
 obtain ⟨r0,r1,r2,r3,r4⟩:=HROW.out _ _ HS3.out
 go_wp2_with fail
 refine (H3.out _ HS3.out).mono ?_
 rintro e w4 ⟨rfl,hs⟩
 have HS4:=Lib.hid hs
 clear hs HS3 H3 r0 r1 r2 r3 r4
 go_wp2_with fail
 rw [rounds_succ]
 obtain ⟨r0,r1,r2,r3,r4⟩:=HROW.out _ _ HS4.out
 go_wp2_with fail
 refine (H4.out _ HS4.out).mono ?_
 rintro e w5 ⟨rfl,hs⟩
 have HS5:=Lib.hid hs
 clear hs HS4 H4 r0 r1 r2 r3 r4
 go_wp2_with fail
 rw [rounds_succ]
 go_wp2_with fail
 go_ret
 exact ⟨rfl,HS5.out⟩
def aFx (W:World) (FD:Nat→Prop) (db lb:Nat) (pre:ByteArray) (lim ev:Int) (D:Dsk.aS) (cls:ByteArray→Option (Int×List aR)) (k:Nat) (wx:World):Prop:=
 if k=0 then wx=W
 else if k=1 then K0 W wx
 else if k≤3 then ∃ FD1,aU wx FD1 db D∧aP FD FD1 W wx
 else ∃ FD1 w1 F' ss Ss,aU w1 FD1 db D∧aP FD FD1 W w1∧ss.Perm (Dsk.cR D.files)∧(ss.map fun s=>s.data.toList).Pairwise (fun x y=>x≤y)∧fN wx F' lb db pre lim ev Ss∧Ss.map iA=cU cls ss∧aP (fun j=>j=lb) F' w1 wx
theorem aFx.keeps {W:World} {FD:Nat→Prop} {db lb:Nat} {pre:ByteArray} {lim ev:Int} {D:Dsk.aS} {cls:ByteArray→Option (Int×List aR)} {k:Nat} {wx:World} (h:aFx W FD db lb pre lim ev D cls k wx):aD (fun j=>FD j∨j=lb) W wx:=by
 unfold aFx at h
 split at h
 ·subst h;exact aD.refl _ _
 ·split at h
  ·exact h.mono (fun _ _ e=>e.elim)
  ·split at h
   ·obtain ⟨_,_,h⟩:=h
    exact h.keeps.mono (fun _ _ e=>.inl e)
   ·obtain ⟨_,_,_,_,_,_,h,_,_,_,_,h2⟩:=h
    exact (h.keeps.mono (fun _ _ e=>.inl e)).trans h2.keeps (fun _ _ e=>.inr e)
theorem fJ.zero {W:World} {lb db:Nat} {pre:ByteArray} {lim ev:Int} (h:W.heap[lb]?=some (.cells #[.string pre,.int .i64 lim,.int .i64 ev,.pointer (some ⟨db,0,none⟩),.int .i64 0,.slice none 0 0] 371 (0,0))):fJ W (fun j=>j=lb) lb db pre lim ev [] (.slice none 0 0) (fun _ _=>False):=
 ⟨h,World.ownsRow_nil _ _ _ _,fun i hi=>absurd hi (Nat.not_lt_zero _),⟨rfl,fun k e=>(by cases e),fun i hi=>absurd hi (Nat.not_lt_zero _)⟩,⟨fun e=>(by cases e),fun i hi=>absurd hi (Nat.not_lt_zero _)⟩,fun k e=>(by cases e),fun i j hi=>absurd hi (Nat.not_lt_zero _),fun k e=>e▸aC h,Nat.zero_le _⟩
theorem aN5 {W:World} {FD:Nat→Prop} {db lb x3 x6 g:Nat} {D:Dsk.aS} (hd:aU W FD db D) (wf:Dsk.fV D) (hfu:¬ D.fuse=0) (hfl:D.files.length≤900) (hst:bF W) {pre:ByteArray} {lim ev:Int} (hp:pre.size≤20) (he:1≤ev)
  (hs:Dsk.bJ D (nH pre)=6) (hf:Dsk.bJ D (oM pre)=6) (hw:Dsk.bJ D (vG pre)=6) {cls:ByteArray→Option (Int×List aR)} (hto:∀ s∈Dsk.cR D.files,aDw pre lim ev D cls s)
  (hri:∀ ss:List ByteArray,ss.Perm (Dsk.cR D.files)→(ss.map fun s=>s.data.toList).Pairwise (fun x y=>x≤y)→mW (cU cls ss)) (hen:∀ s n Bs,cls s=some (n,Bs)→0<fL n Bs)
  (hb:W.heap[lb]?=some (.cells #[.string pre,.int .i64 lim,.int .i64 ev,.pointer (some ⟨db,0,none⟩),.int .i64 0,.slice none 0 0] 371 (0,0)))
  (hr:W.cell? ⟨g,0,none⟩=some (.func (Fn.func 327) #[.pointer (some ⟨lb,0,none⟩)] #[])∧W.cell? ⟨g,1,none⟩=some (.func (Fn.func 328) #[] #[.pointer (some ⟨x6,0,none⟩),.pointer (some ⟨x3,0,none⟩)])∧
   W.cell? ⟨g,2,none⟩=some (.func (Fn.func 330) #[] #[.pointer (some ⟨x6,0,none⟩),.pointer (some ⟨x3,0,none⟩)])∧W.cell? ⟨g,3,none⟩=some (.func (Fn.func 332) #[.pointer (some ⟨lb,0,none⟩)] #[])∧W.cell? ⟨g,4,none⟩=some (.func (Fn.func 283) #[.pointer (some ⟨lb,0,none⟩)] #[]))
  (cl:W.cell? ⟨x6,0,none⟩=some (.pointer (some ⟨lb,0,none⟩))) (cc:W.cell? ⟨x3,0,none⟩=some (.string pre)∧W.cell? ⟨x3,1,none⟩=some (.int .i64 lim)∧W.cell? ⟨x3,2,none⟩=some (.int .i64 ev))
  (n0:lb≠0) (nl:¬ FD lb) (n3:¬ FD x3∧x3≠lb) (n6:¬ FD x6∧x6≠lb) (ng:¬ FD g∧g≠lb) (n00:¬ FD 0) {cap:Nat} :
  Calls Tryz.prog 278 #[.slice (some ⟨g,0,none⟩) 5 cap] W fun e w'=>e=.returned (.int .i64 0)∧aFx W FD db lb pre lim ev D cls 5 w':=by
 have hX:=fJ.zero hb
 have c3:W.cell? ⟨lb,3,none⟩=some (.pointer (some ⟨db,0,none⟩)):=aB hb 3
 obtain ⟨cc0,cc1,cc2⟩:=cc
 obtain ⟨r0,r1,r2,r3,r4⟩:=hr
 have hnot:∀ {x:Nat},¬ FD x∧x≠lb→¬ (FD x∨x=lb):=fun h e=>e.elim h.1 h.2
 refine aWh (x3:=x3) (x6:=x6) (lb:=lb) (aFx W FD db lb pre lim ev D cls) (fun k wx hk=>?_) (fun wx hk=>?_) (fun wx hk=>?_) (fun wx hk=>?_) (fun wx hk=>?_) (fun wx hk=>?_) (by exact rfl)
 ·have K:=hk.keeps
  exact ⟨K.cell' r0 (hnot ng),K.cell' r1 (hnot ng),K.cell' r2 (hnot ng),K.cell' r3 (hnot ng),K.cell' r4 (hnot ng)⟩
 ·have hk:wx=W:=hk
  subst hk
  exact (yK hX hd hp hs).mono fun e w' q=>⟨q.1,q.2⟩
 ·have hk:K0 W wx:=hk
  refine (aWf (hk.cell' cl (fun e=>e)) ⟨hk.cell' cc0 (fun e=>e),hk.cell' cc1 (fun e=>e),hk.cell' cc2 (fun e=>e)⟩ (hk.cell' c3 (fun e=>e)) (hd.k0 hk) wf hf hp).mono ?_
  rintro e w' ⟨rfl,FD',h1,h2⟩
  exact ⟨rfl,FD',h1,aP.k0_left hk h2⟩
 ·obtain ⟨FD1,h1,h2⟩:∃ FD1,aU wx FD1 db D∧aP FD FD1 W wx:=hk
  refine (aWg (h2.keeps.cell' cl n6.1) ⟨h2.keeps.cell' cc0 n3.1,h2.keeps.cell' cc1 n3.1,h2.keeps.cell' cc2 n3.1⟩ (h2.keeps.cell' c3 nl) h1 wf hw hp).mono ?_
  rintro e w' ⟨rfl,FD',h3,h4⟩
  exact ⟨rfl,FD',h3,h2.trans h4⟩
 ·obtain ⟨FD1,h1,h2⟩:∃ FD1,aU wx FD1 db D∧aP FD FD1 W wx:=hk
  have hX1:=hX.keep h2.keeps (fun k e=>e▸nl)
  refine (aH3 hX1 h1 (fun k e=>e▸(h2.apart (G:=fun j=>j=lb) (fun k e=>e▸⟨aC hb,nl⟩) _ rfl).2) wf hfu hfl (hst.keep h2.keeps n00) (fun e=>n0 e.symm) he cls hto hri).mono ?_
  rintro e w' ⟨rfl,F',ss,Ss,q1,q2,q3,q4,q5⟩
  exact ⟨rfl,FD1,wx,F',ss,Ss,h1,h2,q1,q2,q3,q4,q5⟩
 ·obtain ⟨FD1,w1,F',ss,Ss,h1,h2,q1,q2,q3,q4,q5⟩:∃ (FD1:Nat→Prop) (w1:World) (F':Nat→Prop) (ss:List ByteArray) (Ss:List fO),aU w1 FD1 db D∧aP FD FD1 W w1∧ss.Perm (Dsk.cR D.files)∧(ss.map fun (s:ByteArray)=>s.data.toList).Pairwise (fun x y=>x≤y)∧fN wx F' lb db pre lim ev Ss∧Ss.map iA=cU cls ss∧aP (fun j=>j=lb) F' w1 wx:=hk
  obtain ⟨v',FS',q3⟩:=q3
  have hT:Calls Tryz.prog 283 #[.pointer (some ⟨lb,0,none⟩)] wx fun e w'=>e=.returned (.int .i64 0)∧K0 wx w':=by
   by_cases hl:Ss.length≤1
   ·exact aN9 q3 hl
   ·refine aN8 q3 aA ?_
    have hm:iA (Ss[0]'aA)∈cU cls ss:=(by rw [← q4];exact List.mem_map_of_mem (List.getElem_mem _))
    unfold cU at hm
    obtain ⟨s,_,hs2⟩:=List.mem_filterMap.1 hm
    cases hc:cls s with
    | none=>rw [hc] at hs2;cases hs2
    | some p=>
     rw [hc] at hs2
     have e1:=Option.some.inj hs2
     have e2:=congrArg aY.base e1
     have e3:=congrArg aY.Bs e1
     have:=hen s p.1 p.2 (by rw [hc])
     have e2':p.1=(Ss[0]'aA).base:=e2
     have e3':p.2=(Ss[0]'aA).Bs:=e3
     rw [e2',e3'] at this
     exact this
  refine hT.mono ?_
  rintro e w' ⟨rfl,kk⟩
  exact ⟨rfl,FD1,w1,F',ss,Ss,h1,h2,q1,q2,⟨v',FS',q3.keep kk (fun _ _ e=>e)⟩,q4,q5.k0 kk⟩
theorem aGw {cls:ByteArray→Option (Int×List aR)} (hen:∀ s n Bs,cls s=some (n,Bs)→0<fL n Bs) {ss:List ByteArray} {s:aY} (hm:s∈cU cls ss):0<fL s.base s.Bs:=by
 unfold cU at hm
 obtain ⟨t,_,hs2⟩:=List.mem_filterMap.1 hm
 cases hc:cls t with
 | none=>rw [hc] at hs2;cases hs2
 | some p=>
  rw [hc] at hs2
  have e1:=Option.some.inj hs2
  subst e1
  exact hen t p.1 p.2 (by rw [hc])
theorem aN2 {w:World} {FD:Nat→Prop} {db:Nat} {D:Dsk.aS} (hd:aU w FD db D) (wf:Dsk.fV D) (hfu:¬ D.fuse=0) (hfl:D.files.length≤900) (hst:bF w) (hn0:¬ FD 0) (pre:ByteArray) (lim ev:Int) (hp:0<pre.size∧pre.size≤20) (hl:50≤lim∧lim≤1000000) (he:1≤ev∧ev≤1000000)
  (hs:Dsk.bJ D (nH pre)=6) (hf:Dsk.bJ D (oM pre)=6) (hw:Dsk.bJ D (vG pre)=6) (cls:ByteArray→Option (Int×List aR)) (hto:∀ s∈Dsk.cR D.files,aDw pre lim ev D cls s)
  (hri:∀ ss:List ByteArray,ss.Perm (Dsk.cR D.files)→(ss.map fun s=>s.data.toList).Pairwise (fun x y=>x≤y)→mW (cU cls ss)) (hen:∀ s n Bs,cls s=some (n,Bs)→0<fL n Bs) :
  Calls Tryz.prog 262 #[.pointer (some ⟨db,0,none⟩),.agg #[.string pre,.int .i64 lim,.int .i64 ev]] w fun e w'=>∃ lb FD' F' ss Ss,e=.returned (.tuple #[.pointer (some ⟨lb,0,none⟩),.int .i64 0])∧ss.Perm (Dsk.cR D.files)∧(ss.map fun s=>s.data.toList).Pairwise (fun x y=>x≤y)∧
   aU w' FD' db D∧fN w' F' lb db pre lim ev Ss∧Ss.map iA=cU cls ss∧aP FD FD' w w'∧(∀ k,F' k→w.heap.size≤k)∧∀ k,F' k→¬ FD' k:=by
 have HM:Hid (∀ wx,Calls Tryz.prog 326 #[.agg #[.string pre,.int .i64 lim,.int .i64 ev]] wx fun e w'=>e=.returned (.bool true)∧K0 wx w'):=fun wx=>aTg pre lim ev wx hp.2 hp.1 hl he
 go_enter Tryz.func262,Tryz.ntmps262
 go_wp2_with fail
 refine (HM.out _).mono ?_
 rintro e w1 ⟨rfl,k1⟩
 have d0:w1.cell? ⟨w.heap.size,0,none⟩=some (.string pre):=k1.cell' (aB (aI w _ _ rfl) 0) (fun e=>e)
 have d1:w1.cell? ⟨w.heap.size,1,none⟩=some (.int .i64 lim):=k1.cell' (aB (aI w _ _ rfl) 1) (fun e=>e)
 have d2:w1.cell? ⟨w.heap.size,2,none⟩=some (.int .i64 ev):=k1.cell' (aB (aI w _ _ rfl) 2) (fun e=>e)
 have hz1:w.heap.size<w1.heap.size:=Nat.lt_of_lt_of_le aK k1.size
 have HK1:Hid (K0 w w1):=K0.tr ((aD.refl (fun _=>False) w).alloc _) k1
 clear k1
 go_wp2_with fail
 obtain ⟨W,hW⟩:∃ W,W=((w1.alloc (.cells #[.string pre,.int .i64 lim,.int .i64 ev,.pointer (some ⟨db,0,none⟩),.int .i64 0,.slice none 0 0] 371)).alloc (.cells #[.pointer (some ⟨w1.heap.size,0,none⟩)] 262)).alloc (.cells #[.func (Fn.func 327) #[.pointer (some ⟨w1.heap.size,0,none⟩)] #[],.func (Fn.func 328) #[] #[.pointer (some ⟨w1.heap.size+1,0,none⟩),.pointer (some ⟨w.heap.size,0,none⟩)],.func (Fn.func 330) #[] #[.pointer (some ⟨w1.heap.size+1,0,none⟩),.pointer (some ⟨w.heap.size,0,none⟩)],.func (Fn.func 332) #[.pointer (some ⟨w1.heap.size,0,none⟩)] #[],.func (Fn.func 283) #[.pointer (some ⟨w1.heap.size,0,none⟩)] #[]] 122):=⟨_,rfl⟩
 rw [← hW]
 have KW:K0 w1 W:=(by rw [hW];exact (((aD.refl _ _).alloc _).alloc _).alloc _)
 have bl:W.heap[w1.heap.size]?=some (.cells #[.string pre,.int .i64 lim,.int .i64 ev,.pointer (some ⟨db,0,none⟩),.int .i64 0,.slice none 0 0] 371 (0,0)):=by rw [hW];exact aL (aL (aI w1 _ _ rfl) _) _
 have b6:W.heap[w1.heap.size+1]?=some (.cells #[.pointer (some ⟨w1.heap.size,0,none⟩)] 262 (0,0)):=(by rw [hW];exact aL (aI _ _ _ (by simp)) _)
 have bg:W.heap[w1.heap.size+1+1]?=some (.cells #[.func (Fn.func 327) #[.pointer (some ⟨w1.heap.size,0,none⟩)] #[],.func (Fn.func 328) #[] #[.pointer (some ⟨w1.heap.size+1,0,none⟩),.pointer (some ⟨w.heap.size,0,none⟩)],.func (Fn.func 330) #[] #[.pointer (some ⟨w1.heap.size+1,0,none⟩),.pointer (some ⟨w.heap.size,0,none⟩)],.func (Fn.func 332) #[.pointer (some ⟨w1.heap.size,0,none⟩)] #[],.func (Fn.func 283) #[.pointer (some ⟨w1.heap.size,0,none⟩)] #[]] 122 (0,0)):=(by rw [hW];exact aI _ _ _ (by simp))
 have c6:W.cell? ⟨w1.heap.size+1,0,none⟩=some (.pointer (some ⟨w1.heap.size,0,none⟩)):=aB b6 0
 have hlt:∀ k,FD k→k<w.heap.size:=hd.lt
 have h00:¬ FD 0:=fun e=>hn0 e
 have hA:=aN5 (x3:=w.heap.size) (lb:=w1.heap.size) (x6:=w1.heap.size+1) (g:=w1.heap.size+1+1) (cap:=5) (hd.k0 (K0.tr HK1.out KW)) wf hfu hfl (hst.keep0 (K0.tr HK1.out KW)) hp.2 he.1 hs hf hw hto hri hen bl
  ⟨aB bg 0,aB bg 1,aB bg 2,aB bg 3,aB bg 4⟩ c6 ⟨KW.cell' d0 (fun e=>e),KW.cell' d1 (fun e=>e),KW.cell' d2 (fun e=>e)⟩ aA (fun e=>by have:=hlt _ e;omega) ⟨fun e=>by have:=hlt _ e;omega,by omega⟩ ⟨fun e=>by have:=hlt _ e;omega,by omega⟩ ⟨fun e=>by have:=hlt _ e;omega,by omega⟩ h00
 have HWZ:Hid (w1.heap.size<W.heap.size):=aC bl
 have HA:=Lib.hid hA
 have hen2:=hen
 have HK2:Hid (K0 w W):=K0.tr HK1.out KW
 have HLT:=Lib.hid hlt
 have HZ:=Lib.hid hz1
 clear hA hW KW bl bg d0 d1 d2 hd hst hto hri hen hlt hfu hfl hs hf hw HM wf hl he hp HK1
 refine HA.out.mono ?_
 rintro e w2 ⟨rfl,h5⟩
 obtain ⟨FD1,w3,F',ss,Ss,h1,h2,q1,q2,q3,q4,q5⟩:∃ (FD1:Nat→Prop) (w3:World) (F':Nat→Prop) (ss:List ByteArray) (Ss:List fO),aU w3 FD1 db D∧aP FD FD1 W w3∧ss.Perm (Dsk.cR D.files)∧(ss.map fun (s:ByteArray)=>s.data.toList).Pairwise (fun x y=>x≤y)∧fN w2 F' w1.heap.size db pre lim ev Ss∧Ss.map iA=cU cls ss∧aP (fun j=>j=w1.heap.size) F' w3 w2:=h5
 have hnl:¬ FD1 w1.heap.size:=(h2.apart (G:=fun j=>j=w1.heap.size) (fun k e=>e▸⟨HWZ.out,fun e=>by have:=HLT.out _ e;have:=HZ.out;omega⟩) _ rfl).2
 have hap:∀ k,F' k→¬ FD1 k:=fun k e q=>(q5.grows k e).elim (fun e=>by
  have hk:k=w1.heap.size:=e
  subst hk
  exact hnl q) (fun hk=>by have:=h1.lt k q;omega)
 have c6':w2.cell? ⟨w1.heap.size+1,0,none⟩=some (.pointer (some ⟨w1.heap.size,0,none⟩)):=q5.keeps.cell' (h2.keeps.cell' c6 (fun e=>by have h:w1.heap.size+1<w.heap.size:=HLT.out _ e;have:=HZ.out;omega)) (fun e=>by have h:w1.heap.size+1=w1.heap.size:=e;omega)
 have ld2:w2.cell? ⟨w1.heap.size,4,none⟩=some (.int .i64 0):=by
  obtain ⟨v,FS,hx⟩:=q3
  exact aB hx.blk 4
 have hll:w1.heap.size<w2.heap.size:=Nat.lt_of_lt_of_le HWZ.out (Nat.le_trans h2.keeps.size q5.keeps.size)
 have hend:∃ en:Int,0≤en∧∀ wx,K0 w2 wx→Calls Tryz.prog 142 #[.pointer (some ⟨w1.heap.size,0,none⟩)] wx fun e w'=>e=.returned (.int .i64 en)∧K0 wx w':=by
  obtain ⟨v,FS,hx⟩:=q3
  rcases Nat.eq_zero_or_pos Ss.length with hz | hz
  ·have:Ss=[]:=List.length_eq_zero_iff.1 hz
   subst this
   exact ⟨0,by omega,fun wx k=>tD (hx.keep k (fun _ _ e=>e))⟩
  ·refine ⟨fL (Ss[Ss.length - 1]'aA).base (Ss[Ss.length - 1]'aA).Bs,?_,fun wx k=>mK (hx.keep k (fun _ _ e=>e)) (Ss.length - 1) aA⟩
   have:=aGw hen2 (s:=iA (Ss[Ss.length - 1]'aA)) (by rw [← q4];exact List.mem_map_of_mem (List.getElem_mem _))
   exact Int.le_of_lt this
 obtain ⟨en,hen0,hEN⟩:=hend
 have HP:Hid (∀ w',K0 w2 w'→∃ lb FD' F' ss Ss,Value.tuple #[.pointer (some ⟨w1.heap.size,0,none⟩),.int .i64 0]=.tuple #[.pointer (some ⟨lb,0,none⟩),.int .i64 0]∧ss.Perm (Dsk.cR D.files)∧(ss.map fun (s:ByteArray)=>s.data.toList).Pairwise (fun x y=>x≤y)∧
   aU w' FD' db D∧fN w' F' lb db pre lim ev Ss∧Ss.map iA=cU cls ss∧aP FD FD' w w'∧(∀ k,F' k→w.heap.size≤k)∧∀ k,F' k→¬ FD' k):=fun w' k=>by
  refine ⟨_,_,_,_,_,rfl,q1,q2,(h1.keep q5.keeps (fun j e q=>hnl ((show j=w1.heap.size from q)▸e))).k0 k,q3.k0 k,q4,?_,?_,hap⟩
  ·have hk:aD FD w w':=((HK2.out.mono (fun _ _ e=>e.elim)).trans h2.keeps (fun _ _ e=>e)).trans (q5.keeps.trans k (fun _ _ e=>e.elim)) (fun j hj e=>by
    have:j=w1.heap.size:=e
    have:=HZ.out
    omega)
   exact ⟨hk,fun k e=>(h2.grows k e).imp id (fun h=>Nat.le_trans HK2.out.size h)⟩
  ·intro k e
   rcases q5.grows k e with h | h
   ·have:k=w1.heap.size:=h
    have:=HZ.out
    omega
   ·exact Nat.le_trans HK2.out.size (Nat.le_trans h2.keeps.size h)
 have HEN:=Lib.hid hEN
 have j1:¬ en<0:=aA
 have j2:decide (en<0)=false:=decide_eq_false j1
 clear h1 h2 q1 q2 q3 q4 q5 hnl hap c6 hEN hen2
 go_upto_region 7 with fail
 go_region_held3 (fun w':World=>K0 w2 w'∧w'.cell? ⟨w1.heap.size+1,0,none⟩=some (.pointer (some ⟨w1.heap.size,0,none⟩))∧w'.cell? ⟨w1.heap.size,4,none⟩=some (.int .i64 0))
  (first | exact ⟨(aD.refl _ _).drew,by first | assumption | go_simp,by first | assumption | go_simp⟩ | (go_split_ands;exact ⟨K0.tr aG kk,kk.cell' aG (fun e=>e),kk.cell' aG (fun e=>e)⟩))
  (first
   | (go_at_call 142;go_split_ands;refine (HEN.out _ (by assumption)).mono ?_;rintro e w' ⟨rfl,kk⟩))
 go_wp2_with fail
 go_ret2
 go_split_ands
 obtain ⟨lb',FD',F'',ss',Ss',q1,q2⟩:=HP.out _ aG
 exact ⟨lb',FD',F'',ss',Ss',congrArg Ending.returned q1,q2⟩
section
variable {w w':World} {F FD FD' F5:Nat→Prop} {lb db:Nat} {pre:ByteArray} {lim ev:Int} {Ts:List fO} {s:fO} {v:Value} {FS:Nat→Nat→Prop}
theorem dV {α:Type} (Ts:List α) (s:α) (h:Ts.length<(Ts++[s]).length):(Ts++[s])[Ts.length]=s:=by simp
theorem aNf (h:fJ w F lb db pre lim ev (Ts++[s]) v FS) (_hd:∀ k,FD k→k<w.heap.size) (hap:∀ k,F k→¬ FD k) {L:List cK} {Bs:List aR} (hs:dT w' F5 s.sb db s.nm s.base ev L) (hl:gJ L Bs)
  (hM:aP (fun k=>FS Ts.length k∨FD k) (fun k=>F5 k∨FD' k) w w') (hap':∀ k,F5 k→¬ FD' k) (hlt':∀ k,F5 k→k<w'.heap.size) :
  fN w' (fun k=>F5 k∨F k∧¬ FS Ts.length k) lb db pre lim ev (Ts++[⟨s.sb,s.nm,s.base,Bs⟩])∧(∀ k,(F5 k∨F k∧¬ FS Ts.length k)→¬ FD' k)∧
   aP (fun k=>F k∨FD k) (fun k=>(F5 k∨F k∧¬ FS Ts.length k)∨FD' k) w w':=by
 have hm:Ts.length<(Ts++[s]).length:=aK
 have hFm:∀ k,FS Ts.length k→F k:=h.own.2.2 Ts.length hm
 have hst:∀ k,F k→¬ FS Ts.length k→¬ (FS Ts.length k∨FD k):=fun k e n q=>q.elim n (hap k e)
 have h5:∀ k,k<w.heap.size→F k→¬ FS Ts.length k→¬ F5 k:=fun k hk e n q=>(hM.grows k (.inl q)).elim (hst k e n) (fun h=>by omega)
 have hD5:∀ k,F k→¬ FS Ts.length k→¬ FD' k:=fun k e n q=>(hM.grows k (.inr q)).elim (hst k e n) (fun h1=>by have:=h.lt k e;omega)
 refine ⟨⟨v,fun i=>if i=Ts.length then F5 else FS i,?_,?_,?_,⟨.inr ⟨h.own.1,h.ne1.2 _ hm⟩,fun k e=>.inr ⟨h.own.2.1 k e,h.ne2 k e _ hm⟩,?_⟩,⟨h.ne1.1,?_⟩,?_,?_,?_,by have:=h.few;simpa using this⟩,?_,?_⟩
 ·exact (hM.keeps.block lb (aC h.blk) (hst _ h.own.1 (h.ne1.2 _ hm))).trans h.blk
 ·have hr:=fS h.row hM.keeps (fun g e=>hst g (h.own.2.1 g e) (h.ne2 g e _ hm))
  have e1:(Ts++[(⟨s.sb,s.nm,s.base,Bs⟩:fO)]).map mM=(Ts++[s]).map mM:=by simp [mM]
  have e2:(Ts++[(⟨s.sb,s.nm,s.base,Bs⟩:fO)]).length=(Ts++[s]).length:=aK
  rw [e1,e2]
  exact hr
 ·intro i hi
  have hi':i<(Ts++[s]).length:=(by simpa using hi)
  by_cases hin:i=Ts.length
  ·subst hin
   rw [if_pos rfl,dV]
   exact ⟨L,hs,hl⟩
  ·rw [if_neg hin]
   have hlt:i<Ts.length:=by simp at hi';omega
   obtain ⟨L',h1,h2⟩:=h.segs i hi'
   have e1:(Ts++[s])[i]=Ts[i]:=List.getElem_append_left hlt
   have e2:(Ts++[(⟨s.sb,s.nm,s.base,Bs⟩:fO)])[i]=Ts[i]:=List.getElem_append_left hlt
   rw [e1] at h1 h2
   rw [e2]
   exact ⟨L',h1.keep hM.keeps (fun j e=>hst j (h.own.2.2 i hi' j e) (h.ne3 i _ hi' hm hin j e)),h2⟩
 ·intro i hi k e
  have hi':i<(Ts++[s]).length:=(by simpa using hi)
  try dsimp only at e
  split at e
  ·exact .inl e
  ·rename_i hin;exact .inr ⟨h.own.2.2 i hi' k e,h.ne3 i _ hi' hm hin k e⟩
 ·intro i hi e
  have hi':i<(Ts++[s]).length:=(by simpa using hi)
  try dsimp only at e
  split at e
  ·exact h5 lb (aC h.blk) h.own.1 (h.ne1.2 _ hm) e
  ·exact h.ne1.2 i hi' e
 ·intro k hk i hi e
  have hi':i<(Ts++[s]).length:=(by simpa using hi)
  try dsimp only at e
  split at e
  ·exact h5 k (h.lt k (h.own.2.1 k hk)) (h.own.2.1 k hk) (h.ne2 k hk _ hm) e
  ·exact h.ne2 k hk i hi' e
 ·intro i j hi hj hij k e e2
  have hi':i<(Ts++[s]).length:=(by simpa using hi)
  have hj':j<(Ts++[s]).length:=(by simpa using hj)
  try dsimp only at e e2
  split at e
  ·rename_i h1
   split at e2
   ·rename_i h2;exact hij (h1.trans h2.symm)
   ·rename_i h2
    exact h5 k (h.lt k (h.own.2.2 j hj' k e2)) (h.own.2.2 j hj' k e2) (h.ne3 j _ hj' hm h2 k e2) e
  ·rename_i h1
   split at e2
   ·exact h5 k (h.lt k (h.own.2.2 i hi' k e)) (h.own.2.2 i hi' k e) (h.ne3 i _ hi' hm h1 k e) e2
   ·exact h.ne3 i j hi' hj' hij k e e2
 ·intro k e
  rcases e with e | e
  ·exact hlt' k e
  ·exact Nat.lt_of_lt_of_le (h.lt k e.1) hM.keeps.size
 ·intro k e
  rcases e with e | e
  ·exact hap' k e
  ·exact hD5 k e.1 e.2
 ·refine ⟨hM.keeps.mono (fun k _ e=>e.imp (hFm k) id),fun k e=>?_⟩
  rcases e with (e | e) | e
  ·exact (hM.grows k (.inl e)).imp (fun q=>q.imp (hFm k) id) id
  ·exact .inl (.inl e.1)
  ·exact (hM.grows k (.inr e)).imp (fun q=>q.imp (hFm k) id) id
end
structure xC (Bs:List aR) (base lim ev:Int) (b:aR):Prop where
 ok:dH b
 rise:mC base (Bs++[b])
 le:b.base≤1000
 pos:((bN Bs).size:Int)<ev
 evs:ev≤1000
 len:Bs.length≤1000
def iN (w:World) (F FD:Nat→Prop) (lb db:Nat) (pre:ByteArray) (lim ev:Int) (Ss:List fO) (D:Dsk.aS) (w':World):Prop:=
 ∃ F' FD',fN w' F' lb db pre lim ev Ss∧aU w' FD' db D∧(∀ k,F' k→¬ FD' k)∧aP (fun k=>F k∨FD k) (fun k=>F' k∨FD' k) w w'
theorem tI {w:World} {F FD D0:Nat→Prop} {lb db:Nat} {pre:ByteArray} {lim ev:Int} {Ts:List fO} {s:fO} {v:Value} {FS:Nat→Nat→Prop} {D:Dsk.aS} (h:fJ w F lb db pre lim ev (Ts++[s]) v FS) (hd:aU w FD db D) (hap:∀ k,F k→¬ FD k) (wf:Dsk.fV D)
  {b:aR} {a:Option Addr} {cap:Nat} (hb:dN D0 w b a cap) (hfew:oC b a cap) (hp:xC s.Bs s.base lim ev b) (hst:bF w) (hFD0:¬ FD 0) (hD0:∀ j,D0 j→¬ FD j) (hde:Dsk.fQ D s.nm (aZ b)=0) :
  Calls Tryz.prog 217 #[mM s,.agg #[.int .i64 b.base,.int .i64 b.span,.int .i64 b.prod,.int .i64 b.epoch,.int .i64 b.seq,.slice a b.recs.length cap]] w fun e w'=>e=.returned (.int .i64 0)∧iN w F FD lb db pre lim ev (Ts++[⟨s.sb,s.nm,s.base,s.Bs++[b]⟩]) (Dsk.cL D s.nm (aZ b)) w':=by
 have hm:Ts.length<(Ts++[s]).length:=aK
 obtain ⟨L,hs,hl⟩:=h.segs Ts.length hm
 rw [dV] at hs hl
 have hr:=(mC.app.1 hp.rise).2
 refine (aFc hs hd (fun k e=>hap k (h.own.2.2 _ hm k e)) wf hb hfew hp.ok hst hFD0 hD0 (by rw [hl.end_];exact hr.1) hde hp.le (by rw [hl.size];exact hp.pos) hp.evs (fun a cap=>hl.follows hp.rise a cap _) (by rw [hl.len];exact hp.len)).mono ?_
 rintro e w' ⟨rfl,F5,FD',a',cap',q1,q2,q3,q4⟩
 obtain ⟨g1,g2,g3⟩:=aNf h hd.lt hap q1 (hl.snoc b a' cap') q4 q3 q1.lt
 exact ⟨rfl,_,FD',g1,q2,g2,g3⟩
theorem aEy {w:World} {F FD D0:Nat→Prop} {lb db:Nat} {pre:ByteArray} {lim ev:Int} {Ts:List fO} {sb:Nat} {nm:ByteArray} {sbase:Int} {Bs:List aR} {v:Value} {FS:Nat→Nat→Prop} {D:Dsk.aS} (h:fJ w F lb db pre lim ev (Ts++[⟨sb,nm,sbase,Bs⟩]) v FS) (hd:aU w FD db D) (hap:∀ k,F k→¬ FD k) (wf:Dsk.fV D)
  {b:aR} {a:Option Addr} {cap:Nat} (hb:dN D0 w b a cap) (hfew:oC b a cap) (hp:xC Bs sbase lim ev b) (hst:bF w) (hFD0:¬ FD 0) (hD0:∀ j,D0 j→¬ FD j) (hde:Dsk.fQ D nm (aZ b)=0) (hwfa:Dsk.fV (Dsk.cL D nm (aZ b))) (hfe:Dsk.bJ (Dsk.cL D nm (aZ b)) nm=0∨Dsk.bJ (Dsk.cL D nm (aZ b)) nm=6)
  (hbase:fL sbase Bs=b.base) (hsz:((bN Bs).size:Int)<lim) :
  Calls Tryz.prog 143 #[.pointer (some ⟨lb,0,none⟩),.agg #[.int .i64 b.base,.int .i64 b.span,.int .i64 b.prod,.int .i64 b.epoch,.int .i64 b.seq,.slice a b.recs.length cap],.bool true] w fun e w'=>e=.returned (.tuple #[.int .i64 b.base,.int .i64 0])∧iN w F FD lb db pre lim ev (Ts++[⟨sb,nm,sbase,Bs++[b]⟩]) (Dsk.dJ (Dsk.cL D nm (aZ b)) nm) w':=by
 have HH:=Lib.hid h
 have HD:=Lib.hid hd
 have HB:=Lib.hid hb
 have HFEW:=Lib.hid hfew
 have HAPH:=Lib.hid hap
 have HWFH:=Lib.hid wf
 have HPH:Hid (xC (⟨sb,nm,sbase,Bs⟩:fO).Bs sbase lim ev b):=hp
 have HST:=Lib.hid hst
 have HFD0:=Lib.hid hFD0
 have HD0H:=Lib.hid hD0
 have HDEH:=Lib.hid hde
 have HFEH:=Lib.hid hfe
 have HWFA:=Lib.hid hwfa
 have HEND:Hid (∀ wx,K0 w wx→Calls Tryz.prog 142 #[.pointer (some ⟨lb,0,none⟩)] wx fun e w'=>e=.returned (.int .i64 b.base)∧K0 wx w'):=fun wx k=>by
  have h1:=mK (HH.out.keep k (fun _ _ e=>e)) Ts.length aK
  rw [dV,hbase] at h1
  exact h1
 have HLAST:Hid (∀ wx,K0 w wx→Calls Tryz.prog 210 #[.pointer (some ⟨lb,0,none⟩)] wx fun e w'=>e=.returned (.pointer (some ⟨sb,0,none⟩))∧K0 wx w'):=fun wx k=>by
  have h1:=fX (HH.out.keep k (fun _ _ e=>e)) Ts.length aK
  rw [dV] at h1
  exact h1
 have HSIZ:Hid (∀ wx,K0 w wx→Calls Tryz.prog 213 #[.pointer (some ⟨sb,0,none⟩)] wx fun e w'=>e=.returned (.int .i64 ((bN Bs).size:Nat))∧w'=wx):=fun wx k=>by
  obtain ⟨L,h1,h2⟩:=HH.out.segs Ts.length aK
  rw [dV] at h1 h2
  have h3:=aBm (h1.k0 k)
  rw [h2.size] at h3
  exact h3
 clear h hd hap wf hb hfew hst hFD0 hD0 hde hfe hwfa hbase
 have HCHK:Hid (∀ wx,K0 w wx→Calls Tryz.prog 212 #[.agg #[.int .i64 b.base,.int .i64 b.span,.int .i64 b.prod,.int .i64 b.epoch,.int .i64 b.seq,.slice a b.recs.length cap]] wx fun e w'=>e=.returned (.int .i64 0)∧K0 wx w'):=fun wx k=>rE D0 b a cap wx (HB.out.keep0 k).at_ hp.ok
 go_enter Tryz.func143,Tryz.ntmps143
 go_wp2_with fail
 refine (HEND.out _ ((aD.refl _ _).alloc _)).mono ?_
 rintro e w1 ⟨rfl,k1⟩
 have b1:w1.heap[w.heap.size]?=some (.cells #[.int .i64 b.base,.int .i64 b.span,.int .i64 b.prod,.int .i64 b.epoch,.int .i64 b.seq,.slice a b.recs.length cap] 39 (0,0)):=(k1.block _ aK (fun e=>e)).trans (aI w _ _ rfl)
 have hk1:K0 w w1:=K0.tr ((aD.refl (fun _=>False) w).alloc _) k1
 have g0:=aB b1 0
 have g1:=aH b1 0
 have B1:=Lib.hid b1
 have HK1:=Lib.hid hk1
 clear b1 k1 hk1
 go_upto_region 2 with fail
 obtain ⟨W1,hW1⟩:∃ W1,W1=w1.setCell ⟨w.heap.size,0,none⟩ (.int .i64 b.base):=⟨_,rfl⟩
 rw [← hW1]
 have b2:W1.heap[w.heap.size]?=some (.cells #[.int .i64 b.base,.int .i64 b.span,.int .i64 b.prod,.int .i64 b.epoch,.int .i64 b.seq,.slice a b.recs.length cap] 39 (0,0)):=(by rw [hW1];exact aM B1.out 0 _)
 have HK2:Hid (K0 w W1):=(by rw [hW1];exact HK1.out.setC 0 _ (fun h=>absurd h (Nat.lt_irrefl _)))
 clear hW1 g0 g1 B1 HK1
 have d0:W1.cell? ⟨w.heap.size,0,none⟩=some (.int .i64 b.base):=aB b2 0
 have d1:W1.cell? ⟨w.heap.size,1,none⟩=some (.int .i64 b.span):=aB b2 1
 have d2:W1.cell? ⟨w.heap.size,2,none⟩=some (.int .i64 b.prod):=aB b2 2
 have d3:W1.cell? ⟨w.heap.size,3,none⟩=some (.int .i64 b.epoch):=aB b2 3
 have d4:W1.cell? ⟨w.heap.size,4,none⟩=some (.int .i64 b.seq):=aB b2 4
 have d5:W1.cell? ⟨w.heap.size,5,none⟩=some (.slice a b.recs.length cap):=aB b2 5
 have hl1:=aC b2
 have HB2:=Lib.hid b2
 clear b2
 go_wp2_with fail
 refine (HCHK.out _ HK2.out).mono ?_
 rintro e w2 ⟨rfl,k2⟩
 have HB3:Hid (w2.heap[w.heap.size]?=some (.cells #[.int .i64 b.base,.int .i64 b.span,.int .i64 b.prod,.int .i64 b.epoch,.int .i64 b.seq,.slice a b.recs.length cap] 39 (0,0))):=(k2.block _ hl1 (fun e=>e)).trans HB2.out
 have HK3:Hid (K0 w w2):=K0.tr HK2.out k2
 clear d0 d1 d2 d3 d4 d5 k2 hl1 HB2 HK2
 go_wp2_with fail
 refine (HLAST.out _ HK3.out).mono ?_
 rintro e w3 ⟨rfl,k3⟩
 have HB4:Hid (w3.heap[w.heap.size]?=some (.cells #[.int .i64 b.base,.int .i64 b.span,.int .i64 b.prod,.int .i64 b.epoch,.int .i64 b.seq,.slice a b.recs.length cap] 39 (0,0))):=(k3.block _ (aC HB3.out) (fun e=>e)).trans HB3.out
 have HK4':Hid (K0 w w3):=K0.tr HK3.out k3
 clear k3 HB3 HK3
 go_upto_region 5 with fail
 have hwl:∀ k,F k∨FD k→k<w.heap.size:=fun k e=>e.elim (HH.out.lt k) (HD.out.lt k)
 have HX4:Hid (w.heap.size<w3.heap.size∧¬ F w.heap.size∧¬ FD w.heap.size):=⟨aC HB4.out,fun e=>Nat.lt_irrefl _ (hwl _ (.inl e)),fun e=>Nat.lt_irrefl _ (hwl _ (.inr e))⟩
 have c1:w3.cell? ⟨lb,1,none⟩=some (.int .i64 lim):=HK4'.out.cell' HH.out.cells.2.1 (fun e=>e)
 have lt:lb<w3.heap.size:=Nat.lt_of_lt_of_le HH.out.cells.2.2.2.2.2.2 HK4'.out.size
 have HSZ3:Hid (∀ wx,K0 w3 wx→Calls Tryz.prog 213 #[.pointer (some ⟨sb,0,none⟩)] wx fun e w'=>e=.returned (.int .i64 ((bN Bs).size:Nat))∧w'=wx):=fun wx k=>HSIZ.out wx (K0.tr HK4'.out k)
 generalize (bN Bs).size=z at hsz HSZ3
 have j1:¬ lim≤(z:Int):=aA
 have j2:decide (lim≤(z:Int))=false:=decide_eq_false j1
 clear HSIZ HLAST HEND HCHK hwl
 go_quiet ((go_at_call 213;exact Calls.quiet_of_same (HSZ3.out _ ((aD.refl _ _).drewN _))))
 clear j1 j2 hsz HSZ3
 obtain ⟨WH,hWH⟩:∃ W,W=w3.drewN nq:=⟨_,rfl⟩
 rw [← hWH]
 have k34:K0 w3 WH:=by rw [hWH];exact (aD.refl _ _).drewN _
 clear hWH
 have HK4:Hid (K0 w WH):=K0.tr HK4'.out k34
 have HXH:Hid (fJ WH F lb db pre lim ev (Ts++[⟨sb,nm,sbase,Bs⟩]) v FS):=HH.out.keep HK4.out (fun _ _ e=>e)
 have HDH:Hid (aU WH FD db D):=HD.out.k0 HK4.out
 have HBH:Hid (dN D0 WH b a cap):=HB.out.keep0 HK4.out
 have HSTH:Hid (bF WH):=HST.out.keep0 HK4.out
 have bx:=(k34.block _ (aC HB4.out) (fun e=>e)).trans HB4.out
 have HX4:Hid (w.heap.size<WH.heap.size∧¬ F w.heap.size∧¬ FD w.heap.size):=⟨Nat.lt_of_lt_of_le HX4.out.1 k34.size,HX4.out.2⟩
 have HMH:Hid (aP (fun k=>F k∨FD k) (fun k=>F k∨FD k) WH WH):=aP.refl _ _
 have e0:WH.cell? ⟨w.heap.size,0,none⟩=some (.int .i64 b.base):=aB bx 0
 have e1:WH.cell? ⟨w.heap.size,1,none⟩=some (.int .i64 b.span):=aB bx 1
 have e2:WH.cell? ⟨w.heap.size,2,none⟩=some (.int .i64 b.prod):=aB bx 2
 have e3:WH.cell? ⟨w.heap.size,3,none⟩=some (.int .i64 b.epoch):=aB bx 3
 have e4:WH.cell? ⟨w.heap.size,4,none⟩=some (.int .i64 b.seq):=aB bx 4
 have e5':WH.cell? ⟨w.heap.size,5,none⟩=some (.slice a b.recs.length cap):=aB bx 5
 clear bx k34 HB4 HK4'
 have HL2:Hid (∀ wx,K0 WH wx→Calls Tryz.prog 210 #[.pointer (some ⟨lb,0,none⟩)] wx fun e w'=>e=.returned (.pointer (some ⟨sb,0,none⟩))∧K0 wx w'):=fun wx k=>by
  have h1:=fX (HXH.out.keep k (fun _ _ e=>e)) Ts.length aK
  rw [dV] at h1
  exact h1
 have HAPP:Hid (∀ wx,K0 WH wx→Calls Tryz.prog 217 #[.pointer (some ⟨sb,0,none⟩),.agg #[.int .i64 b.base,.int .i64 b.span,.int .i64 b.prod,.int .i64 b.epoch,.int .i64 b.seq,.slice a b.recs.length cap]] wx fun e w'=>e=.returned (.int .i64 0)∧iN wx F FD lb db pre lim ev (Ts++[⟨sb,nm,sbase,Bs++[b]⟩]) (Dsk.cL D nm (aZ b)) w'):=fun wx k=>
  tI (HXH.out.keep k (fun _ _ e=>e)) (HDH.out.k0 k) HAPH.out HWFH.out (HBH.out.keep0 k) HFEW.out HPH.out (HSTH.out.keep0 k) HFD0.out HD0H.out HDEH.out
 clear c1 lt
 go_upto_region 13 with fail
 obtain ⟨WH',hWH⟩:∃ W',W'=WH:=⟨_,rfl⟩
 clear hWH WH'
 refine aX 3 (fun w'=>w'.cell? ⟨w.heap.size,0,none⟩=some (.int .i64 b.base)∧w'.cell? ⟨w.heap.size,1,none⟩=some (.int .i64 b.span)∧w'.cell? ⟨w.heap.size,2,none⟩=some (.int .i64 b.prod)∧w'.cell? ⟨w.heap.size,3,none⟩=some (.int .i64 b.epoch)∧w'.cell? ⟨w.heap.size,4,none⟩=some (.int .i64 b.seq)∧w'.cell? ⟨w.heap.size,5,none⟩=some (.slice a b.recs.length cap)) (fun _=>True) aF ⟨by go_simp,by go_simp,by go_simp,by go_simp,by go_simp,by go_simp⟩ trivial (fun hS=>?_)
 refine tB 0 hS (fun hS=>?_)
 simp only [Act.put,Sw]
 refine tA 2 hS (fun hS=>?_)
 simp only [Act.put]
 refine tO 1 (fun K hK=>?_)
 go_simp
 refine (HL2.out _ (aD.drew (aD.refl _ _))).mono ?_
 rintro e wa ⟨rfl,ka⟩
 have kWa:K0 WH wa:=K0.tr (aD.drew (aD.refl _ _)) ka
 clear ka
 have HKWA:=Lib.hid kWa
 go_simp
 refine hK.out _ _ ⟨fun _=>⟨by (first | assumption | exact kWa.cell' aG (fun e=>e) | go_simp),by (first | assumption | exact kWa.cell' aG (fun e=>e) | go_simp),by (first | assumption | exact kWa.cell' aG (fun e=>e) | go_simp),by (first | assumption | exact kWa.cell' aG (fun e=>e) | go_simp),by (first | assumption | exact kWa.cell' aG (fun e=>e) | go_simp),by (first | assumption | exact kWa.cell' aG (fun e=>e) | go_simp)⟩,trivial⟩ (fun hS=>?_)
 clear hK K
 try simp only [Act.put,Sw]
 refine tO 3 (fun K hK=>?_)
 go_simp
 ((with_reducible refine Calls.mono (HAPP.out _ ?_) ?_);· exact HKWA.out)
 rintro e w5 ⟨rfl,hA5⟩
 have HA5:=Lib.hid hA5
 clear hA5
 go_simp
 refine hK.out _ _ ⟨fun e=>absurd e aE,trivial⟩ (fun hS=>?_)
 clear hK K
 try simp only [Act.put,Sw]
 refine tO 4 (fun K hK=>?_)
 go_simp
 refine hK.out _ _ ⟨fun e=>absurd e aE,trivial⟩ (fun hS=>?_)
 clear hK K
 try simp only [Act.put,Sw]
 refine bC aF ?_ _
 skip
 obtain ⟨F5,FD5,p1,p2,p3,p4⟩:=HA5.out
 have HP1:=Lib.hid p1
 have HP2:=Lib.hid p2
 have HP3:=Lib.hid p3
 have hx4:=aP.apart HMH.out (G:=fun k=>k=w.heap.size) (fun k e=>e▸⟨HX4.out.1,fun q=>q.elim HX4.out.2.1 HX4.out.2.2⟩) _ rfl
 have hx4':w.heap.size<wa.heap.size∧¬ (F w.heap.size∨FD w.heap.size):=⟨Nat.lt_of_lt_of_le hx4.1 HKWA.out.size,hx4.2⟩
 have hx5:=aP.apart p4 (G:=fun k=>k=w.heap.size) (fun k e=>e▸hx4') _ rfl
 have e5:w5.cell? ⟨w.heap.size,0,none⟩=some (.int .i64 b.base):=p4.keeps.cell' (HKWA.out.cell' e0 (fun e=>e)) hx4'.2
 have HX5:=Lib.hid hx5
 have HM5:=Lib.hid (HMH.out.trans (aP.k0_left HKWA.out p4))
 have HL3:Hid (∀ wx,K0 w5 wx→Calls Tryz.prog 210 #[.pointer (some ⟨lb,0,none⟩)] wx fun e w'=>e=.returned (.pointer (some ⟨sb,0,none⟩))∧K0 wx w'):=fun wx k=>by
  obtain ⟨v',FS',hx⟩:=HP1.out
  have h1:=fX (hx.keep k (fun _ _ e=>e)) Ts.length aK
  rw [dV] at h1
  exact h1
 have HSY:Hid (∀ wx,K0 w5 wx→Calls Tryz.prog 218 #[.pointer (some ⟨sb,0,none⟩)] wx (cZ wx FD5 db (.int .i64 0) (Dsk.dJ (Dsk.cL D nm (aZ b)) nm))):=fun wx k=>by
  obtain ⟨v',FS',hx⟩:=HP1.out
  obtain ⟨L',h1,h2⟩:=hx.segs Ts.length aK
  rw [dV] at h1
  exact pA (h1.k0 k) (HP2.out.k0 k) HWFA.out HFEH.out
 clear p1 p2 p3 p4 e0 e1 e2 e3 e4 e5' hx4 hx4' hx5 HAPP HL2 HA5
 go_wp2_with fail
 refine (HL3.out _ (aD.refl _ _)).mono ?_
 rintro e w6 ⟨rfl,k6⟩
 have HK6:=Lib.hid k6
 have e6:=k6.cell' e5 (fun e=>e)
 clear k6 e5
 go_wp2_with fail
 refine (HSY.out _ HK6.out).mono ?_
 rintro e w7 ⟨rfl,FD7,h7,m7⟩
 have e7:w7.cell? ⟨w.heap.size,0,none⟩=some (.int .i64 b.base):=m7.keeps.cell' e6 (fun e=>HX5.out.2 (.inr e))
 have HFIN:Hid (iN w F FD lb db pre lim ev (Ts++[⟨sb,nm,sbase,Bs++[b]⟩]) (Dsk.dJ (Dsk.cL D nm (aZ b)) nm) w7):=by
  have hm:=aP.k0_left HK6.out m7
  refine ⟨F5,FD7,HP1.out.keep hm.keeps HP3.out,h7,fun k e q=>(hm.grows k q).elim (HP3.out k e) (fun q=>by have:=HP1.out.lt k e;omega),?_⟩
  exact aP.k0_left HK4.out (HM5.out.trans hm.or_right)
 clear h7 m7 e6
 go_wp2_with fail
 go_ret2
 exact ⟨rfl,HFIN.out⟩
end Go.Proofs.YteapahcklcldkaaGreatDoor
