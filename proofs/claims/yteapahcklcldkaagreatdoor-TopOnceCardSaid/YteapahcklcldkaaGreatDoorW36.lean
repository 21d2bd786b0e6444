/-
  The statement is proved: all that it reaches, in parts.
-/
import Derived.Test.YteapahcklcldkaaGreatDoorW35
set_option maxRecDepth 100000
set_option maxHeartbeats 16000000
namespace Go.Proofs.YteapahcklcldkaaGreatDoor
open Go.RowKit Fx
structure zO (D:Dsk.aS) (pre:ByteArray):Prop where
 wf:Dsk.fV D
 fuse:¬ D.fuse=0
 few:D.files.length≤900
 s:Dsk.bJ D (nH pre)=6
 f:Dsk.bJ D (oM pre)=6
 w:Dsk.bJ D (vG pre)=6
 no:∀ s∈Dsk.cR D.files,Lib.hasPrefix s.data.toList (pre++⟨#[45]⟩).data.toList=false
theorem uO (ss:List ByteArray):cU (fun _=>none) ss=[]:=by
 unfold cU
 induction ss with
 | nil=>rfl
 | cons a r ih=>simp
theorem aBe {w:World} {FD:Nat→Prop} {db:Nat} {D:Dsk.aS} (hd:aU w FD db D) (pre:ByteArray) (hf:zO D pre) (hst:bF w) (hn0:¬ FD 0) (lim:Int) (hp:0<pre.size∧pre.size≤20) (hl:50≤lim∧lim≤1000000) :
  Calls Tryz.prog 262 #[.pointer (some ⟨db,0,none⟩),.agg #[.string pre,.int .i64 lim,.int .i64 200]] w fun e w'=>∃ lb,e=.returned (.tuple #[.pointer (some ⟨lb,0,none⟩),.int .i64 0])∧kA FD db D pre lim [] lb w w':=
 aBf hd hf.wf hf.fuse hf.few hst hn0 pre lim hp hl hf.s hf.f hf.w (fun _=>none) (fun s hs=>show ∀ wx,Calls Tryz.prog 369 #[.agg #[.string pre,.int .i64 lim,.int .i64 200],.string s] wx fun e w'=>e=.returned (.tuple #[.int .i64 0,.bool false])∧K0 wx w' from fun wx=>aGb pre s lim 200 wx hp.2 (hf.no s hs)) (fun ss _ _=>by rw [uO];trivial) (fun s n Bs e=>by cases e) [] (fun ss _ _=>uO ss)
theorem aRz (n:Int):Tpc.mS ⟨n,[]⟩ ⟨n,[]⟩:=⟨rfl,fun _=>rfl,by simp [Tpc.gC,Tpc.cR]⟩
theorem aIf (n:Int) (s:ByteArray) (x:Int×Int):Tpc.mS ⟨n,[(s,x)]⟩ ⟨n,[(s,x)]⟩:=⟨rfl,fun _=>rfl,by simp [Tpc.gC,Tpc.cR]⟩
theorem aU1:Tpc.tS ⟨0,[]⟩:=⟨by simp [KD],by decide,by decide,fun s x e=>(by cases e),fun s s' x x' e=>(by cases e)⟩
theorem aL7 (s:ByteArray) (hs:1≤s.size∧s.size≤100):Tpc.tS ⟨1,[(s,((0:Int),(1:Int)))]⟩:=by
 refine ⟨by simp [KD],⟨by show (0:Int)≤1;decide,by show (1:Int)≤1073741824;decide⟩,by simp,fun t x e=>?_,fun t t' x x' e e' hn=>?_⟩
 ·by_cases h:s=t
  ·subst h
   have:x=((0:Int),(1:Int)):=by simpa [aQ] using e.symm
   subst this
   exact ⟨by decide,by show (0:Int)<1;decide,by decide,by decide,hs.1,hs.2⟩
  ·simp [aQ,h] at e
 ·by_cases h:s=t
  ·by_cases h':s=t'
   ·exact absurd (h.symm.trans h') hn
   ·simp [aQ,h'] at e'
  ·simp [aQ,h] at e
theorem aD7 (s:ByteArray) (hs:1≤s.size∧s.size≤100):Tpc.gG.create ⟨0,[]⟩ s 1=(0,0,⟨1,[(s,((0:Int),(1:Int)))]⟩):=by
 unfold Tpc.gG.create
 rw [if_neg aA]
 rfl
theorem aQd:aSw []:=⟨fun f h=>(by cases h),fun f h=>(by cases h),fun f h=>(by cases h),fun f h=>(by cases h),by decide⟩
theorem aIa {w:World} {F:Nat→Prop} {stb db:Nat} {lim nx:Int} {D:Dsk.aS} {s:ByteArray} (h:qF w F stb db lim nx 0 D) (hs:1≤s.size∧s.size≤100) (hn:0≤nx∧nx≤1073741824) (hl:50≤lim∧lim≤1000000) (hst:bF w) (hF0:¬ F 0)
  (hm:aIt D (mI nx ⟨1,[(s,((0:Int),(1:Int)))]⟩)) (hf:zO (sA D (mI nx ⟨1,[(s,((0:Int),(1:Int)))]⟩)) (fE 0 0)) (_hz:(qJ 0).size≤10) (hz2:(qJ 0).size≤10∧0<(fE 0 0).size∧(fE 0 0).size≤20) :
  Calls Tryz.prog 68 #[.pointer (some ⟨stb,0,none⟩),.string s,.int .i64 1] w fun e w'=>e=.returned (.tuple #[.int .i64 0,.int .i64 0])∧∃ F',rX w' F' stb db lim nx 1 s 0 (sA D (mI nx ⟨1,[(s,((0:Int),(1:Int)))]⟩)) [] []∧aP F F' w w':=by
 obtain ⟨tb,tm,pm,v5,cb,FD,hx⟩:=h
 have hb:w.heap[stb]?=some (.cells #[.pointer (some ⟨db,0,none⟩),.int .i64 lim,.int .i64 nx,.pointer (some ⟨tb,0,none⟩),.map (some pm),v5,.pointer (some ⟨cb,0,none⟩)] 264 (0,0)):=hx.blk
 have HX:=Lib.hid hx
 have HB:=Lib.hid hb
 have HM:=Lib.hid hm
 have HF:=Lib.hid hf
 have HST:=Lib.hid hst
 have HF0:=Lib.hid hF0
 have HCP:=Lib.hid (aIc (aB hb 3) hx.tab (aRz 0) aU1)
 have HNN:=Lib.hid hn
 have HLL:=Lib.hid hl
 have HZ2:=Lib.hid hz2
 have HSS:=Lib.hid hs
 clear hx hb hm hf hst hF0 hn hl _hz hz2 hs
 obtain ⟨D2,hD2⟩:∃ D2,D2=sA D (mI nx ⟨1,[(s,((0:Int),(1:Int)))]⟩):=⟨_,rfl⟩
 rw [← hD2] at HF ⊢
 have HD2:=Lib.hid hD2
 clear hD2
 go_enter Tryz.func68,Tryz.ntmps68
 go_wp2_with fail
 refine HCP.out.mono ?_
 rintro e w1 ⟨tb2,tm2,rfl,ht1,hz1,hz2,k1⟩
 have HCR:=Lib.hid (Tpc.aM2 tb2 tm2 ⟨0,[]⟩ s 1 w1 ht1 aE)
 rw [aD7 s HSS.out] at HCR
 have HZ:=Lib.hid (And.intro hz1 hz2)
 have HK1:=Lib.hid k1
 clear ht1 hz1 hz2 k1
 go_wp2_with fail
 refine HCR.out.mono ?_
 rintro e w2 ⟨rfl,ht2,k2⟩
 have HT2:=Lib.hid ht2
 have HK2:Hid (K0 w w2):=(HK1.out.trans k2 (fun j hj e=>by have:=HZ.out;rcases e with e | e <;> omega))
 have hb2:w2.heap[stb]?=some (.cells #[.pointer (some ⟨db,0,none⟩),.int .i64 lim,.int .i64 nx,.pointer (some ⟨tb,0,none⟩),.map (some pm),v5,.pointer (some ⟨cb,0,none⟩)] 264 (0,0)):=(HK2.out.block _ (aC HB.out) (fun e=>e)).trans HB.out
 have c2:w2.cell? ⟨stb,2,none⟩=some (.int .i64 nx):=aB hb2 2
 have sl2:stb<w2.heap.size:=aC hb2
 have hFl:∀ j,FD j→j<w.heap.size:=HX.out.disk.lt
 have HFN:Hid (∀ {j:Nat},w.heap.size≤j→¬ FD j):=fun {j} hj e=>by have:=hFl j e;omega
 have HWR:=Lib.hid (aKv (aB hb2 0) (HX.out.disk.k0 HK2.out) HX.out.nd.1 ⟨HFN.out HZ.out.1,HFN.out HZ.out.2⟩ HNN.out ht2 (aIf 1 s (0,1)) (aL7 s HSS.out) HM.out)
 rw [← HD2.out] at HWR
 have HB2:=Lib.hid hb2
 clear ht2 k2 hFl hb2
 go_wp2_with fail
 refine HWR.out.mono ?_
 rintro e w3 ⟨rfl,FD3,hd3,hm3⟩
 have HD3:=Lib.hid hd3
 have HM23:=Lib.hid hm3
 have HTL:Hid (tb2<w2.heap.size∧tm2<w2.heap.size):=⟨HT2.out.lt,HT2.out.map.lt⟩
 have HM3:Hid (aP FD FD3 w w3):=aP.k0_left HK2.out hm3
 have hb3:w3.heap[stb]?=some (.cells #[.pointer (some ⟨db,0,none⟩),.int .i64 lim,.int .i64 nx,.pointer (some ⟨tb,0,none⟩),.map (some pm),v5,.pointer (some ⟨cb,0,none⟩)] 264 (0,0)):=(hm3.keeps.block _ sl2 HX.out.nd.1).trans HB2.out
 have HB3:=Lib.hid hb3
 have HT3:Hid (Tpc.cP w3 tb2 tm2 ⟨1,[(s,((0:Int),(1:Int)))]⟩):=HT2.out.keep hm3.keeps (HFN.out HZ.out.1) (HFN.out HZ.out.2)
 have c3:w3.cell? ⟨stb,3,none⟩=some (.pointer (some ⟨tb,0,none⟩)):=aB hb3 3
 have f3:w3.frozen? ⟨stb,3,none⟩=false:=aH hb3 3
 have sl3:stb<w3.heap.size:=aC hb3
 clear hd3 hm3 hb3 c2 sl2
 go_wp2_with fail
 obtain ⟨W,hW⟩:∃ W,W=w3.setCell ⟨stb,3,none⟩ (.pointer (some ⟨tb2,0,none⟩)):=⟨_,rfl⟩
 rw [← hW]
 have KW:aD (fun j=>j=stb) w3 W:=by rw [hW];exact (aD.refl (fun j=>j=stb) w3).setC 3 _ (fun _=>rfl)
 have hbW:W.heap[stb]?=some (.cells #[.pointer (some ⟨db,0,none⟩),.int .i64 lim,.int .i64 nx,.pointer (some ⟨tb2,0,none⟩),.map (some pm),v5,.pointer (some ⟨cb,0,none⟩)] 264 (0,0)):=by rw [hW];exact aM HB3.out 3 _
 have HBW:=Lib.hid hbW
 have hap:∀ {k:Nat},k<w.heap.size→¬ FD k→¬ FD3 k:=fun {k} hk hn=>(HM3.out.apart (G:=fun j=>j=k) (fun j e=>⟨e▸hk,fun q=>hn (e▸q)⟩) k rfl).2
 have HAP:Hid (∀ {k:Nat},k<w.heap.size→¬ FD k→¬ FD3 k):=@hap
 have hsw:stb<w.heap.size:=aC HB.out
 have hdW:aU W FD3 db D2:=HD3.out.keep KW (fun j e q=>hap hsw HX.out.nd.1 ((show j=stb from q)▸e))
 have HDW:=Lib.hid hdW
 have hmW:bM gX.enc W pm []:=(HX.out.map.keep HM3.out.keeps HX.out.nd.2.2.2).keep KW HX.out.ne.2.2.1
 have HTW:Hid (Tpc.cP W tb2 tm2 ⟨1,[(s,((0:Int),(1:Int)))]⟩):=HT3.out.keep KW (fun e=>by have:=HZ.out;have:tb2=stb:=e;omega) (fun e=>by have:=HZ.out;have:tm2=stb:=e;omega)
 have h0w:0<w.heap.size:=World.block_lt_of_cell? w _ (HST.out 0 aA)
 have h0F:¬ FD 0:=fun e=>HF0.out (HX.out.own.2.2.2.2.1 0 e)
 have h0s:¬ (0=stb):=fun e=>HF0.out (e▸HX.out.own.1)
 have hstW:bF W:=(HST.out.keep HM3.out.keeps h0F).keep KW h0s
 have hKW:aD (fun j=>FD j∨j=stb) w W:=(HM3.out.keeps.mono (S1:=fun j=>FD j∨j=stb) (fun _ _ e=>.inl e)).trans KW (fun _ _ e=>.inr e)
 have HKW:=Lib.hid hKW
 have HKW3:Hid (w3.heap.size≤W.heap.size):=KW.size
 have HOP:=Lib.hid (uZ (id:=0) (ix:=0) (fs:=[]) (aB hbW 0) (aB hbW 1) (aB hbW 4) hmW (hap HX.out.map.lt HX.out.nd.2.2.2) (hap hsw HX.out.nd.1) hdW.lt (fun wx=>qZ 0 0 aA aA ⟨HZ2.out.1,HZ2.out.1⟩ wx) (fun wx k=>aBe (hdW.k0 k) (fE 0 0) HF.out (hstW.keep0 k) (hap h0w h0F) lim HZ2.out.2 HLL.out) aQd)
 have slW:stb<W.heap.size:=aC hbW
 clear hW KW hbW hdW hmW hstW hKW hap c3 f3 sl3 h0w h0F h0s
 refine wp_loop_rounds 2 ?_
 rw [rounds_succ]
 go_wp2_with fail
 refine HOP.out.mono ?_
 rintro e w5 ⟨rfl,hp⟩
 have HP:=Lib.hid hp
 clear hp
 go_wp2_with fail
 rw [rounds_succ]
 go_wp2_with fail
 go_ret2
 obtain ⟨pb,FQ,FD5,Ss,q1,q2,q3,q4,q5,q6,q7,q8⟩:=HP.out
 have hss:Ss=[]:=List.map_eq_nil_iff.1 q2
 subst hss
 have hz:=HZ.out
 have htl:=HTL.out
 have k2s:=HK2.out.size
 have k3s:=HM23.out.keeps.size
 have kWs:=HKW.out.size
 have hWs:w3.heap.size≤W.heap.size:=HKW3.out
 have hpw:=HX.out.map.lt
 have hne:=HX.out.ne
 have n3s:¬ FD3 stb:=HAP.out hsw HX.out.nd.1
 have n3t:¬ FD3 tb2:=fun e=>(HM23.out.grows _ e).elim (HFN.out hz.1) (fun h=>by omega)
 have n3m:¬ FD3 tm2:=fun e=>(HM23.out.grows _ e).elim (HFN.out hz.2) (fun h=>by omega)
 have n5:∀ {j:Nat},¬ FD3 j→j≠pm→j<W.heap.size→¬ FD5 j:=fun {j} h1 h2 h3 e=>(q5.grows j (.inl (.inl e))).elim (fun h=>h.elim h1 h2) (fun h=>by omega)
 have nk:∀ {j:Nat},¬ FD3 j→j≠pm→¬ (FD3 j∨j=pm):=fun {j} h1 h2 e=>e.elim h1 h2
 have hl5:=q5.keeps.size
 refine ⟨rfl,fun j=>FD5 j∨FQ j∨j=stb∨j=tb2∨j=tm2∨j=pm,⟨tb2,tm2,pm,v5,cb,FD5,FQ,pb,⟨?_,HTW.out.keep q5.keeps (nk n3t aA) (nk n3m aA),q4,q3,⟨by omega,by omega,hne.2.2.1,by omega,by omega⟩,⟨n5 n3s (Ne.symm hne.2.2.1) aA,n5 n3t aA aA,n5 n3m aA aA,q8⟩,⟨fun e=>by have:=q6 _ e;omega,fun e=>by have:=q6 _ e;omega,fun e=>by have:=q6 _ e;omega,fun e=>by have:=q6 _ e;omega⟩,q7,⟨.inr (.inr (.inl rfl)),.inr (.inr (.inr (.inl rfl))),.inr (.inr (.inr (.inr (.inl rfl)))),.inr (.inr (.inr (.inr (.inr rfl)))),fun _ e=>.inl e,fun _ e=>.inr (.inl e)⟩,?_⟩,q1⟩,?_,?_⟩
 ·exact (q5.keeps.block _ (aC HBW.out) (nk n3s (Ne.symm hne.2.2.1))).trans HBW.out
 ·intro j e
  rcases e with e | e | e | e | e | e
  ·exact q3.lt j e
  ·exact q1.lt j e
  ·omega
  ·omega
  ·omega
  ·omega
 ·have hown:=HX.out.own
  refine (HKW.out.mono (S1:=F) (fun j _ e=>e.elim (hown.2.2.2.2.1 j) (fun e=>e▸hown.1))).trans q5.keeps (fun j hj e=>?_)
  rcases e with e | e
  ·exact (HM3.out.grows j e).elim (hown.2.2.2.2.1 j) (fun h=>by omega)
  ·exact e▸hown.2.2.2.1
 ·have hown:=HX.out.own
  intro j e
  rcases e with e | e | e | e | e | e
  ·rcases q5.grows j (.inl (.inl e)) with (h | h) | h
   ·exact (HM3.out.grows j h).imp (hown.2.2.2.2.1 j) (fun h=>h)
   ·exact .inl (h▸hown.2.2.2.1)
   ·exact .inr aA
  ·exact .inr (by have:=q6 _ e;omega)
  ·exact .inl (e▸hown.1)
  ·exact .inr aA
  ·exact .inr aA
  ·exact .inl (e▸hown.2.2.2.1)
structure aK5 (pre:ByteArray) (lim ev:Int) (D:Dsk.aS) (b:aR):Prop where
 wf:Dsk.fV D
 put:xC [] b.base lim ev b
 app:Dsk.fQ D (bB pre b.base.toNat) (aZ b)=0
 wfa:Dsk.fV (Dsk.cL D (bB pre b.base.toNat) (aZ b))
 is:Dsk.bJ (Dsk.cL D (bB pre b.base.toNat) (aZ b)) (bB pre b.base.toNat)=0∨Dsk.bJ (Dsk.cL D (bB pre b.base.toNat) (aZ b)) (bB pre b.base.toNat)=6
 new:Dsk.bJ D (bB pre b.base.toNat)=6
 rd:Dsk.jM D (bB pre b.base.toNat)=⟨#[]⟩
def yL (D:Dsk.aS) (nm:ByteArray) (b:aR):Dsk.aS:=Dsk.dJ (Dsk.cL D nm (aZ b)) nm
inductive LogPut (pre:ByteArray) (lim ev:Int) (D:Dsk.aS) (b:aR):List aY→Dsk.aS→List aY→Prop where
 | last (fs:List aY) (f:aY) (put:xC f.Bs f.base lim ev b) (end_:fL f.base f.Bs=b.base) (size:((bN f.Bs).size:Int)<lim) (wf:Dsk.fV D) (app:Dsk.fQ D f.nm (aZ b)=0) (wfa:Dsk.fV (Dsk.cL D f.nm (aZ b)))
   (is:Dsk.bJ (Dsk.cL D f.nm (aZ b)) f.nm=0∨Dsk.bJ (Dsk.cL D f.nm (aZ b)) f.nm=6):LogPut pre lim ev D b (fs++[f]) (yL D f.nm b) (fs++[⟨f.nm,f.base,f.Bs++[b]⟩])
 | none (zero:b.base=0) (new:aK5 pre lim ev D b):LogPut pre lim ev D b [] (yL D (bB pre b.base.toNat) b) [⟨bB pre b.base.toNat,b.base,[b]⟩]
 | full (fs:List aY) (f:aY) (end_:fL f.base f.Bs=b.base) (size:lim≤((bN f.Bs).size:Int)) (wf:Dsk.fV D) (is:Dsk.bJ D f.nm=0∨Dsk.bJ D f.nm=6) (new:aK5 pre lim ev (Dsk.dJ D f.nm) b) :
   LogPut pre lim ev D b (fs++[f]) (yL (Dsk.dJ D f.nm) (bB pre b.base.toNat) b) ((fs++[f])++[⟨bB pre b.base.toNat,b.base,[b]⟩])
theorem uT {Ss:List fO} {fs:List aY} {f:aY} (h:Ss.map iA=fs++[f]):∃ Ts s,Ss=Ts++[s]∧Ts.map iA=fs∧iA s=f:=by
 obtain ⟨Ts,Us,h1,h2,h3⟩:=List.map_eq_append_iff.1 h
 obtain ⟨s,Vs,h4,h5,h6⟩:=List.map_eq_cons_iff.1 h3
 have:Vs=[]:=List.map_eq_nil_iff.1 h6
 subst this
 subst h4
 exact ⟨Ts,s,h1,h2,h5⟩
theorem aHo {w:World} {F FD D0:Nat→Prop} {lb db:Nat} {pre:ByteArray} {lim ev:Int} {Ss:List fO} {D D':Dsk.aS} {fs fs':List aY} {b:aR} {a:Option Addr} {cap:Nat} (h:fN w F lb db pre lim ev Ss) (hd:aU w FD db D) (hap:∀ k,F k→¬ FD k) (hfs:Ss.map iA=fs) (hl:LogPut pre lim ev D b fs D' fs')
  (hb:dN D0 w b a cap) (hfew:oC b a cap) (hst:bF w) (hFD0:¬ FD 0) (hF0:¬ F 0) (hD0:∀ j,D0 j→j<w.heap.size∧¬ F j∧¬ FD j) (hpre:pre.size≤20) (hev:1≤ev) (hlen:fs.length<1000) :
  Calls Tryz.prog 143 #[.pointer (some ⟨lb,0,none⟩),.agg #[.int .i64 b.base,.int .i64 b.span,.int .i64 b.prod,.int .i64 b.epoch,.int .i64 b.seq,.slice a b.recs.length cap],.bool true] w fun e w'=>e=.returned (.tuple #[.int .i64 b.base,.int .i64 0])∧∃ Ss',Ss'.map iA=fs'∧iN w F FD lb db pre lim ev Ss' D' w':=by
 obtain ⟨v,FS,hx⟩:=h
 have hlen':Ss.length<1000:=by rw [← hfs,List.length_map] at hlen;exact hlen
 cases hl with
 | last fs f put end_ size wf app wfa is=>
  obtain ⟨Ts,⟨sb,nm,sbase,Bs⟩,rfl,h2,rfl⟩:=uT hfs
  refine (aEy hx hd hap wf hb hfew put hst hFD0 (fun j e=>(hD0 j e).2.2) app wfa is end_ size).mono ?_
  rintro e w' ⟨rfl,q⟩
  exact ⟨rfl,_,by rw [List.map_append,h2];rfl,q⟩
 | none zero new=>
  have hss:Ss=[]:=List.map_eq_nil_iff.1 hfs
  subst hss
  refine (aEz hx hd hap new.wf hb hfew new.put hst hFD0 hF0 (fun j e=>(hD0 j e).2.2) (fun j e=>(hD0 j e).2.1) (fun j e=>(hD0 j e).1) new.app new.wfa new.is new.new new.rd hpre hev aE
   (fun wx k=>by rw [zero];exact tD (hx.keep k (fun _ _ e=>e))) (fun wx k=>tE (hx.keep k (fun _ _ e=>e)))
   (fun wx k=>(aHs (hx.keep k (fun _ _ e=>e))).mono (by rintro e w' ⟨rfl,k'⟩;exact ⟨rfl,FD,(hd.k0 k).k0 k',aP.of_k0 k'⟩))).mono ?_
  rintro e w' ⟨rfl,sbn,q⟩
  exact ⟨rfl,_,rfl,q⟩
 | full fs f end_ size wf is new=>
  obtain ⟨Ts,⟨sb,nm,sbase,Bs⟩,rfl,h2,rfl⟩:=uT hfs
  have hm:(Ts++[(⟨sb,nm,sbase,Bs⟩:fO)]).length=Ts.length+1:=aK
  refine (aEx hx hd hap new.wf hb hfew new.put hst hFD0 hF0 (fun j e=>(hD0 j e).2.2) (fun j e=>(hD0 j e).2.1) (fun j e=>(hD0 j e).1) new.app new.wfa new.is new.new new.rd hpre hev hlen'
   (fun wx k=>by
    have h1:=mK (hx.keep k (fun _ _ e=>e)) Ts.length hm
    rw [dV] at h1
    have h2:fL sbase Bs=b.base:=end_
    rw [h2] at h1
    exact h1) (sb:=sb) (z:=(bN Bs).size) size (fun wx k=>by
    have h1:=fX (hx.keep k (fun _ _ e=>e)) Ts.length hm
    rw [dV] at h1
    exact h1) (fun wx k=>by
    obtain ⟨L,h1,h2⟩:=hx.segs Ts.length aK
    rw [dV] at h1 h2
    have h3:=aBm (h1.k0 k)
    rw [h2.size] at h3
    exact h3) (fun wx k=>by
    have hg:(Ts++[(⟨sb,nm,sbase,Bs⟩:fO)])[Ts.length]'aK=⟨sb,nm,sbase,Bs⟩:=dV _ _ _
    have h1:=aHt (hx.keep k (fun _ _ e=>e)) Ts.length hm (hd.k0 k) wf (by rw [hg];exact is)
    rw [hg] at h1
    exact h1)).mono ?_
  rintro e w' ⟨rfl,sbn,q⟩
  exact ⟨rfl,_,by rw [List.map_append,List.map_append,h2];rfl,q⟩
theorem aJj {pre:ByteArray} {lim ev:Int} {D D':Dsk.aS} {b:aR} {fs fs':List aY} (h:LogPut pre lim ev D b fs D' fs'):∃ gs g,fs'=gs++[g]∧fL g.base g.Bs=b.base+b.span:=by
 cases h with
 | last fs f put end_ size wf app wfa is=>exact ⟨fs,_,rfl,rG _ _ _⟩
 | none zero new=>exact ⟨[],_,rfl,rfl⟩
 | full fs f end_ size wf is new=>exact ⟨_,_,rfl,rfl⟩
def rU (fs:List aY):Int:=match fs.getLast? with
 | none=>0
 | some f=>fL f.base f.Bs
theorem jB (fs:List aY) (f:aY):rU (fs++[f])=fL f.base f.Bs:=by simp [rU]
theorem rQ {w:World} {F:Nat→Prop} {lb db:Nat} {pre:ByteArray} {lim ev:Int} {Ss:List fO} {fs:List aY} (h:fN w F lb db pre lim ev Ss) (hfs:Ss.map iA=fs) :
  Calls Tryz.prog 142 #[.pointer (some ⟨lb,0,none⟩)] w fun e w'=>e=.returned (.int .i64 (rU fs))∧K0 w w':=by
 obtain ⟨v,FS,hx⟩:=h
 rcases List.eq_nil_or_concat fs with rfl | ⟨gs,g,rfl⟩
 ·have:Ss=[]:=List.map_eq_nil_iff.1 hfs
  subst this
  exact tD hx
 ·rw [List.concat_eq_append] at hfs ⊢
  obtain ⟨Ts,s,rfl,h2,rfl⟩:=uT hfs
  have h1:=mK hx Ts.length aK
  rw [dV] at h1
  rw [jB]
  exact h1
theorem LogPut.start {pre:ByteArray} {lim ev:Int} {D D':Dsk.aS} {b:aR} {fs fs':List aY} (h:LogPut pre lim ev D b fs D' fs'):rU fs=b.base:=by
 cases h with
 | last fs f put end_ size wf app wfa is=>rw [jB];exact end_
 | none zero new=>rw [zero];rfl
 | full fs f end_ size wf is new=>rw [jB];exact end_
theorem LogPut.stop {pre:ByteArray} {lim ev:Int} {D D':Dsk.aS} {b:aR} {fs fs':List aY} (h:LogPut pre lim ev D b fs D' fs'):rU fs'=b.base+b.span:=by
 obtain ⟨gs,g,rfl,e⟩:=aJj h
 rw [jB]
 exact e
theorem aPn {κ α:Type} [DecidableEq κ] (k:κ) (v:α):aQ [(k,v)] k=some v:=by simp [aQ]
theorem uA.part {w:World} {F:Nat→Prop} {stb db:Nat} {lim nx nid:Int} {s:ByteArray} {id:Nat} {D:Dsk.aS} {tb tm pm:Nat} {v5:Value} {cb:Nat} {FD FP:Nat→Prop} {pb:Nat} (h:uA w F stb db lim nx ⟨nid,[(s,((id:Int),1))]⟩ [(⟨id,0⟩,.pointer (some ⟨pb,0,none⟩))] D tb tm pm v5 cb FD FP) :
  Calls Tryz.prog 141 #[.pointer (some ⟨stb,0,none⟩),.string s,.int .i64 0] w fun e w'=>e=.returned (.tuple #[.pointer (some ⟨pb,0,none⟩),.int .i64 0])∧K0 w w':=by
 have hb:w.heap[stb]?=some (.cells #[.pointer (some ⟨db,0,none⟩),.int .i64 lim,.int .i64 nx,.pointer (some ⟨tb,0,none⟩),.map (some pm),v5,.pointer (some ⟨cb,0,none⟩)] 264 (0,0)):=h.blk
 exact aR2 (id:=id) (n:=1) (aB hb 3) (aB hb 4) h.tab h.map (by simp [Tpc.gG.find,aQ]) (aPn _ _)
theorem aH9 {w:World} {F D0:Nat→Prop} {stb db id:Nat} {lim nx nid:Int} {s:ByteArray} {D D':Dsk.aS} {Ss:List fO} {M:List (Int×Idm.aW)} {fs':List aY} {b:aR} {a:Option Addr} {cap:Nat} {b0:Int} (h:rX w F stb db lim nx nid s id D Ss M)
  (hl:LogPut (fE id 0) lim 200 D b (Ss.map iA) D' fs') (hpre:(fE id 0).size≤20) (hlen:(Ss.map iA).length<1000) (ho:dH b) (hsz:(aZ b).size≤50000) (hb:dN D0 w b a cap) (hfew:oC b a cap) (hst:bF w) (hF0:¬ F 0) (hD0:∀ j,D0 j→j<w.heap.size∧¬ F j)
  (hck:Idm.eP M (bI b)=(0,false,0)) (wfM:Idm.WfM M) :
  Calls Tryz.prog 73 #[.pointer (some ⟨stb,0,none⟩),.string s,.int .i64 0,.agg #[.int .i64 b0,.int .i64 b.span,.int .i64 b.prod,.int .i64 b.epoch,.int .i64 b.seq,.slice a b.recs.length cap],.bool true] w fun e w'=>e=.returned (.tuple #[.int .i64 b.base,.int .i64 0])∧∃ F' Ss',Ss'.map iA=fs'∧rX w' F' stb db lim nx nid s id D' Ss' (Idm.hZ M (bI b))∧aP F F' w w':=by
 obtain ⟨tb,tm,pm,v5,cb,FD,FP,pb,hx,lb,prb,FL,FPR,hp⟩:=h
 have HX:=Lib.hid hx
 have HP:=Lib.hid hp
 have HPT:Hid (∀ wx,K0 w wx→Calls Tryz.prog 141 #[.pointer (some ⟨stb,0,none⟩),.string s,.int .i64 0] wx fun e w'=>e=.returned (.tuple #[.pointer (some ⟨pb,0,none⟩),.int .i64 0])∧K0 wx w'):=fun wx k=>uA.part (hx.keep k (fun _ _ e=>e))
 have HEND:Hid (∀ wx,K0 w wx→Calls Tryz.prog 142 #[.pointer (some ⟨lb,0,none⟩)] wx fun e w'=>e=.returned (.int .i64 b.base)∧K0 wx w'):=fun wx k=>by
  have h1:=rQ (hp.log.k0 k) rfl
  rw [hl.start] at h1
  exact h1
 have HENC:Hid (∀ wx,K0 w wx→Calls Tryz.prog 92 #[.agg #[.int .i64 b.base,.int .i64 b.span,.int .i64 b.prod,.int .i64 b.epoch,.int .i64 b.seq,.slice a b.recs.length cap]] wx fun e w'=>e=.returned (.tuple #[.string (aZ b),.int .i64 0])∧K0 wx w'):=fun wx k=>mE D0 b a cap wx (hb.at_.keep0 k) ho (hst.keep0 k)
 have HCK:Hid (∀ wx,K0 w wx→Calls Tryz.prog 93 #[.pointer (some ⟨prb,0,none⟩),.agg #[.int .i64 b.base,.int .i64 b.span,.int .i64 b.prod,.int .i64 b.epoch,.int .i64 b.seq,.slice a b.recs.length cap]] wx fun e w'=>e=.returned (.tuple #[.int .i64 0,.bool false,.int .i64 0])∧K0 wx w'):=fun wx k=>by
  have h1:=aHx (hp.prod.k0 k) wfM ⟨b.base,b.span,b.prod,b.epoch,b.seq,a,b.recs.length,cap⟩
  have h2:Idm.eP M ⟨b.base,b.span,b.prod,b.epoch,b.seq,a,b.recs.length,cap⟩=(0,false,0):=hck
  rw [h2] at h1
  exact h1
 have HAPP:Hid (∀ wx,K0 w wx→Calls Tryz.prog 143 #[.pointer (some ⟨lb,0,none⟩),.agg #[.int .i64 b.base,.int .i64 b.span,.int .i64 b.prod,.int .i64 b.epoch,.int .i64 b.seq,.slice a b.recs.length cap],.bool true] wx fun e w'=>e=.returned (.tuple #[.int .i64 b.base,.int .i64 0])∧∃ Ss',Ss'.map iA=fs'∧iN wx FL FD lb db (fE id 0) lim 200 Ss' D' w'):=fun wx k=>
  aHo (hp.log.k0 k) (hx.disk.k0 k) (fun j e q=>hx.apart j (hp.own.2.1 j e) q) rfl hl (hb.keep0 k) hfew (hst.keep0 k) (fun e=>hF0 (hx.own.2.2.2.2.1 0 e)) (fun e=>hF0 (hx.own.2.2.2.2.2 0 (hp.own.2.1 0 e)))
   (fun j e=>⟨Nat.lt_of_lt_of_le (hD0 j e).1 k.size,fun q=>(hD0 j e).2 (hx.own.2.2.2.2.2 j (hp.own.2.1 j q)),fun q=>(hD0 j e).2 (hx.own.2.2.2.2.1 j q)⟩) hpre aE hlen
 have HSTOP:Hid (rU fs'=b.base+b.span):=hl.stop
 have HWM:=Lib.hid wfM
 have hpc0:w.cell? ⟨pb,0,none⟩=some (.pointer (some ⟨lb,0,none⟩)):=aB hp.blk 0
 have hpc1:w.cell? ⟨pb,1,none⟩=some (.pointer (some ⟨prb,0,none⟩)):=aB hp.blk 1
 have hpl:pb<w.heap.size:=aC hp.blk
 have z1:¬ (50000:Int)<(aZ b).size:=aA
 have z2:decide ((50000:Int)<(aZ b).size)=false:=decide_eq_false z1
 have z3:b.base<b.base+b.span:=by have:=ho.span;omega
 have z4:decide (b.base<b.base+b.span)=true:=decide_eq_true z3
 clear hx hp hl hpre hlen ho hsz hb hfew hst hF0 hD0 hck wfM
 go_enter Tryz.func73,Tryz.ntmps73
 go_wp2_with fail
 refine (HPT.out _ ((aD.refl _ _).alloc _)).mono ?_
 rintro e w1 ⟨rfl,k1⟩
 have HK1:Hid (K0 w w1):=K0.tr ((aD.refl (fun _=>False) w).alloc _) k1
 have y1:w1.heap[w.heap.size]?=some (.cells #[.int .i64 b0,.int .i64 b.span,.int .i64 b.prod,.int .i64 b.epoch,.int .i64 b.seq,.slice a b.recs.length cap] 39 (0,0)):=(k1.block _ aK (fun e=>e)).trans (aI w _ _ rfl)
 have HY1:=Lib.hid y1
 have p0:w1.cell? ⟨pb,0,none⟩=some (.pointer (some ⟨lb,0,none⟩)):=HK1.out.cell' hpc0 (fun e=>e)
 have pl:pb<w1.heap.size:=Nat.lt_of_lt_of_le hpl HK1.out.size
 clear k1 y1
 go_wp2_with fail
 refine (HEND.out _ HK1.out).mono ?_
 rintro e w2 ⟨rfl,k2⟩
 have HK2:Hid (K0 w w2):=K0.tr HK1.out k2
 have y2:w2.heap[w.heap.size]?=some (.cells #[.int .i64 b0,.int .i64 b.span,.int .i64 b.prod,.int .i64 b.epoch,.int .i64 b.seq,.slice a b.recs.length cap] 39 (0,0)):=(k2.block _ (aC HY1.out) (fun e=>e)).trans HY1.out
 have HY2:=Lib.hid y2
 have g0:w2.cell? ⟨w.heap.size,0,none⟩=some (.int .i64 b0):=aB y2 0
 have g1:w2.frozen? ⟨w.heap.size,0,none⟩=false:=aH y2 0
 have gl:w.heap.size<w2.heap.size:=aC y2
 clear k2 y2 p0 pl HK1 HY1
 go_upto_region 5 with fail
 obtain ⟨W,hW⟩:∃ W,W=w2.setCell ⟨w.heap.size,0,none⟩ (.int .i64 b.base):=⟨_,rfl⟩
 rw [← hW]
 have yW:W.heap[w.heap.size]?=some (.cells #[.int .i64 b.base,.int .i64 b.span,.int .i64 b.prod,.int .i64 b.epoch,.int .i64 b.seq,.slice a b.recs.length cap] 39 (0,0)):=(by rw [hW];exact aM HY2.out 0 _)
 have HYW:=Lib.hid yW
 have HKW:Hid (K0 w W):=(by show K0 w W;rw [hW];exact HK2.out.setC 0 _ (fun e=>absurd e (Nat.lt_irrefl _)))
 have d0:W.cell? ⟨w.heap.size,0,none⟩=some (.int .i64 b.base):=aB yW 0
 have d1:W.cell? ⟨w.heap.size,1,none⟩=some (.int .i64 b.span):=aB yW 1
 have d2:W.cell? ⟨w.heap.size,2,none⟩=some (.int .i64 b.prod):=aB yW 2
 have d3:W.cell? ⟨w.heap.size,3,none⟩=some (.int .i64 b.epoch):=aB yW 3
 have d4:W.cell? ⟨w.heap.size,4,none⟩=some (.int .i64 b.seq):=aB yW 4
 have d5:W.cell? ⟨w.heap.size,5,none⟩=some (.slice a b.recs.length cap):=aB yW 5
 have dl:w.heap.size<W.heap.size:=aC yW
 clear hW yW g0 g1 gl HK2 HY2
 go_wp2_with fail
 refine (HENC.out _ HKW.out).mono ?_
 rintro e w3 ⟨rfl,k3⟩
 have HK3:Hid (K0 w w3):=K0.tr HKW.out k3
 have y3:w3.heap[w.heap.size]?=some (.cells #[.int .i64 b.base,.int .i64 b.span,.int .i64 b.prod,.int .i64 b.epoch,.int .i64 b.seq,.slice a b.recs.length cap] 39 (0,0)):=(k3.block _ (aC HYW.out) (fun e=>e)).trans HYW.out
 have HY3:=Lib.hid y3
 clear d0 d1 d2 d3 d4 d5 dl HKW HYW k3
 have d0:w3.cell? ⟨w.heap.size,0,none⟩=some (.int .i64 b.base):=aB y3 0
 have d1:w3.cell? ⟨w.heap.size,1,none⟩=some (.int .i64 b.span):=aB y3 1
 have d2:w3.cell? ⟨w.heap.size,2,none⟩=some (.int .i64 b.prod):=aB y3 2
 have d3:w3.cell? ⟨w.heap.size,3,none⟩=some (.int .i64 b.epoch):=aB y3 3
 have d4:w3.cell? ⟨w.heap.size,4,none⟩=some (.int .i64 b.seq):=aB y3 4
 have d5:w3.cell? ⟨w.heap.size,5,none⟩=some (.slice a b.recs.length cap):=aB y3 5
 have dl:w.heap.size<w3.heap.size:=aC y3
 have p1:w3.cell? ⟨pb,1,none⟩=some (.pointer (some ⟨prb,0,none⟩)):=HK3.out.cell' hpc1 (fun e=>e)
 have pl3:pb<w3.heap.size:=Nat.lt_of_lt_of_le hpl HK3.out.size
 clear y3
 go_upto_region 8 with fail
 go_region_held3 (fun w':World=>K0 w3 w'∧w'.cell? ⟨pb,1,none⟩=some (.pointer (some ⟨prb,0,none⟩))∧w'.cell? ⟨w.heap.size,0,none⟩=some (.int .i64 b.base)∧w'.cell? ⟨w.heap.size,1,none⟩=some (.int .i64 b.span)∧w'.cell? ⟨w.heap.size,2,none⟩=some (.int .i64 b.prod)∧w'.cell? ⟨w.heap.size,3,none⟩=some (.int .i64 b.epoch)∧w'.cell? ⟨w.heap.size,4,none⟩=some (.int .i64 b.seq)∧w'.cell? ⟨w.heap.size,5,none⟩=some (.slice a b.recs.length cap))
  (first | exact ⟨(aD.refl _ _).drew,by first | assumption | go_simp,by first | assumption | go_simp,by first | assumption | go_simp,by first | assumption | go_simp,by first | assumption | go_simp,by first | assumption | go_simp,by first | assumption | go_simp⟩ | (go_split_ands;exact ⟨K0.tr aG kk,kk.cell' aG (fun e=>e),kk.cell' aG (fun e=>e),kk.cell' aG (fun e=>e),kk.cell' aG (fun e=>e),kk.cell' aG (fun e=>e),kk.cell' aG (fun e=>e),kk.cell' aG (fun e=>e)⟩))
  (first
   | (go_at_call 93;go_split_ands;refine (HCK.out _ (K0.tr HK3.out (by assumption))).mono ?_;rintro e w' ⟨rfl,kk⟩))
 go_split_ands
 rename World=>w4
 have k4:K0 w3 w4:=aG
 have HK4:Hid (K0 w w4):=K0.tr HK3.out k4
 have y4:w4.heap[w.heap.size]?=some (.cells #[.int .i64 b.base,.int .i64 b.span,.int .i64 b.prod,.int .i64 b.epoch,.int .i64 b.seq,.slice a b.recs.length cap] 39 (0,0)):=(k4.block _ (aC HY3.out) (fun e=>e)).trans HY3.out
 have HY4:=Lib.hid y4
 clear d0 d1 d2 d3 d4 d5 dl p1 pl3 HK3 HY3
 have d0:w4.cell? ⟨w.heap.size,0,none⟩=some (.int .i64 b.base):=aB y4 0
 have d1:w4.cell? ⟨w.heap.size,1,none⟩=some (.int .i64 b.span):=aB y4 1
 have d2:w4.cell? ⟨w.heap.size,2,none⟩=some (.int .i64 b.prod):=aB y4 2
 have d3:w4.cell? ⟨w.heap.size,3,none⟩=some (.int .i64 b.epoch):=aB y4 3
 have d4:w4.cell? ⟨w.heap.size,4,none⟩=some (.int .i64 b.seq):=aB y4 4
 have d5:w4.cell? ⟨w.heap.size,5,none⟩=some (.slice a b.recs.length cap):=aB y4 5
 have dl:w.heap.size<w4.heap.size:=aC y4
 have p0:w4.cell? ⟨pb,0,none⟩=some (.pointer (some ⟨lb,0,none⟩)):=HK4.out.cell' hpc0 (fun e=>e)
 have p1:w4.cell? ⟨pb,1,none⟩=some (.pointer (some ⟨prb,0,none⟩)):=HK4.out.cell' hpc1 (fun e=>e)
 have pl4:pb<w4.heap.size:=Nat.lt_of_lt_of_le hpl HK4.out.size
 clear y4 k4
 have HAD:=Lib.hid (HAPP.out w4.drew HK4.out.drew)
 have hFl:∀ j,(FL j∨FD j)→j<w.heap.size:=fun j e=>e.elim (HP.out.log.lt j) (HX.out.disk.lt j)
 have HFL:=Lib.hid hFl
 have HNX:Hid (¬ (FL w.heap.size∨FD w.heap.size)):=fun e=>Nat.lt_irrefl _ (hFl _ e)
 have HNP:Hid (¬ (FL pb∨FD pb)):=fun e=>e.elim HP.out.ne1.1 (HX.out.apart pb HP.out.own.1)
 clear hFl HAPP
 go_upto_region 11 with fail
 go_region_held3 (fun w':World=>w'.cell? ⟨pb,0,none⟩=some (.pointer (some ⟨lb,0,none⟩))∧w'.cell? ⟨w.heap.size,0,none⟩=some (.int .i64 b.base)∧w'.cell? ⟨w.heap.size,1,none⟩=some (.int .i64 b.span)∧w'.cell? ⟨w.heap.size,2,none⟩=some (.int .i64 b.prod)∧w'.cell? ⟨w.heap.size,3,none⟩=some (.int .i64 b.epoch)∧w'.cell? ⟨w.heap.size,4,none⟩=some (.int .i64 b.seq)∧w'.cell? ⟨w.heap.size,5,none⟩=some (.slice a b.recs.length cap))
  (first | go_keep | exact ⟨by assumption,by assumption,by assumption,by assumption,by assumption,by assumption,by assumption⟩)
  (first
   | (go_at_call 143;refine HAD.out.mono ?_;rintro e w' ⟨rfl,Ss',hs',FL',FD',q1,q2,q3,q4⟩;have h0':w'.cell? ⟨pb,0,none⟩=some (.pointer (some ⟨lb,0,none⟩)):=q4.keeps.cell' (show w4.drew.cell? _=_ from p0) HNP.out;have g0':w'.cell? ⟨w.heap.size,0,none⟩=some (.int .i64 b.base):=q4.keeps.cell' (show w4.drew.cell? _=_ from d0) HNX.out;have g1':w'.cell? ⟨w.heap.size,1,none⟩=some (.int .i64 b.span):=q4.keeps.cell' (show w4.drew.cell? _=_ from d1) HNX.out;have g2':w'.cell? ⟨w.heap.size,2,none⟩=some (.int .i64 b.prod):=q4.keeps.cell' (show w4.drew.cell? _=_ from d2) HNX.out;have g3':w'.cell? ⟨w.heap.size,3,none⟩=some (.int .i64 b.epoch):=q4.keeps.cell' (show w4.drew.cell? _=_ from d3) HNX.out;have g4':w'.cell? ⟨w.heap.size,4,none⟩=some (.int .i64 b.seq):=q4.keeps.cell' (show w4.drew.cell? _=_ from d4) HNX.out;have g5':w'.cell? ⟨w.heap.size,5,none⟩=some (.slice a b.recs.length cap):=q4.keeps.cell' (show w4.drew.cell? _=_ from d5) HNX.out;have HS5:=Lib.hid hs';have HL5:=Lib.hid q1;have HD5:=Lib.hid q2;have HA5:=Lib.hid q3;have HM5:Hid (aP (fun k=>FL k∨FD k) (fun k=>FL' k∨FD' k) w w'):=aP.k0_left HK4.out.drew q4;have h1':w'.cell? ⟨pb,1,none⟩=some (.pointer (some ⟨prb,0,none⟩)):=q4.keeps.cell' (show w4.drew.cell? _=_ from p1) HNP.out;have hz':w4.heap.size≤w'.heap.size:=q4.keeps.size;clear hs' q1 q2 q3 q4))
 rename World=>w5
 go_split_ands
 have HEN5:Hid (∀ wx,K0 w5 wx→Calls Tryz.prog 142 #[.pointer (some ⟨lb,0,none⟩)] wx fun e w'=>e=.returned (.int .i64 (b.base+b.span))∧K0 wx w'):=fun wx k=>by
  have h1:=rQ (HL5.out.k0 k) HS5.out
  rw [HSTOP.out] at h1
  exact h1
 have pl5:pb<w5.heap.size:=aA
 have dl5:w.heap.size<w5.heap.size:=aA
 clear d0 d1 d2 d3 d4 d5 dl p0 p1 pl4 HAD
 go_upto_region 12 with fail
 go_region_held3 (fun w':World=>K0 w5 w'∧w'.cell? ⟨pb,0,none⟩=some (.pointer (some ⟨lb,0,none⟩))∧w'.cell? ⟨w.heap.size,0,none⟩=some (.int .i64 b.base))
  (first | exact ⟨(aD.refl _ _).drew,by first | assumption | go_simp,by first | assumption | go_simp⟩ | (go_split_ands;exact ⟨K0.tr aG kk,kk.cell' aG (fun e=>e),kk.cell' aG (fun e=>e)⟩))
  (first
   | (go_at_call 142;go_split_ands;refine (HEN5.out _ (by assumption)).mono ?_;rintro e w' ⟨rfl,kk⟩))
 all_goals
  go_split_ands
  rename World=>w6
  have k6:K0 w5 w6:=aG
  have hz6:=k6.size
  have HK6:=Lib.hid k6
  have e1:w6.cell? ⟨pb,1,none⟩=some (.pointer (some ⟨prb,0,none⟩)):=k6.cell' h1' (fun e=>e)
  have pl6:pb<w6.heap.size:=aA
  have dl6:w.heap.size<w6.heap.size:=aA
  have ea:w6.cell? ⟨w.heap.size,0,none⟩=some (.int .i64 b.base):=k6.cell' g0' (fun e=>e)
  have eb:w6.cell? ⟨w.heap.size,1,none⟩=some (.int .i64 b.span):=k6.cell' g1' (fun e=>e)
  have ec:w6.cell? ⟨w.heap.size,2,none⟩=some (.int .i64 b.prod):=k6.cell' g2' (fun e=>e)
  have ed:w6.cell? ⟨w.heap.size,3,none⟩=some (.int .i64 b.epoch):=k6.cell' g3' (fun e=>e)
  have ee:w6.cell? ⟨w.heap.size,4,none⟩=some (.int .i64 b.seq):=k6.cell' g4' (fun e=>e)
  have ef:w6.cell? ⟨w.heap.size,5,none⟩=some (.slice a b.recs.length cap):=k6.cell' g5' (fun e=>e)
  clear k6
  have hpr5:dS w5 FPR prb M:=HP.out.prod.keep HM5.out.keeps (fun j e q=>q.elim (fun q=>HP.out.ne2 j q e) (HX.out.apart j (HP.out.own.2.2 j e)))
  have HPD:Hid (dS w6.drew FPR prb M):=(hpr5.k0 HK6.out).k0 (aD.refl _ _).drew
  have HN1:Hid (¬ FPR pb):=HP.out.ne1.2
  have HN2:Hid (¬ FPR w.heap.size):=fun e=>Nat.lt_irrefl _ (HP.out.prod.lt _ e)
  clear hpr5
  go_upto_region 13 with fail
  go_region_held3 (fun w':World=>w'.cell? ⟨pb,1,none⟩=some (.pointer (some ⟨prb,0,none⟩))∧w'.cell? ⟨w.heap.size,0,none⟩=some (.int .i64 b.base)∧w'.cell? ⟨w.heap.size,1,none⟩=some (.int .i64 b.span)∧w'.cell? ⟨w.heap.size,2,none⟩=some (.int .i64 b.prod)∧w'.cell? ⟨w.heap.size,3,none⟩=some (.int .i64 b.epoch)∧w'.cell? ⟨w.heap.size,4,none⟩=some (.int .i64 b.seq)∧w'.cell? ⟨w.heap.size,5,none⟩=some (.slice a b.recs.length cap))
   (first | go_keep | exact ⟨by assumption,by assumption,by assumption,by assumption,by assumption,by assumption,by assumption⟩)
   (first
    | (go_at_call 95;refine (aHy HPD.out HWM.out b a _ cap).mono ?_;rintro e w' ⟨rfl,F6,q1,q2⟩;have h1'':w'.cell? ⟨pb,1,none⟩=some (.pointer (some ⟨prb,0,none⟩)):=q2.keeps.cell' (show w6.drew.cell? _=_ from e1) HN1.out;have g0'':w'.cell? ⟨w.heap.size,0,none⟩=some (.int .i64 b.base):=q2.keeps.cell' (show w6.drew.cell? _=_ from ea) HN2.out;have g1'':w'.cell? ⟨w.heap.size,1,none⟩=some (.int .i64 b.span):=q2.keeps.cell' (show w6.drew.cell? _=_ from eb) HN2.out;have g2'':w'.cell? ⟨w.heap.size,2,none⟩=some (.int .i64 b.prod):=q2.keeps.cell' (show w6.drew.cell? _=_ from ec) HN2.out;have g3'':w'.cell? ⟨w.heap.size,3,none⟩=some (.int .i64 b.epoch):=q2.keeps.cell' (show w6.drew.cell? _=_ from ed) HN2.out;have g4'':w'.cell? ⟨w.heap.size,4,none⟩=some (.int .i64 b.seq):=q2.keeps.cell' (show w6.drew.cell? _=_ from ee) HN2.out;have g5'':w'.cell? ⟨w.heap.size,5,none⟩=some (.slice a b.recs.length cap):=q2.keeps.cell' (show w6.drew.cell? _=_ from ef) HN2.out;have HQ1:=Lib.hid q1;have HQ2:Hid (aP FPR F6 w5 w'):=(aP.of_k0 HK6.out.drew).trans q2;clear q1 q2))
  all_goals
   rename World=>w7
   have HFIN:Hid (∃ F' Ss',Ss'.map iA=fs'∧rX w7 F' stb db lim nx nid s id D' Ss' (Idm.hZ M (bI b))∧aP F F' w w7):=by
    have M5:=HM5.out
    have M7:=HQ2.out
    have hx:=HX.out
    have hp:=HP.out
    have s5:=M5.keeps.size
    have s7:=M7.keeps.size
    have a5:∀ {j:Nat},j<w.heap.size→¬ FL j→¬ FD j→¬ FL' j∧¬ FD' j:=fun {j} h1 h2 h3=>⟨fun e=>(M5.grows j (.inl e)).elim (fun e=>e.elim h2 h3) (fun h=>by omega),fun e=>(M5.grows j (.inr e)).elim (fun e=>e.elim h2 h3) (fun h=>by omega)⟩
    have a7:∀ {j:Nat},j<w5.heap.size→¬ FPR j→¬ F6 j:=fun {j} h1 h2 e=>(M7.grows j e).elim h2 (fun h=>by omega)
    have lPR:∀ j,FPR j→j<w.heap.size:=hp.prod.lt
    have dPR:∀ j,FPR j→¬ FL' j∧¬ FD' j:=fun j e=>a5 (lPR j e) (fun q=>hp.ne2 j q e) (hx.apart j (hp.own.2.2 j e))
    have dL6:∀ j,FL' j→¬ F6 j:=fun j e=>a7 (HL5.out.lt j e) (fun q=>(dPR j q).1 e)
    have dD6:∀ j,F6 j→¬ FD' j:=fun j e q=>a7 (HD5.out.lt j q) (fun q'=>(dPR j q').2 q) e
    have nP:∀ {j:Nat},¬ FP j→¬ FL j∧¬ FPR j:=fun {j} h=>⟨fun e=>h (hp.own.2.1 j e),fun e=>h (hp.own.2.2 j e)⟩
    have old:∀ {j:Nat},j<w.heap.size→¬ FD j→¬ FP j→(¬ FL' j∧¬ FD' j)∧¬ F6 j:=fun {j} h1 h2 h3=>⟨a5 h1 (nP h3).1 h2,a7 aA (nP h3).2⟩
    have lst:=aC hx.blk
    have ltb:=hx.tab.lt
    have ltm:=hx.tab.map.lt
    have lpm:=hx.map.lt
    have ost:=old lst hx.nd.1 hx.np.1
    have otb:=old ltb hx.nd.2.1 hx.np.2.1
    have otm:=old ltm hx.nd.2.2.1 hx.np.2.2.1
    have opm:=old lpm hx.nd.2.2.2 hx.np.2.2.2
    have n5:∀ {j:Nat},¬ FD j→¬ FP j→¬ (FL j∨FD j):=fun {j} h2 h3 e=>e.elim (nP h3).1 h2
    have ppb:(¬ FL' pb∧¬ FD' pb)∧¬ F6 pb:=⟨a5 hpl hp.ne1.1 (hx.apart pb hp.own.1),a7 aA hp.ne1.2⟩
    have hpbk:w7.heap[pb]?=some (.cells #[.pointer (some ⟨lb,0,none⟩),.pointer (some ⟨prb,0,none⟩)] 285 (0,0)):=(M7.keeps.block _ aA hp.ne1.2).trans ((M5.keeps.block _ hpl (fun e=>e.elim hp.ne1.1 (hx.apart pb hp.own.1))).trans hp.blk)
    refine ⟨fun j=>FD' j∨(j=pb∨FL' j∨F6 j)∨j=stb∨j=tb∨j=tm∨j=pm,Ss',HS5.out,⟨tb,tm,pm,v5,cb,FD',fun j=>j=pb∨FL' j∨F6 j,pb,⟨?_,?_,?_,?_,hx.ne,⟨ost.1.2,otb.1.2,otm.1.2,opm.1.2⟩,⟨?_,?_,?_,?_⟩,?_,⟨.inr (.inr (.inl rfl)),.inr (.inr (.inr (.inl rfl))),.inr (.inr (.inr (.inr (.inl rfl)))),.inr (.inr (.inr (.inr (.inr rfl)))),fun _ e=>.inl e,fun _ e=>.inr (.inl e)⟩,?_⟩,
     ⟨lb,prb,FL',F6,⟨hpbk,HL5.out.keep M7.keeps (fun j e q=>(dPR j q).1 e),HQ1.out,⟨ppb.1.1,ppb.2⟩,dL6,⟨.inl rfl,fun _ e=>.inr (.inl e),fun _ e=>.inr (.inr e)⟩,?_⟩⟩⟩,?_,?_⟩
    ·exact (M7.keeps.block _ aA (nP hx.np.1).2).trans ((M5.keeps.block _ lst (n5 hx.nd.1 hx.np.1)).trans hx.blk)
    ·exact (hx.tab.keep M5.keeps (n5 hx.nd.2.1 hx.np.2.1) (n5 hx.nd.2.2.1 hx.np.2.2.1)).keep M7.keeps (nP hx.np.2.1).2 (nP hx.np.2.2.1).2
    ·exact (hx.map.keep M5.keeps (n5 hx.nd.2.2.2 hx.np.2.2.2)).keep M7.keeps (nP hx.np.2.2.2).2
    ·exact HD5.out.keep M7.keeps (fun j e q=>(dPR j q).2 e)
    ·exact fun e=>e.elim (fun e=>hx.np.1 (e▸hp.own.1)) (fun e=>e.elim ost.1.1 ost.2)
    ·exact fun e=>e.elim (fun e=>hx.np.2.1 (e▸hp.own.1)) (fun e=>e.elim otb.1.1 otb.2)
    ·exact fun e=>e.elim (fun e=>hx.np.2.2.1 (e▸hp.own.1)) (fun e=>e.elim otm.1.1 otm.2)
    ·exact fun e=>e.elim (fun e=>hx.np.2.2.2 (e▸hp.own.1)) (fun e=>e.elim opm.1.1 opm.2)
    ·exact fun j e=>e.elim (fun e=>e▸ppb.1.2) (fun e=>e.elim (HA5.out j) (dD6 j))
    ·intro j e
     have hd:=fun e=>HD5.out.lt j e
     have hl:=fun e=>HL5.out.lt j e
     have h6:=fun e=>HQ1.out.lt j e
     rcases e with e | (e | e | e) | e | e | e | e
     ·have:=hd e;omega
     ·omega
     ·have:=hl e;omega
     ·exact h6 e
     ·omega
     ·omega
     ·omega
     ·omega
    ·intro j e
     rcases e with e | e | e
     ·omega
     ·have:=HL5.out.lt j e;omega
     ·exact HQ1.out.lt j e
    ·have hown:=hx.own
     refine (M5.keeps.mono (S1:=F) (fun j _ e=>e.elim (fun e=>hown.2.2.2.2.2 j (hp.own.2.1 j e)) (hown.2.2.2.2.1 j))).trans M7.keeps (fun j _ e=>hown.2.2.2.2.2 j (hp.own.2.2 j e))
    ·have hown:=hx.own
     have g5:∀ j,(FL' j∨FD' j)→F j∨w.heap.size≤j:=fun j e=>(M5.grows j e).imp (fun e=>e.elim (fun e=>hown.2.2.2.2.2 j (hp.own.2.1 j e)) (hown.2.2.2.2.1 j)) (fun h=>h)
     intro j e
     rcases e with e | (e | e | e) | e | e | e | e
     ·exact g5 j (.inr e)
     ·exact .inl (hown.2.2.2.2.2 j (e▸hp.own.1))
     ·exact g5 j (.inl e)
     ·exact (M7.grows j e).imp (fun e=>hown.2.2.2.2.2 j (hp.own.2.2 j e)) (fun h=>by omega)
     ·exact .inl (e▸hown.1)
     ·exact .inl (e▸hown.2.1)
     ·exact .inl (e▸hown.2.2.1)
     ·exact .inl (e▸hown.2.2.2.1)
   go_wp2_with fail
   go_ret2
   exact ⟨rfl,HFIN.out⟩
theorem aFa {w:World} {F D0:Nat→Prop} {stb db id:Nat} {lim nx nid:Int} {s:ByteArray} {D:Dsk.aS} {Ss:List fO} {M:List (Int×Idm.aW)} {b:aR} {a:Option Addr} {cap:Nat} {b0 r er:Int} {again:Bool} (h:rX w F stb db lim nx nid s id D Ss M)
  (hen:rU (Ss.map iA)=b.base) (ho:dH b) (hsz:(aZ b).size≤50000) (hb:gB D0 w b a cap) (hst:bF w) (hck:Idm.eP M (bI b)=(r,again,er)) (wfM:Idm.WfM M) (hno:(er != 0)=true∨((er != 0)=false∧again=true)) :
  Calls Tryz.prog 73 #[.pointer (some ⟨stb,0,none⟩),.string s,.int .i64 0,.agg #[.int .i64 b0,.int .i64 b.span,.int .i64 b.prod,.int .i64 b.epoch,.int .i64 b.seq,.slice a b.recs.length cap],.bool true] w fun e w'=>e=.returned (.tuple #[.int .i64 r,.int .i64 er])∧K0 w w':=by
 obtain ⟨tb,tm,pm,v5,cb,FD,FP,pb,hx,lb,prb,FL,FPR,hp⟩:=h
 have HPT:Hid (∀ wx,K0 w wx→Calls Tryz.prog 141 #[.pointer (some ⟨stb,0,none⟩),.string s,.int .i64 0] wx fun e w'=>e=.returned (.tuple #[.pointer (some ⟨pb,0,none⟩),.int .i64 0])∧K0 wx w'):=fun wx k=>uA.part (hx.keep k (fun _ _ e=>e))
 have HEND:Hid (∀ wx,K0 w wx→Calls Tryz.prog 142 #[.pointer (some ⟨lb,0,none⟩)] wx fun e w'=>e=.returned (.int .i64 b.base)∧K0 wx w'):=fun wx k=>by
  have h1:=rQ (hp.log.k0 k) rfl
  rw [hen] at h1
  exact h1
 have HENC:Hid (∀ wx,K0 w wx→Calls Tryz.prog 92 #[.agg #[.int .i64 b.base,.int .i64 b.span,.int .i64 b.prod,.int .i64 b.epoch,.int .i64 b.seq,.slice a b.recs.length cap]] wx fun e w'=>e=.returned (.tuple #[.string (aZ b),.int .i64 0])∧K0 wx w'):=fun wx k=>mE D0 b a cap wx (hb.keep0 k) ho (hst.keep0 k)
 have HCK:Hid (∀ wx,K0 w wx→Calls Tryz.prog 93 #[.pointer (some ⟨prb,0,none⟩),.agg #[.int .i64 b.base,.int .i64 b.span,.int .i64 b.prod,.int .i64 b.epoch,.int .i64 b.seq,.slice a b.recs.length cap]] wx fun e w'=>e=.returned (.tuple #[.int .i64 r,.bool again,.int .i64 er])∧K0 wx w'):=fun wx k=>by
  have h1:=aHx (hp.prod.k0 k) wfM ⟨b.base,b.span,b.prod,b.epoch,b.seq,a,b.recs.length,cap⟩
  have h2:Idm.eP M ⟨b.base,b.span,b.prod,b.epoch,b.seq,a,b.recs.length,cap⟩=(r,again,er):=hck
  rw [h2] at h1
  exact h1
 have hpc0:w.cell? ⟨pb,0,none⟩=some (.pointer (some ⟨lb,0,none⟩)):=aB hp.blk 0
 have hpc1:w.cell? ⟨pb,1,none⟩=some (.pointer (some ⟨prb,0,none⟩)):=aB hp.blk 1
 have hpl:pb<w.heap.size:=aC hp.blk
 have z1:¬ (50000:Int)<(aZ b).size:=aA
 have z2:decide ((50000:Int)<(aZ b).size)=false:=decide_eq_false z1
 clear hx hp hen ho hsz hb hst hck wfM
 go_enter Tryz.func73,Tryz.ntmps73
 go_wp2_with fail
 refine (HPT.out _ ((aD.refl _ _).alloc _)).mono ?_
 rintro e w1 ⟨rfl,k1⟩
 have HK1:Hid (K0 w w1):=K0.tr ((aD.refl (fun _=>False) w).alloc _) k1
 have y1:w1.heap[w.heap.size]?=some (.cells #[.int .i64 b0,.int .i64 b.span,.int .i64 b.prod,.int .i64 b.epoch,.int .i64 b.seq,.slice a b.recs.length cap] 39 (0,0)):=(k1.block _ aK (fun e=>e)).trans (aI w _ _ rfl)
 have HY1:=Lib.hid y1
 have p0:w1.cell? ⟨pb,0,none⟩=some (.pointer (some ⟨lb,0,none⟩)):=HK1.out.cell' hpc0 (fun e=>e)
 have pl:pb<w1.heap.size:=Nat.lt_of_lt_of_le hpl HK1.out.size
 clear k1 y1
 go_wp2_with fail
 refine (HEND.out _ HK1.out).mono ?_
 rintro e w2 ⟨rfl,k2⟩
 have HK2:Hid (K0 w w2):=K0.tr HK1.out k2
 have y2:w2.heap[w.heap.size]?=some (.cells #[.int .i64 b0,.int .i64 b.span,.int .i64 b.prod,.int .i64 b.epoch,.int .i64 b.seq,.slice a b.recs.length cap] 39 (0,0)):=(k2.block _ (aC HY1.out) (fun e=>e)).trans HY1.out
 have HY2:=Lib.hid y2
 have g0:w2.cell? ⟨w.heap.size,0,none⟩=some (.int .i64 b0):=aB y2 0
 have g1:w2.frozen? ⟨w.heap.size,0,none⟩=false:=aH y2 0
 have gl:w.heap.size<w2.heap.size:=aC y2
 clear k2 y2 p0 pl HK1 HY1
 go_upto_region 5 with fail
 obtain ⟨W,hW⟩:∃ W,W=w2.setCell ⟨w.heap.size,0,none⟩ (.int .i64 b.base):=⟨_,rfl⟩
 rw [← hW]
 have yW:W.heap[w.heap.size]?=some (.cells #[.int .i64 b.base,.int .i64 b.span,.int .i64 b.prod,.int .i64 b.epoch,.int .i64 b.seq,.slice a b.recs.length cap] 39 (0,0)):=(by rw [hW];exact aM HY2.out 0 _)
 have HYW:=Lib.hid yW
 have HKW:Hid (K0 w W):=(by show K0 w W;rw [hW];exact HK2.out.setC 0 _ (fun e=>absurd e (Nat.lt_irrefl _)))
 have d0:W.cell? ⟨w.heap.size,0,none⟩=some (.int .i64 b.base):=aB yW 0
 have d1:W.cell? ⟨w.heap.size,1,none⟩=some (.int .i64 b.span):=aB yW 1
 have d2:W.cell? ⟨w.heap.size,2,none⟩=some (.int .i64 b.prod):=aB yW 2
 have d3:W.cell? ⟨w.heap.size,3,none⟩=some (.int .i64 b.epoch):=aB yW 3
 have d4:W.cell? ⟨w.heap.size,4,none⟩=some (.int .i64 b.seq):=aB yW 4
 have d5:W.cell? ⟨w.heap.size,5,none⟩=some (.slice a b.recs.length cap):=aB yW 5
 have dl:w.heap.size<W.heap.size:=aC yW
 clear hW yW g0 g1 gl HK2 HY2
 go_wp2_with fail
 refine (HENC.out _ HKW.out).mono ?_
 rintro e w3 ⟨rfl,k3⟩
 have HK3:Hid (K0 w w3):=K0.tr HKW.out k3
 have y3:w3.heap[w.heap.size]?=some (.cells #[.int .i64 b.base,.int .i64 b.span,.int .i64 b.prod,.int .i64 b.epoch,.int .i64 b.seq,.slice a b.recs.length cap] 39 (0,0)):=(k3.block _ (aC HYW.out) (fun e=>e)).trans HYW.out
 have HY3:=Lib.hid y3
 clear d0 d1 d2 d3 d4 d5 dl HKW HYW k3
 have d0:w3.cell? ⟨w.heap.size,0,none⟩=some (.int .i64 b.base):=aB y3 0
 have d1:w3.cell? ⟨w.heap.size,1,none⟩=some (.int .i64 b.span):=aB y3 1
 have d2:w3.cell? ⟨w.heap.size,2,none⟩=some (.int .i64 b.prod):=aB y3 2
 have d3:w3.cell? ⟨w.heap.size,3,none⟩=some (.int .i64 b.epoch):=aB y3 3
 have d4:w3.cell? ⟨w.heap.size,4,none⟩=some (.int .i64 b.seq):=aB y3 4
 have d5:w3.cell? ⟨w.heap.size,5,none⟩=some (.slice a b.recs.length cap):=aB y3 5
 have dl:w.heap.size<w3.heap.size:=aC y3
 have p1:w3.cell? ⟨pb,1,none⟩=some (.pointer (some ⟨prb,0,none⟩)):=HK3.out.cell' hpc1 (fun e=>e)
 have pl3:pb<w3.heap.size:=Nat.lt_of_lt_of_le hpl HK3.out.size
 clear y3
 go_upto_region 8 with fail
 go_region_held3 (fun w':World=>K0 w3 w'∧w'.cell? ⟨pb,1,none⟩=some (.pointer (some ⟨prb,0,none⟩))∧w'.cell? ⟨w.heap.size,0,none⟩=some (.int .i64 b.base)∧w'.cell? ⟨w.heap.size,1,none⟩=some (.int .i64 b.span)∧w'.cell? ⟨w.heap.size,2,none⟩=some (.int .i64 b.prod)∧w'.cell? ⟨w.heap.size,3,none⟩=some (.int .i64 b.epoch)∧w'.cell? ⟨w.heap.size,4,none⟩=some (.int .i64 b.seq)∧w'.cell? ⟨w.heap.size,5,none⟩=some (.slice a b.recs.length cap))
  (first | exact ⟨(aD.refl _ _).drew,by first | assumption | go_simp,by first | assumption | go_simp,by first | assumption | go_simp,by first | assumption | go_simp,by first | assumption | go_simp,by first | assumption | go_simp,by first | assumption | go_simp⟩ | (go_split_ands;exact ⟨K0.tr aG kk,kk.cell' aG (fun e=>e),kk.cell' aG (fun e=>e),kk.cell' aG (fun e=>e),kk.cell' aG (fun e=>e),kk.cell' aG (fun e=>e),kk.cell' aG (fun e=>e),kk.cell' aG (fun e=>e)⟩))
  (first
   | (go_at_call 93;go_split_ands;refine (HCK.out _ (K0.tr HK3.out (by assumption))).mono ?_;rintro e w' ⟨rfl,kk⟩))
 go_split_ands
 rename World=>w4
 have k4:K0 w3 w4:=aG
 have HK4:Hid (K0 w w4):=K0.tr HK3.out k4
 clear d0 d1 d2 d3 d4 d5 dl p1 pl3 HK3 HY3 k4
 rcases hno with hno | ⟨hno,rfl⟩
 ·have q1:¬ er=0:=by simpa using hno
  have q2:(er==0)=false:=by simpa using q1
  have q3:decide (er=0)=false:=decide_eq_false q1
  go_wp2_with fail
  go_ret2
  exact ⟨rfl,HK4.out⟩
 ·have q1:er=0:=by simpa using hno
  subst q1
  clear hno
  go_wp2_with fail
  go_ret2
  exact ⟨rfl,HK4.out⟩
def bY (e at_ st en mem gen lead:Int) (v:Value):Array Value:=#[.int .i64 e,.int .i64 at_,.int .i64 st,.int .i64 en,.int .i64 mem,.int .i64 gen,.int .i64 lead,v,.slice none 0 0,.slice none 0 0]
def vH (at_ e:Int):Array Value:=if e=0 then bY 0 at_ 0 0 0 0 0 (.slice none 0 0) else bY e 0 0 0 0 0 0 (.slice none 0 0)
theorem aDm (at_ e:Int) (w:World):Calls Tryz.prog 67 #[.int .i64 at_,.int .i64 e] w fun en w'=>en=.returned (.agg (vH at_ e))∧K0 w w':=by
 by_cases h:e=0
 ·subst h
  unfold vH
  rw [if_pos rfl]
  unfold bY
  go_enter Tryz.func67,Tryz.ntmps67
  go_wp2_with fail
  refine bodyPost_ret (v:=.agg #[.int .i64 0,.int .i64 at_,.int .i64 0,.int .i64 0,.int .i64 0,.int .i64 0,.int .i64 0,.slice none 0 0,.slice none 0 0,.slice none 0 0]) ?_ rfl ⟨rfl,(aD.refl _ _).alloc _⟩
  rw [eJ rfl]
  go_simp
 ·have h1:(e != 0)=true:=by simpa using h
  have h2:(e==0)=false:=by simpa using h
  unfold vH
  rw [if_neg h]
  unfold bY
  go_enter Tryz.func67,Tryz.ntmps67
  go_wp2_with fail
  refine bodyPost_ret (v:=.agg #[.int .i64 e,.int .i64 0,.int .i64 0,.int .i64 0,.int .i64 0,.int .i64 0,.int .i64 0,.slice none 0 0,.slice none 0 0,.slice none 0 0]) ?_ rfl ⟨rfl,(aD.refl _ _).alloc _⟩
  rw [eJ rfl]
  go_simp
end Go.Proofs.YteapahcklcldkaaGreatDoor
