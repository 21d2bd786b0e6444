/-
  The statement is proved: all that it reaches, in parts.
-/
import Derived.Test.YteapahcklcldkaaGreatDoorW43
set_option maxRecDepth 100000
set_option maxHeartbeats 16000000
namespace Go.Proofs.YteapahcklcldkaaGreatDoor
open Go.RowKit Fx
theorem aUy {s t:ByteArray} (h:s.data.toList=t.data.toList):s=t:=by
 cases s with
 | mk a=>cases t with
  | mk b=>
   have:a=b:=Array.toList_inj.1 h
   rw [this]
def qP (fs:List aY):List ByteArray:=eS::fs.map (·.nm)
theorem sJ.keys {k:Nat} {D:Dsk.aS} {mt:ByteArray} {fs:List aY} (h:sJ k D mt fs):Dsk.cR D.files=qP fs:=by
 unfold Dsk.cR qP
 rw [h.files]
 simp [Function.comp_def]
theorem aJx {fs:List aY} (h:vR fs):((qP fs).map fun s=>s.data.toList).Pairwise (fun x y=>x≤y):=by
 unfold qP
 rw [List.map_cons,List.pairwise_cons]
 constructor
 ·intro x hx
  rw [List.map_map] at hx
  obtain ⟨f,hf,rfl⟩:=List.mem_map.1 hx
  show eS.data.toList≤f.nm.data.toList
  rw [(h.nm f hf).1]
  exact List.le_of_lt (aTz _)
 ·rw [List.map_map,List.pairwise_map]
  refine h.sort.imp_of_mem ?_
  intro f g hf hg hlt
  show f.nm.data.toList≤g.nm.data.toList
  obtain ⟨f1,f2,f3⟩:=h.nm f hf
  obtain ⟨g1,g2,g3⟩:=h.nm g hg
  rw [f1,g1]
  exact List.le_of_lt (aJz aA aA)
theorem aHf {fs:List aY} (h:vR fs) {ss:List ByteArray} (hp:ss.Perm (qP fs)) (hs:(ss.map fun s=>s.data.toList).Pairwise (fun x y=>x≤y)):ss=qP fs:=by
 have h1:=List.Perm.eq_of_pairwise (le:=fun x y:List UInt8=>x≤y) (fun a b _ _ h1 h2=>List.le_antisymm h1 h2) hs (aJx h) (hp.map _)
 have inj:∀ {a b:List ByteArray},a.map (fun s=>s.data.toList)=b.map (fun s=>s.data.toList)→a=b:=by
  intro a
  induction a with
  | nil=>intro b e;cases b with
   | nil=>rfl
   | cons _ _=>simp at e
  | cons x a ih=>intro b e;cases b with
   | nil=>simp at e
   | cons y b=>
    simp only [List.map_cons,List.cons.injEq] at e
    rw [aUy e.1,ih e.2]
 exact inj h1
def wC (fs:List aY) (s:ByteArray):Option (Int×List aR):=(fs.find? fun f=>decide (f.nm=s)).map fun f=>(f.base,f.Bs)
theorem vR.tail {f:aY} {fs:List aY} (h:vR (f::fs)):vR fs where
 nm:=fun g hg=>h.nm g (List.mem_cons_of_mem _ hg)
 pos:=fun g hg=>h.pos g (List.mem_cons_of_mem _ hg)
 bs:=fun g hg=>h.bs g (List.mem_cons_of_mem _ hg)
 rise:=fun g hg=>h.rise g (List.mem_cons_of_mem _ hg)
 few:=fun g hg=>h.few g (List.mem_cons_of_mem _ hg)
 riseF:=by
  cases fs with
  | nil=>exact trivial
  | cons g r=>exact h.riseF.2
 sort:=(List.pairwise_cons.1 h.sort).2
theorem aTp {fs:List aY} (h:vR fs):∀ f∈fs,(fs.find? fun g=>decide (g.nm=f.nm))=some f:=by
 induction fs with
 | nil=>intro f hf;cases hf
 | cons a r ih=>
  intro f hf
  rcases List.mem_cons.1 hf with rfl | hf2
  ·simp
  ·have hne:¬ a.nm=f.nm:=fun e=>by
    obtain ⟨a1,a2,a3⟩:=h.nm a (List.mem_cons_self)
    obtain ⟨f1,f2,f3⟩:=h.nm f hf
    rw [a1,f1] at e
    have:=aJ0 aA aA e
    have:=(List.pairwise_cons.1 h.sort).1 f hf2
    omega
   rw [List.find?_cons_of_neg (by simpa using hne)]
   exact ih h.tail f hf2
theorem aP3 {fs:List aY} (h:vR fs) {f:aY} (hf:f∈fs):wC fs f.nm=some (f.base,f.Bs):=by
 unfold wC
 rw [aTp h f hf]
 rfl
theorem aGk {fs:List aY} {s:ByteArray} {n:Int} {Bs:List aR} (e:wC fs s=some (n,Bs)):∃ f∈fs,f.nm=s∧f.base=n∧f.Bs=Bs:=by
 unfold wC at e
 cases hf:fs.find? (fun f=>decide (f.nm=s)) with
 | none=>rw [hf] at e;cases e
 | some f=>
  rw [hf] at e
  have e2:=Option.some.inj e
  have h2:=List.find?_some hf
  exact ⟨f,List.mem_of_find?_eq_some hf,by simpa using h2,congrArg Prod.fst e2,congrArg Prod.snd e2⟩
theorem aGj {fs:List aY} (h:vR fs):wC fs eS=none:=by
 cases e:wC fs eS with
 | none=>rfl
 | some p=>
  obtain ⟨f,hf,h1,_⟩:=aGk (n:=p.1) (Bs:=p.2) e
  rw [(h.nm f hf).1] at h1
  exact absurd h1 (zD _)
theorem xI {fs:List aY} (h:vR fs):cU (wC fs) (qP fs)=fs:=by
 unfold cU qP
 rw [List.filterMap_cons,aGj h]
 simp only [Option.map_none]
 have hg:∀ f∈fs,((wC fs f.nm).map fun p=>(⟨f.nm,p.1,p.2⟩:aY))=some f:=fun f hf=>by rw [aP3 h hf];rfl
 have key:∀ (r:List aY),(∀ f∈r,((wC fs f.nm).map fun p=>(⟨f.nm,p.1,p.2⟩:aY))=some f)→(r.map (·.nm)).filterMap (fun s=>(wC fs s).map fun p=>(⟨s,p.1,p.2⟩:aY))=r:=by
  intro r
  induction r with
  | nil=>intro _;rfl
  | cons a r ih=>
   intro hr
   rw [List.map_cons,List.filterMap_cons,hr a (List.mem_cons_self)]
   simp only
   rw [ih (fun f hf=>hr f (List.mem_cons_of_mem _ hf))]
 exact key fs hg
section
variable {k:Nat} {D:Dsk.aS} {mt:ByteArray} {fs:List aY}
theorem sJ.get (h:sJ k D mt fs) (_hf:vR fs) {f:aY} (hm:f∈fs):aQ D.files f.nm=some ⟨bN f.Bs,(bN f.Bs).size⟩:=by
 refine eO h.wf.keys ?_
 rw [h.files]
 exact List.mem_cons_of_mem _ (List.mem_map.2 ⟨f,hm,rfl⟩)
theorem sJ.meta_ (h:sJ k D mt fs):aQ D.files eS=some ⟨mt,mt.size⟩:=by
 rw [h.files]
 simp [aQ]
theorem sJ.isS (h:sJ k D mt fs) {s:ByteArray} (hs:s∈Dsk.cR D.files):s=eS∨∃ f∈fs,f.nm=s:=by
 rw [h.keys] at hs
 rcases List.mem_cons.1 hs with e | e
 ·exact .inl e
 ·obtain ⟨f,hf,e⟩:=List.mem_map.1 e
  exact .inr ⟨f,hf,e⟩
theorem sJ.no (h:sJ k D mt fs) (hf:vR fs) {s:ByteArray} (h1:s≠eS) (h2:∀ n,s≠bB pV n):Dsk.bJ D s=6:=by
 rw [lQ h.fuse]
 cases e:aQ D.files s with
 | none=>rfl
 | some x=>
  have hm:s∈Dsk.cR D.files:=List.mem_map.2 ⟨(s,x),kL e,rfl⟩
  rcases h.isS hm with e | ⟨f,hfm,e⟩
  ·exact absurd e h1
  ·rw [(hf.nm f hfm).1] at e
   exact absurd e.symm (h2 _)
theorem mJ {s:ByteArray} (hs:s.size≠18) (n:Nat):s≠bB pV n:=fun e=>by
 have h:=congrArg ByteArray.size e
 rw [kG,iU] at h
 omega
theorem aEt (_h:sJ k D mt fs) (hf:vR fs) {f:aY} (hm:f∈fs):aDv f.Bs f.base 200:=by
 have hbs:=hf.bs f hm
 have hpos:∀ j,j<f.Bs.length→(bN (f.Bs.take j)).size<60:=hf.few f hm
 have hlen:f.Bs.length≤61:=by
  rcases Nat.lt_or_ge 61 f.Bs.length with hl | hl
  ·exfalso
   have h1:=hpos 60 aA
   have h3:∀ (l:List aR),l.length≤(bN l).size:=by
    intro l
    have h4:∀ (l:List aR) (s:ByteArray),s.size+l.length≤(l.foldl (fun s b=>s++aZ b) s).size:=by
     intro l
     induction l with
     | nil=>intro s;exact Nat.le_refl _
     | cons c l ih=>
      intro s
      have h5:=ih (s++aZ c)
      rw [ByteArray.size_append] at h5
      have h6:=dX c
      rw [List.foldl_cons,List.length_cons]
      omega
    have:=h4 l ⟨#[]⟩
    unfold bN
    omega
   have h2:=h3 (f.Bs.take 60)
   rw [List.length_take] at h2
   omega
  ·exact hl
 refine ⟨fun b hb=>⟨(hbs b hb).ok,(hbs b hb).few,by have:=(hbs b hb).base;omega⟩,hf.rise f hm,by decide,fun j hj=>?_,by omega,?_⟩
 ·have:=hpos j hj;omega
 ·have:=aR6 f.Bs hbs;omega
theorem aT9 (h:sJ k D mt fs) (hf:vR fs):∀ s∈Dsk.cR D.files,aDw pV 60 200 D (wC fs) s:=fun s hs=>by
 rcases h.isS hs with rfl | ⟨f,hm,rfl⟩
 ·unfold aDw
  rw [aGj hf]
  exact fun wx=>aGb pV eS 60 200 wx (by rw [iU];decide) aLv
 ·unfold aDw
  rw [aP3 hf hm]
  obtain ⟨f1,f2,f3⟩:=hf.nm f hm
  have hz:f.nm.size=18:=by rw [f1,kG,iU]
  refine ⟨fun wx=>?_,aEt h hf hm,?_,?_,⟨f2,by omega⟩,by omega,by omega⟩
  ·have:=aMs pV 60 200 f.base.toNat wx (by rw [iU];decide) aA
   rw [← f1,Int.toNat_of_nonneg f2] at this
   exact this
  ·unfold Dsk.jM Dsk.dI
   rw [lQ h.fuse,h.get hf hm]
   rfl
  ·rw [lQ h.fuse,h.get hf hm]
   rfl
theorem aWa (hf:vR fs):∀ s n Bs,wC fs s=some (n,Bs)→0<fL n Bs:=fun s n Bs e=>by
 obtain ⟨f,hm,_,rfl,rfl⟩:=aGk e
 have:=aUk (hf.rise f hm) (hf.pos f hm)
 have:=(hf.nm f hm).2.1
 omega
theorem aT7 (h:sJ k D mt fs) (hf:vR fs) (hl:fs.length≤1000):aSw fs where
 pos:=fun f hm=>List.length_pos_iff.2 (hf.pos f hm)
 len:=fun _f hm=>(aEt h hf hm).len
 few:=fun f hm b hb=>⟨(hf.bs f hm b hb).few,(hf.bs f hm b hb).span.1,(hf.bs f hm b hb).span.2⟩
 size:=fun _f hm=>(aEt h hf hm).size
 num:=hl
theorem aEs (h:sJ k D mt fs):D.files.length=fs.length+1:=by rw [h.files];simp
end
theorem aT8 {k:Nat} {D:Dsk.aS} {mt:ByteArray} {fs:List aY} {w:World} {FD:Nat→Prop} {db:Nat} (hd:aU w FD db D) (h:sJ k D mt fs) (hf:vR fs) (hl:fs.length≤800) (hst:bF w) (hn0:¬ FD 0) :
  Calls Tryz.prog 262 #[.pointer (some ⟨db,0,none⟩),.agg #[.string pV,.int .i64 60,.int .i64 200]] w fun e w'=>∃ lb,e=.returned (.tuple #[.pointer (some ⟨lb,0,none⟩),.int .i64 0])∧kA FD db D pV 60 fs lb w w':=
 aBf hd h.wf (uP h.fuse) (by rw [aEs h];omega) hst hn0 pV 60 (by rw [iU];decide) aE
  (h.no hf (fun e=>absurd (congrArg ByteArray.size e) (by show ¬ (pV++_).size=4;rw [ByteArray.size_append,iU];decide)) (mJ (by show (pV++_).size≠18;rw [ByteArray.size_append,iU];decide)))
  (h.no hf (fun e=>absurd (congrArg ByteArray.size e) (by show ¬ (pV++_).size=4;rw [ByteArray.size_append,iU];decide)) (mJ (by show (pV++_).size≠18;rw [ByteArray.size_append,iU];decide)))
  (h.no hf (fun e=>absurd (congrArg ByteArray.size e) (by show ¬ (pV++_).size=4;rw [ByteArray.size_append,iU];decide)) (mJ (by show (pV++_).size≠18;rw [ByteArray.size_append,iU];decide)))
  (wC fs) (aT9 h hf) (fun ss h1 h2=>by rw [h.keys] at h1;rw [aHf hf h1 h2,xI hf];exact hf.riseF) (aWa hf) fs (fun ss h1 h2=>by rw [h.keys] at h1;rw [aHf hf h1 h2,xI hf])
theorem aQ6 {k:Nat} {D:Dsk.aS} {mt:ByteArray} {fs:List aY} (h:sJ k D mt fs) (hf:vR fs) (hl:fs.length≤800):zO D cM where
 wf:=h.wf
 fuse:=uP h.fuse
 few:=by rw [aEs h];omega
 s:=h.no hf (fun e=>absurd (congrArg ByteArray.size e) aE) (mJ aE)
 f:=h.no hf (fun e=>absurd (congrArg ByteArray.size e) aE) (mJ aE)
 w:=h.no hf (fun e=>absurd (congrArg ByteArray.size e) aE) (mJ aE)
 no:=fun s hs=>by
  rcases h.isS hs with rfl | ⟨f,hm,rfl⟩
  ·exact aF
  ·rw [(hf.nm f hm).1]
   show Lib.hasPrefix (nmL _) _=false
   rw [aA4]
   rfl
theorem aWb {k:Nat} {D:Dsk.aS} {mt:ByteArray} {fs:List aY} (h:sJ k D mt fs) (hf:vR fs):∀ s∈Dsk.cR D.files,isP s=false∨isP s=true∧∃ n,s=bB (fE 0 0) n:=fun s hs=>by
 rcases h.isS hs with rfl | ⟨f,hm,rfl⟩
 ·left;kernel_rfl
 ·right
  refine ⟨?_,_,(hf.nm f hm).1⟩
  rw [(hf.nm f hm).1]
  show Lib.hasPrefix (nmL _) _=true
  rw [aA4]
  rfl
def kK:Tpc.gG:=⟨1,[(tM,((0:Int),(1:Int)))]⟩
theorem aL6:Tpc.tS kK:=aL7 tM aE
theorem aVe:(putB 0).size=1:=by kernel_rfl
theorem aT0:cA oU 0 0 1:=by
 have:=cA.of ⟨#[]⟩ (Tpc.bE kK) (n:=0) aE
 have e1:(⟨#[]⟩:ByteArray)++putB 0++Tpc.bE kK=oU:=by rw [iP];rfl
 rw [e1,aVe] at this
 exact this
theorem aQs:oU.extract 1 oU.size=Tpc.bE kK:=by
 have h:=rH (putB 0) (Tpc.bE kK) ⟨#[]⟩
 rw [mX] at h
 have hz:=aVe
 have hs:oU.size=1+(Tpc.bE kK).size:=by
  show (putB 0++Tpc.bE kK).size=_
  rw [ByteArray.size_append,hz]
 rw [hz,← hs] at h
 exact h
theorem aJ4 (wx:World):Calls Tryz.prog 181 #[.string (Tpc.bE kK)] wx fun e w'=>∃ tb2 tm2,e=.returned (.tuple #[.pointer (some ⟨tb2,0,none⟩),.int .i64 0])∧Tpc.cP w' tb2 tm2 kK∧wx.heap.size≤tb2∧wx.heap.size≤tm2∧K0 wx w':=by
 obtain ⟨p1,p2,p3⟩:=Tpc.xQ aL6 (aIf 1 tM (0,1)).ord
 have p4:=(Tpc.aBc p1).1
 have hz1:(Tpc.bE kK).size≤2620:=by have:=Tpc.mZ aL6 kK.all.length;rw [List.take_length] at this;exact this
 refine (Tpc.aDa (Tpc.bE kK) wx aA).mono ?_
 intro e w' h
 rcases h with ⟨h,_⟩ | ⟨_,tb2,m2,h1,h2,h3,h4,h5⟩
 ·exact absurd p1 h
 ·rw [p4,p2,p3] at h2
  exact ⟨tb2,m2,h1,h2,h3,h4,h5⟩
theorem aE6 {w:World} {FD:Nat→Prop} {db stb tb pm cb:Nat} {lim:Int} {v5:Value} {D:Dsk.aS} (hb:w.heap[stb]?=some (stV db lim 0 tb pm v5 cb)) (hd:aU w FD db D) (hfu:D.fuse=-1) (hm:aQ D.files eS=some ⟨oU,oU.size⟩) :
  Calls Tryz.prog 127 #[.pointer (some ⟨stb,0,none⟩)] w fun e w'=>e=.returned (.int .i64 0)∧∃ tb2 tm2,w'.heap[stb]?=some (stV db lim 0 tb2 pm v5 cb)∧Tpc.cP w' tb2 tm2 kK∧w.heap.size≤tb2∧w.heap.size≤tm2∧aD (fun j=>j=stb) w w':=by
 have hb':w.heap[stb]?=some (.cells #[.pointer (some ⟨db,0,none⟩),.int .i64 lim,.int .i64 0,.pointer (some ⟨tb,0,none⟩),.map (some pm),v5,.pointer (some ⟨cb,0,none⟩)] 264 (0,0)):=hb
 have HRD:Hid (Calls Tryz.prog 180 #[.pointer (some ⟨db,0,none⟩),.string ⟨#[109,101,116,97]⟩] w fun e w'=>e=.returned (.tuple #[.string oU,.int .i64 0])∧K0 w w'):=by
  have:=yY hd eS
  have h1:Dsk.bJ D eS=0:=by rw [lQ hfu,hm];rfl
  have h2:Dsk.jM D eS=oU:=by unfold Dsk.jM Dsk.dI;rw [h1,hm];rfl
  rwa [h1,h2] at this
 have HG:Hid (∀ wx,Calls Tryz.prog 170 #[.string oU,.int .i64 0] wx fun e w'=>e=.returned (.tuple #[.int .i64 0,.int .i64 1,.int .i64 0])∧w'=wx):=fun wx=>aV2 aT0 wx (by rw [kT];decide) (by rw [kT];decide)
 have HP:=Lib.hid aJ4
 have hx:=aQs
 have hz:=kT
 obtain ⟨t,ht⟩:∃ t,t=oU:=⟨_,rfl⟩
 rw [← ht] at HRD HG hx hz
 obtain ⟨p,hp⟩:∃ p,p=Tpc.bE kK:=⟨_,rfl⟩
 rw [← hp] at HP hx
 have hl:(1:Int)≤t.size:=aA
 have HX:=Lib.hid hx
 have HZ:=Lib.hid hz
 have HB:=Lib.hid hb'
 have c0:w.cell? ⟨stb,0,none⟩=some (.pointer (some ⟨db,0,none⟩)):=aB hb' 0
 have lt:stb<w.heap.size:=aC hb'
 clear hd hm hb hb' hx ht hp hz
 go_enter Tryz.func127,Tryz.ntmps127
 go_wp2_with fail
 refine HRD.out.mono ?_
 rintro e w1 ⟨rfl,k1⟩
 have HK1:=Lib.hid k1
 clear k1 c0 lt
 go_wp2_with fail
 refine (HG.out _).mono ?_
 rintro e w2 ⟨rfl,rfl⟩
 go_wp2_with fail
 rw [HX.out]
 refine (HP.out _).mono ?_
 rintro e w3 ⟨tb2,tm2,rfl,h1,h2,h3,k3⟩
 have hb3:=((K0.tr HK1.out k3).block _ (aC HB.out) (fun e=>e)).trans HB.out
 have c2:=aB hb3 2
 have c3:=aB hb3 3
 have f2:=aH hb3 2
 have f3:=aH hb3 3
 have lt3:=aC hb3
 have HB3:=Lib.hid hb3
 have HT:=Lib.hid h1
 have HZ2:Hid (w.heap.size≤tb2∧w.heap.size≤tm2):=⟨Nat.le_trans HK1.out.size h2,Nat.le_trans HK1.out.size h3⟩
 have HK3:=Lib.hid (K0.tr HK1.out k3)
 clear h1 h2 h3 k3 hb3
 go_wp2_with fail
 go_ret
 have ls:=aC HB.out
 have kk:aD (fun j=>j=stb) w3 ((w3.setCell ⟨stb,2,none⟩ (.int .i64 0)).setCell ⟨stb,3,none⟩ (.pointer (some ⟨tb2,0,none⟩))):=by
  have h0:aD (fun j=>j=stb) w3 w3:=aD.refl _ _
  exact (h0.setC _ _ (fun _=>rfl)).setC _ _ (fun _=>rfl)
 refine ⟨rfl,tb2,tm2,aM (aM HB3.out 2 _) 3 _,HT.out.keep kk (fun e=>by have:=HZ2.out.1;have e':tb2=stb:=e;omega) (fun e=>by have:=HZ2.out.2;have e':tm2=stb:=e;omega),HZ2.out.1,HZ2.out.2,(HK3.out.mono (S1:=fun j=>j=stb) (fun _ _ e=>e.elim)).trans kk (fun _ _ e=>e)⟩
section
variable {w w':World} {F FD FD' FP:Nat→Prop} {stb db tb tm pm cb:Nat} {lim nx:Int} {t t':Tpc.gG} {L L':List (gX×Value)} {D D':Dsk.aS} {v5:Value}
theorem uA.cells (h:uA w F stb db lim nx t L D tb tm pm v5 cb FD FP):w.heap[stb]?=some (.cells #[.pointer (some ⟨db,0,none⟩),.int .i64 lim,.int .i64 nx,.pointer (some ⟨tb,0,none⟩),.map (some pm),v5,.pointer (some ⟨cb,0,none⟩)] 264 (0,0)):=h.blk
theorem uA.redisk (h:uA w F stb db lim nx t L D tb tm pm v5 cb FD FP) (hd:aU w' FD' db D') (hm:aP FD FD' w w'):uA w' (fun j=>F j∨FD' j) stb db lim nx t L D' tb tm pm v5 cb FD' FP∧aP F (fun j=>F j∨FD' j) w w':=by
 have hb:=aC h.blk
 have t1:=h.tab.lt
 have t2:=h.tab.map.lt
 have t3:=h.map.lt
 have ap:∀ {j:Nat},j<w.heap.size→¬ FD j→¬ FD' j:=fun {j} hj hn=>(hm.guest hj hn).1
 refine ⟨⟨(hm.keeps.block _ hb h.nd.1).trans h.blk,h.tab.keep hm.keeps h.nd.2.1 h.nd.2.2.1,h.map.keep hm.keeps h.nd.2.2.2,hd,h.ne,⟨ap hb h.nd.1,ap t1 h.nd.2.1,ap t2 h.nd.2.2.1,ap t3 h.nd.2.2.2⟩,h.np,fun j e=>ap (h.lt j (h.own.2.2.2.2.2 j e)) (h.apart j e),⟨.inl h.own.1,.inl h.own.2.1,.inl h.own.2.2.1,.inl h.own.2.2.2.1,fun j e=>.inr e,fun j e=>.inl (h.own.2.2.2.2.2 j e)⟩,fun j e=>?_⟩,hm.keeps.mono (fun j _ e=>h.own.2.2.2.2.1 j e),fun j e=>?_⟩
 ·rcases e with e | e
  ·exact Nat.lt_of_lt_of_le (h.lt j e) hm.keeps.size
  ·exact hd.lt j e
 ·rcases e with e | e
  ·exact .inl e
  ·exact (hm.grows j e).imp (fun e=>h.own.2.2.2.2.1 j e) (fun e=>e)
end
abbrev uC (fs:List aY):List aR:=fs.flatMap (·.Bs)
def OpO (W:World) (F:Nat→Prop) (stb db _tb _tm pm cb:Nat) (v5:Value) (_FD:Nat→Prop) (D:Dsk.aS) (fs:List aY) (k:Nat) (wx:World):Prop:=
 if k=0 then K0 W wx
 else if k≤3 then ∃ F1 tb2 tm2 FD1,uA wx F1 stb db 60 0 kK [] D tb2 tm2 pm v5 cb FD1 (fun _=>False)∧aP F F1 W wx
 else ∃ F1 tb2 tm2 v5' FD1 FP pb Ss,uA wx F1 stb db 60 0 kK [(⟨0,0⟩,.pointer (some ⟨pb,0,none⟩))] D tb2 tm2 pm v5' cb FD1 FP∧lF wx FP pb db pV 60 Ss (cD [] (uC fs))∧Ss.map iA=fs∧aP F F1 W wx
theorem OpO.keeps {W:World} {F:Nat→Prop} {stb db tb tm pm cb:Nat} {v5:Value} {FD:Nat→Prop} {D:Dsk.aS} {fs:List aY} {k:Nat} {wx:World} (h:OpO W F stb db tb tm pm cb v5 FD D fs k wx):aD F W wx:=by
 unfold OpO at h
 split at h
 ·exact h.mono (fun _ _ e=>e.elim)
 ·split at h
  ·obtain ⟨_,_,_,_,_,h⟩:=h
   exact h.keeps
  ·obtain ⟨_,_,_,_,_,_,_,_,_,_,_,h⟩:=h
   exact h.keeps
theorem aCd {W:World} {F FD:Nat→Prop} {stb db tb tm pm cb x8 g cap kk:Nat} {D:Dsk.aS} {v5:Value} {fs:List aY} (hX:uA W F stb db 60 0 ⟨0,[]⟩ [] D tb tm pm v5 cb FD (fun _=>False)) (hD:sJ kk D oU fs) (hF:vR fs) (hl:fs.length≤800) (hst:bF W) (hF0:¬ F 0)
  (hr:W.cell? ⟨g,0,none⟩=some (.func (Fn.func 127) #[.pointer (some ⟨stb,0,none⟩)] #[])∧W.cell? ⟨g,1,none⟩=some (.func (Fn.func 128) #[] #[.pointer (some ⟨x8,0,none⟩)])∧
   W.cell? ⟨g,2,none⟩=some (.func (Fn.func 130) #[.pointer (some ⟨stb,0,none⟩)] #[])∧W.cell? ⟨g,3,none⟩=some (.func (Fn.func 131) #[.pointer (some ⟨stb,0,none⟩)] #[])∧W.cell? ⟨g,4,none⟩=some (.func (Fn.func 132) #[.pointer (some ⟨stb,0,none⟩)] #[]))
  (cx:W.cell? ⟨x8,0,none⟩=some (.pointer (some ⟨stb,0,none⟩))) (ng:¬ F g) (nx:¬ F x8) :
  Calls Tryz.prog 126 #[.slice (some ⟨g,0,none⟩) 5 cap] W fun e w'=>e=.returned (.int .i64 0)∧OpO W F stb db tb tm pm cb v5 FD D fs 5 w':=by
 have hfl:D.files.length≤900:=by rw [aEs hD];omega
 have hfu:=uP hD.fuse
 have h6:Dsk.bJ D cC=6:=hD.no hF aE (mJ aE)
 have h0F:∀ {F1:Nat→Prop} {wx:World},aP F F1 W wx→¬ F1 0:=fun hM=>(hM.guest (World.block_lt_of_cell? W _ (hst 0 aA)) hF0).1
 have hpl:∀ {F1 FD1:Nat→Prop} {tb2 tm2:Nat} {wx:World},uA wx F1 stb db 60 0 kK [] D tb2 tm2 pm v5 cb FD1 (fun _=>False)→∀ wy,K0 wx wy→Calls Tryz.prog 183 #[.pointer (some ⟨stb,0,none⟩)] wy fun e w'=>∃ g c,e=.returned (.slice (some ⟨g,0,none⟩) 1 c)∧w'.cell? ⟨g,0,none⟩=some (.int .i64 (0:Nat))∧w'.cell? ⟨g,1,none⟩=some (.int .i64 0)∧wy.heap.size≤g∧K0 wy w':=fun h wy k=>
  aJ6 (id:=((0:Nat):Int)) (k.cell' (aB h.cells 3) (fun e=>e)) (h.tab.keep k (fun e=>e) (fun e=>e)) aE
 refine aR4 (stb:=stb) (x8:=x8) (OpO W F stb db tb tm pm cb v5 FD D fs) (fun j wx hj=>?_) (fun wx hj=>?_) (fun wx hj=>?_) (fun wx hj=>?_) (fun wx hj=>?_) (fun wx hj=>?_) (show K0 W W from aD.refl _ _)
 ·have hk:=hj.keeps
  have hg:∀ i v,W.cell? ⟨g,i,none⟩=some v→wx.cell? ⟨g,i,none⟩=some v:=fun i v e=>hk.cell' e ng
  exact ⟨hg _ _ hr.1,hg _ _ hr.2.1,hg _ _ hr.2.2.1,hg _ _ hr.2.2.2.1,hg _ _ hr.2.2.2.2⟩
 ·have hk:K0 W wx:=hj
  have hx:=hX.keep hk (fun _ _ e=>e)
  refine (aE6 hx.blk hx.disk hD.fuse hD.meta_).mono ?_
  rintro e w' ⟨rfl,tb2,tm2,q1,q2,q3,q4,q5⟩
  have hs:=aC hx.blk
  have hdl:=hx.disk.lt
  refine ⟨rfl,show ∃ F1 tb2 tm2 FD1,uA w' F1 stb db 60 0 kK [] D tb2 tm2 pm v5 cb FD1 (fun _=>False)∧aP F F1 W w' from ⟨fun j=>F j∨j=tb2∨j=tm2,tb2,tm2,FD,⟨q1,q2,hx.map.keep q5 (fun e=>hx.ne.2.2.1 (by have e':pm=stb:=e;exact e')),hx.disk.keep q5 (fun j e q=>hx.nd.1 (by have q':j=stb:=q;exact q'▸e)),⟨by omega,by omega,hx.ne.2.2.1,fun e=>by have:=hx.map.lt;omega,fun e=>by have:=hx.map.lt;omega⟩,⟨hx.nd.1,fun e=>by have:=hdl _ e;omega,fun e=>by have:=hdl _ e;omega,hx.nd.2.2.2⟩,⟨fun e=>e,fun e=>e,fun e=>e,fun e=>e⟩,fun _ e=>e.elim,⟨.inl hx.own.1,.inr (.inl rfl),.inr (.inr rfl),.inl hx.own.2.2.2.1,fun j e=>.inl (hx.own.2.2.2.2.1 j e),fun _ e=>e.elim⟩,fun j e=>?_⟩,?_,fun j e=>?_⟩⟩
  ·rcases e with e | rfl | rfl
   ·exact Nat.lt_of_lt_of_le (hx.lt j e) q5.size
   ·exact q2.lt
   ·exact q2.map.lt
  ·exact (hk.mono (S1:=F) (fun _ _ e=>e.elim)).trans q5 (fun j _ e=>by have e':j=stb:=e;exact e'▸hx.own.1)
  ·have:=hk.size
   rcases e with e | rfl | rfl
   ·exact .inl e
   ·exact .inr aA
   ·exact .inr aA
 ·obtain ⟨F1,tb2,tm2,FD1,h1,hM⟩:∃ F1 tb2 tm2 FD1,uA wx F1 stb db 60 0 kK [] D tb2 tm2 pm v5 cb FD1 (fun _=>False)∧aP F F1 W wx:=hj
  refine (aBj (hM.keeps.cell' cx nx) (aB h1.cells 0) h1.disk hD.wf h6).mono ?_
  rintro e w' ⟨rfl,FD2,q1,q2⟩
  obtain ⟨z1,z2⟩:=h1.redisk q1 q2
  exact ⟨rfl,show ∃ F1 tb2 tm2 FD1,uA w' F1 stb db 60 0 kK [] D tb2 tm2 pm v5 cb FD1 (fun _=>False)∧aP F F1 W w' from ⟨_,_,_,_,z1,hM.trans z2⟩⟩
 ·obtain ⟨F1,tb2,tm2,FD1,h1,hM⟩:∃ F1 tb2 tm2 FD1,uA wx F1 stb db 60 0 kK [] D tb2 tm2 pm v5 cb FD1 (fun _=>False)∧aP F F1 W wx:=hj
  refine (aOv (id:=0) aE (by rw [aLl];decide) (aB h1.cells 0) h1.disk hD.wf hfu hfl (hpl h1) (aWb hD hF)).mono ?_
  rintro e w' ⟨rfl,k⟩
  exact ⟨rfl,show ∃ F1 tb2 tm2 FD1,uA w' F1 stb db 60 0 kK [] D tb2 tm2 pm v5 cb FD1 (fun _=>False)∧aP F F1 W w' from ⟨_,_,_,_,h1.keep k (fun _ _ e=>e),hM.k0 k⟩⟩
 ·obtain ⟨F1,tb2,tm2,FD1,h1,hM⟩:∃ F1 tb2 tm2 FD1,uA wx F1 stb db 60 0 kK [] D tb2 tm2 pm v5 cb FD1 (fun _=>False)∧aP F F1 W wx:=hj
  have h01:=h0F hM
  have hstx:bF wx:=hst.keep hM.keeps hF0
  refine (aB7 (id:=((0:Nat):Int)) (ix:=0) (fun wx w'=>aDu wx FD1 db pm D pV 60 fs [] ⟨0,0⟩ w') (hpl h1 wx (aD.refl _ _)) (fun wy k=>?_)).mono ?_
  ·have hy:=h1.keep k (fun _ _ e=>e)
   exact uZ (id:=0) (ix:=0) (aB hy.cells 0) (aB hy.cells 1) (aB hy.cells 4) hy.map hy.nd.2.2.2 hy.nd.1 hy.disk.lt
    (fun wz=>by have:=qZ 0 0 aE aE (by rw [aLl];decide) wz;exact this) (fun wz kz=>aT8 (hy.disk.k0 kz) hD hF hl ((hstx.keep0 k).keep0 kz) (fun e=>h01 (hy.own.2.2.2.2.1 0 e))) (aT7 hD hF aA)
  ·rintro e w' ⟨rfl,wy,k,pb,FPx,FD2,Ss,p1,p2,p3,p4,p5,p6,p7,p8⟩
   have hy:=h1.keep k (fun _ _ e=>e)
   have hsb:=aC hy.blk
   have t1:=hy.tab.lt
   have t2:=hy.tab.map.lt
   have t3:=hy.map.lt
   have nn:∀ {j:Nat},j<wy.heap.size→¬ FD1 j→j≠pm→¬ FD2 j∧¬ FPx j:=fun {j} hj h1 h2=>by
    have hg:=(p5.guest hj (fun e=>e.elim h1 h2)).1
    exact ⟨fun e=>hg (.inl (.inl e)),fun e=>hg (.inr e)⟩
   have nk:∀ {j:Nat},¬ FD1 j→j≠pm→¬ (FD1 j∨j=pm):=fun h1 h2 e=>e.elim h1 h2
   refine ⟨rfl,show ∃ F1 tb2 tm2 v5' FD1 FP pb Ss,uA w' F1 stb db 60 0 kK [(⟨0,0⟩,.pointer (some ⟨pb,0,none⟩))] D tb2 tm2 pm v5' cb FD1 FP∧lF w' FP pb db pV 60 Ss (cD [] (uC fs))∧Ss.map iA=fs∧aP F F1 W w' from
    ⟨fun j=>F1 j∨FD2 j∨FPx j,tb2,tm2,v5,FD2,FPx,pb,Ss,⟨(p5.keeps.block _ hsb (nk hy.nd.1 hy.ne.2.2.1.symm)).trans hy.blk,hy.tab.keep p5.keeps (nk hy.nd.2.1 hy.ne.2.2.2.1) (nk hy.nd.2.2.1 hy.ne.2.2.2.2),p4,p3,hy.ne,
     ⟨(nn hsb hy.nd.1 hy.ne.2.2.1.symm).1,(nn t1 hy.nd.2.1 hy.ne.2.2.2.1).1,(nn t2 hy.nd.2.2.1 hy.ne.2.2.2.2).1,p8⟩,⟨(nn hsb hy.nd.1 hy.ne.2.2.1.symm).2,(nn t1 hy.nd.2.1 hy.ne.2.2.2.1).2,(nn t2 hy.nd.2.2.1 hy.ne.2.2.2.2).2,fun e=>by have:=p6 _ e;omega⟩,p7,
     ⟨.inl hy.own.1,.inl hy.own.2.1,.inl hy.own.2.2.1,.inl hy.own.2.2.2.1,fun j e=>.inr (.inl e),fun j e=>.inr (.inr e)⟩,fun j e=>?_⟩,p1,p2,hM.trans ⟨?_,fun j e=>?_⟩⟩⟩
   ·rcases e with e | e | e
    ·exact Nat.lt_of_lt_of_le (hy.lt j e) p5.keeps.size
    ·exact p3.lt j e
    ·exact p1.lt j e
   ·exact (k.mono (S1:=F1) (fun _ _ e=>e.elim)).trans p5.keeps (fun j _ e=>e.elim (fun e=>hy.own.2.2.2.2.1 j e) (fun e=>e▸hy.own.2.2.2.1))
   ·have ks:=k.size
    have up:∀ j,((FD2 j∨j=pm)∨FPx j)→F1 j∨wx.heap.size≤j:=fun j e=>by
     rcases p5.grows j e with (e | e) | e
     ·exact .inl (hy.own.2.2.2.2.1 j e)
     ·exact .inl (e▸hy.own.2.2.2.1)
     ·exact .inr aA
    rcases e with e | e | e
    ·exact .inl e
    ·exact up j (.inl (.inl e))
    ·exact up j (.inr e)
 ·obtain ⟨F1,tb2,tm2,v5',FD1,FP,pb,Ss,h1,hp,hfs,hM⟩:∃ F1 tb2 tm2 v5' FD1 FP pb Ss,uA wx F1 stb db 60 0 kK [(⟨0,0⟩,.pointer (some ⟨pb,0,none⟩))] D tb2 tm2 pm v5' cb FD1 FP∧lF wx FP pb db pV 60 Ss (cD [] (uC fs))∧Ss.map iA=fs∧aP F F1 W wx:=hj
  have h01:=h0F hM
  have hstx:bF wx:=hst.keep hM.keeps hF0
  refine (yJ (id:=0) (nid:=1) (s:=tM) aE aE h1.blk h1.nd.1 h1.disk.lt h1.tab ⟨⟨h1.nd.2.1,h1.nd.2.2.1⟩,h1.ne.1,h1.ne.2.1⟩
   (fun wy k=>aBe (h1.disk.k0 k) cM (aQ6 hD hF hl) (hstx.keep0 k) (fun e=>h01 (h1.own.2.2.2.2.1 0 e)) 60 (by decide) (by decide))).mono ?_
  rintro e w' ⟨rfl,v6,FD2,q1,q2,q3,q4⟩
  have t1:=h1.tab.lt
  have t2:=h1.tab.map.lt
  have t3:=h1.map.lt
  have nk:∀ {j:Nat},¬ FD1 j→j≠stb→¬ (FD1 j∨j=stb):=fun h1 h2 e=>e.elim h1 h2
  have nn:∀ {j:Nat},j<wx.heap.size→¬ FD1 j→j≠stb→¬ FD2 j:=fun {j} hj h1 h2 e=>(q3.guest hj (nk h1 h2)).1 (.inl e)
  have nP:∀ j,FP j→j≠stb:=fun j e q=>h1.np.1 (q▸e)
  refine ⟨rfl,show ∃ F1 tb2 tm2 v5' FD1 FP pb Ss,uA w' F1 stb db 60 0 kK [(⟨0,0⟩,.pointer (some ⟨pb,0,none⟩))] D tb2 tm2 pm v5' cb FD1 FP∧lF w' FP pb db pV 60 Ss (cD [] (uC fs))∧Ss.map iA=fs∧aP F F1 W w' from
   ⟨fun j=>F1 j∨FD2 j,tb2,tm2,v6,FD2,FP,pb,Ss,⟨q2,h1.tab.keep q3.keeps (nk h1.nd.2.1 h1.ne.1) (nk h1.nd.2.2.1 h1.ne.2.1),h1.map.keep q3.keeps (nk h1.nd.2.2.2 h1.ne.2.2.1),q1,h1.ne,
    ⟨q4,nn t1 h1.nd.2.1 h1.ne.1,nn t2 h1.nd.2.2.1 h1.ne.2.1,nn t3 h1.nd.2.2.2 h1.ne.2.2.1⟩,h1.np,fun j e=>nn (h1.lt j (h1.own.2.2.2.2.2 j e)) (h1.apart j e) (nP j e),
    ⟨.inl h1.own.1,.inl h1.own.2.1,.inl h1.own.2.2.1,.inl h1.own.2.2.2.1,fun j e=>.inr e,fun j e=>.inl (h1.own.2.2.2.2.2 j e)⟩,fun j e=>?_⟩,hp.keep q3.keeps (fun j e=>nk (h1.apart j e) (nP j e)),hfs,hM.trans ⟨?_,fun j e=>?_⟩⟩⟩
  ·rcases e with e | e
   ·exact Nat.lt_of_lt_of_le (h1.lt j e) q3.keeps.size
   ·exact q1.lt j e
  ·exact q3.keeps.mono (fun j _ e=>e.elim (fun e=>h1.own.2.2.2.2.1 j e) (fun e=>e▸h1.own.1))
  ·rcases e with e | e
   ·exact .inl e
   ·rcases q3.grows j (.inl e) with (e | e) | e
    ·exact .inl (h1.own.2.2.2.2.1 j e)
    ·exact .inl (e▸h1.own.1)
    ·exact .inr e
theorem aKq {w:World} {FD:Nat→Prop} {db kk:Nat} {D:Dsk.aS} {fs:List aY} (hd:aU w FD db D) (hD:sJ kk D oU fs) (hF:vR fs) (hl:fs.length≤800) (hst:bF w) (hn0:¬ FD 0) :
  Calls Tryz.prog 62 #[.pointer (some ⟨db,0,none⟩),.int .i64 60] w fun e w'=>∃ stb F,e=.returned (.tuple #[.pointer (some ⟨stb,0,none⟩),.int .i64 0])∧vN stb db 60 D fs (cD [] (uC fs)) w' F∧mV w' stb∧aP FD F w w':=by
 have HD:=Lib.hid hd
 have HDO:=Lib.hid hD
 have HFF:=Lib.hid hF
 have HLL:=Lib.hid hl
 have HST:=Lib.hid hst
 have HN0:=Lib.hid hn0
 have HO:=Lib.hid (rP 1000 aA w)
 have hmm:=@run_makeMap Tryz.prog
 have h00:0<w.heap.size:=World.block_lt_of_cell? w _ (hst 0 aA)
 clear hd hD hF hl hst hn0
 go_enter Tryz.func62,Tryz.ntmps62
 go_wp2_with fail
 refine HO.out.mono ?_
 rintro e w1 ⟨cb,mb,rfl,ho,hcb,hmb,k1⟩
 have HOF:=Lib.hid ho
 have HK1:=Lib.hid k1
 have HCB:=Lib.hid (And.intro hcb hmb)
 clear ho k1 hcb hmb
 go_wp2_with fail
 refine (Tpc.wJ _).mono ?_
 rintro e w2 ⟨rfl,ht,k2,hz2⟩
 have HT:=Lib.hid ht
 have HK2:=Lib.hid k2
 have HZ2:=Lib.hid hz2
 clear ht k2 hz2
 go_wp2_with fail
 obtain ⟨W,hW⟩:∃ W,W=(((w2.alloc (.map #[] 0)).alloc (.cells #[.pointer (some ⟨db,0,none⟩),.int .i64 60,.int .i64 0,.pointer (some ⟨w1.heap.size+1,0,none⟩),.map (some w2.heap.size),.pointer none,.pointer (some ⟨cb,0,none⟩)] 264)).alloc (.cells #[.pointer (some ⟨w2.heap.size+1,0,none⟩)] 140)).alloc (.cells #[.func (Fn.func 127) #[.pointer (some ⟨w2.heap.size+1,0,none⟩)] #[],.func (Fn.func 128) #[] #[.pointer (some ⟨w2.heap.size+1+1,0,none⟩)],.func (Fn.func 130) #[.pointer (some ⟨w2.heap.size+1,0,none⟩)] #[],.func (Fn.func 131) #[.pointer (some ⟨w2.heap.size+1,0,none⟩)] #[],.func (Fn.func 132) #[.pointer (some ⟨w2.heap.size+1,0,none⟩)] #[]] 122):=⟨_,rfl⟩
 rw [← hW]
 have KW:K0 w2 W:=(by rw [hW];exact ((((aD.refl _ _).alloc _).alloc _).alloc _).alloc _)
 have hm:bM gX.enc W w2.heap.size []:=(by rw [hW];exact ((kF w2).keep ((((aD.refl (fun _=>False) _).alloc _).alloc _).alloc _) (fun e=>e)))
 have hb:W.heap[w2.heap.size+1]?=some (stV db 60 0 (w1.heap.size+1) w2.heap.size (.pointer none) cb):=(by rw [hW];exact aL (aL (aI _ _ _ (by simp)) _) _)
 have hx:W.cell? ⟨w2.heap.size+1+1,0,none⟩=some (.pointer (some ⟨w2.heap.size+1,0,none⟩)):=(by rw [hW];exact aB (aL (aI _ _ _ (by simp)) _) 0)
 have hg:W.heap[w2.heap.size+1+1+1]?=some (.cells #[.func (Fn.func 127) #[.pointer (some ⟨w2.heap.size+1,0,none⟩)] #[],.func (Fn.func 128) #[] #[.pointer (some ⟨w2.heap.size+1+1,0,none⟩)],.func (Fn.func 130) #[.pointer (some ⟨w2.heap.size+1,0,none⟩)] #[],.func (Fn.func 131) #[.pointer (some ⟨w2.heap.size+1,0,none⟩)] #[],.func (Fn.func 132) #[.pointer (some ⟨w2.heap.size+1,0,none⟩)] #[]] 122 (0,0)):=(by rw [hW];exact aI _ _ _ (by simp))
 have hk:K0 w W:=K0.tr HK1.out (K0.tr HK2.out KW)
 have hz:=HZ2.out
 have hz1:=HK1.out.size
 have hcb:=HCB.out
 have hFl:∀ j,FD j→j<w.heap.size:=HD.out.lt
 have hFn:∀ {j:Nat},w.heap.size≤j→¬ FD j:=fun {j} hj e=>by have:=hFl j e;omega
 have htW:Tpc.cP W (w1.heap.size+1) w1.heap.size ⟨0,[]⟩:=HT.out.keep KW (fun e=>e) (fun e=>e)
 have hofl:cb<w1.heap.size∧mb<w1.heap.size:=⟨aC HOF.out.blk,aC HOF.out.mp⟩
 have hXW:uA W (fun j=>FD j∨j=w2.heap.size+1∨j=w1.heap.size+1∨j=w1.heap.size∨j=w2.heap.size) (w2.heap.size+1) db 60 0 ⟨0,[]⟩ [] D (w1.heap.size+1) w1.heap.size w2.heap.size (.pointer none) cb FD (fun _=>False):=
  ⟨hb,htW,hm,HD.out.k0 hk,⟨by omega,by omega,by omega,by omega,by omega⟩,⟨hFn aA,hFn aA,hFn aA,hFn aA⟩,⟨fun e=>e,fun e=>e,fun e=>e,fun e=>e⟩,fun _ e=>e.elim,⟨.inr (.inl rfl),.inr (.inr (.inl rfl)),.inr (.inr (.inr (.inl rfl))),.inr (.inr (.inr (.inr rfl))),fun _ e=>.inl e,fun _ e=>e.elim⟩,fun j e=>by
   have hWs:w2.heap.size+1+1+1<W.heap.size:=aC hg
   rcases e with e | e | e | e | e
   ·have:=hFl j e;omega
   ·omega
   ·omega
   ·omega
   ·omega⟩
 have hF0:∀ {j:Nat},w.heap.size≤j→j≠w2.heap.size+1→j≠w1.heap.size+1→j≠w1.heap.size→j≠w2.heap.size→¬ (FD j∨j=w2.heap.size+1∨j=w1.heap.size+1∨j=w1.heap.size∨j=w2.heap.size):=fun {j} h1 h2 h3 h4 h5 e=>by
  rcases e with e | e | e | e | e
  ·exact hFn h1 e
  ·exact h2 e
  ·exact h3 e
  ·exact h4 e
  ·exact h5 e
 have HA:=Lib.hid (aCd (x8:=w2.heap.size+1+1) (g:=w2.heap.size+1+1+1) (cap:=5) hXW HDO.out HFF.out HLL.out (HST.out.keep0 hk) (fun e=>by
   rcases e with e | e | e | e | e
   ·exact HN0.out e
   ·omega
   ·omega
   ·omega
   ·omega)
  ⟨aB hg 0,aB hg 1,aB hg 2,aB hg 3,aB hg 4⟩ hx (hF0 (by omega) (by omega) (by omega) (by omega) (by omega)) (hF0 (by omega) (by omega) (by omega) (by omega) (by omega)))
 have HFIN:Hid (∀ w',OpO W (fun j=>FD j∨j=w2.heap.size+1∨j=w1.heap.size+1∨j=w1.heap.size∨j=w2.heap.size) (w2.heap.size+1) db (w1.heap.size+1) w1.heap.size w2.heap.size cb (.pointer none) FD D fs 5 w'→∃ F,vN (w2.heap.size+1) db 60 D fs (cD [] (uC fs)) w' F∧mV w' (w2.heap.size+1)∧aP FD F w w'):=fun w' h5=>by
  obtain ⟨F1,tb2,tm2,v5',FD1,FP,pb,Ss,q1,q2,q3,q4⟩:∃ F1 tb2 tm2 v5' FD1 FP pb Ss,uA w' F1 (w2.heap.size+1) db 60 0 kK [(⟨0,0⟩,.pointer (some ⟨pb,0,none⟩))] D tb2 tm2 w2.heap.size v5' cb FD1 FP∧lF w' FP pb db pV 60 Ss (cD [] (uC fs))∧Ss.map iA=fs∧aP (fun j=>FD j∨j=w2.heap.size+1∨j=w1.heap.size+1∨j=w1.heap.size∨j=w2.heap.size) F1 W w':=h5
  have hWz:=hk.size
  refine ⟨F1,⟨Ss,q3,tb2,tm2,w2.heap.size,v5',cb,FD1,FP,pb,q1,q2⟩,⟨cb,mb,1000,aB q1.cells 6,?_⟩,?_,fun j e=>?_⟩
  ·exact ((HOF.out.keep HK2.out (fun e=>e) (fun e=>e)).keep KW (fun e=>e) (fun e=>e)).keep q4.keeps (hF0 aA aA aA aA aA) (hF0 aA aA aA aA aA)
  ·refine (hk.mono (S1:=FD) (fun _ _ e=>e.elim)).trans q4.keeps (fun j hj e=>?_)
   rcases e with e | e | e | e | e
   ·exact e
   ·omega
   ·omega
   ·omega
   ·omega
  ·rcases q4.grows j e with (e | e | e | e | e) | e
   ·exact .inl e
   ·exact .inr aA
   ·exact .inr aA
   ·exact .inr aA
   ·exact .inr aA
   ·exact .inr aA
 have HLX:Hid (∀ w',OpO W (fun j=>FD j∨j=w2.heap.size+1∨j=w1.heap.size+1∨j=w1.heap.size∨j=w2.heap.size) (w2.heap.size+1) db (w1.heap.size+1) w1.heap.size w2.heap.size cb (.pointer none) FD D fs 5 w'→w'.cell? ⟨w2.heap.size+1+1,0,none⟩=some (.pointer (some ⟨w2.heap.size+1,0,none⟩))):=fun w' h=>h.keeps.cell' hx (hF0 (j:=w2.heap.size+1+1) aA aA aA aA aA)
 clear hW KW hm hb hx hg hk hz hz1 hcb hFl hFn htW hXW hF0 hofl
 refine HA.out.mono ?_
 rintro e w3 ⟨rfl,h5⟩
 have hx3:=HLX.out _ h5
 have H5:=Lib.hid (HFIN.out _ h5)
 clear h5
 go_wp2_with fail
 go_ret2
 obtain ⟨F,q⟩:=H5.out
 exact ⟨_,F,rfl,q⟩
theorem aF8 {w:World} {FD:Nat→Prop} {db kk:Nat} {D:Dsk.aS} {fs:List aY} {s rb:Int} (hd:aU w FD db D) (hD:sJ kk D oU fs) (hF:vR fs) (hl:fs.length≤800) (hs:1≤s∧s≤100000) (hrb:1≤rb∧rb≤100000) (hst:bF w) (hn0:¬ FD 0) :
  Calls Tryz.prog 27 #[.pointer (some ⟨db,0,none⟩),.agg #[.int .i64 s,.int .i64 rb,.int .i64 60]] w fun e w'=>∃ bb stb FQ,e=.returned (.tuple #[.pointer (some ⟨bb,0,none⟩),.int .i64 0])∧xA bb stb (vN stb db 60 D fs (cD [] (uC fs))) w' FQ∧aP FD FQ w w':=by
 have oS:=fun stb=>iQ stb db 60 D fs (cD [] (uC fs))
 refine (aAc hs hrb (fun stb F wx w'=>vN stb db 60 D fs (cD [] (uC fs)) w' F∧aP FD F wx w') (fun wx k=>?_)).mono ?_
 ·refine (aKq (hd.k0 k) hD hF hl (hst.keep0 k) hn0).mono ?_
  rintro e w' ⟨stb,F,rfl,h1,h2,h3⟩
  exact ⟨stb,F,rfl,⟨h1,h3⟩,h2⟩
 ·rintro e w' ⟨bb,cb,stb,F,wx,wy,rfl,hb,k0,⟨h1,h2⟩,k1,hle⟩
  have hlt:=(oS stb).lt h1
  refine ⟨bb,stb,fun k=>k=bb∨F k,rfl,⟨cb,F,rfl,hb,(oS stb).k0 h1 k1,fun e=>by have:=hlt _ e;omega⟩,?_,fun j e=>?_⟩
  ·exact ((k0.mono (S1:=FD) (fun _ _ e=>e.elim)).trans h2.keeps (fun _ _ e=>e)).trans k1 (fun _ _ e=>e.elim)
  ·have z1:=k0.size
   have z2:=h2.keeps.size
   rcases e with rfl | e
   ·exact .inr aA
   ·rcases h2.grows j e with e | e
    ·exact .inl e
    ·exact .inr aA
theorem aP9 {F:Nat→Prop} {w:World} {db:Nat} {D:Dsk.aS} (h:aU w F db D) (wf:Dsk.fV D) (hsf:∀ s x,aQ D.files s=some x→x.safe=x.bytes.size) (hl:D.files.length≤1000):Calls Tryz.prog 29 #[.pointer (some ⟨db,0,none⟩),.slice none 0 0] w (cZ w F db (.int .i64 0) ⟨D.room,D.used,-1,D.files⟩):=by
 obtain ⟨mb,L,h,rfl⟩:=h
 exact (Dsk.aJd h wf hsf hl).mono fun e w' q=>⟨q.1,aU.moved q.2⟩
theorem sJ.same {k:Nat} {D:Dsk.aS} {mt:ByteArray} {fs:List aY} (h:sJ k D mt fs):(⟨D.room,D.used,-1,D.files⟩:Dsk.aS)=D:=by
 have:=h.fuse
 obtain ⟨r,u,f,l⟩:=D
 cases this
 rfl
theorem sJ.allSafe {k:Nat} {D:Dsk.aS} {mt:ByteArray} {fs:List aY} (h:sJ k D mt fs):∀ s x,aQ D.files s=some x→x.safe=x.bytes.size:=fun s x e=>by
 have hm:=kL e
 rw [h.files] at hm
 rcases List.mem_cons.1 hm with e | e
 ·cases e;rfl
 ·obtain ⟨f,_,e⟩:=List.mem_map.1 e
  cases e
  rfl
theorem aVr {w:World} {bb cb stb:Nat} {nm:ByteArray} {en:Int} (hb:w.heap[bb]?=some (.cells #[.pointer (some ⟨cb,0,none⟩),.pointer (some ⟨stb,0,none⟩)] 152 (0,0)))
  (hth:∀ wx,K0 w wx→Calls Tryz.prog 82 #[.pointer (some ⟨stb,0,none⟩),.string nm,.int .i64 0] wx fun e w'=>e=.returned (.bool true)∧K0 wx w')
  (hbo:∀ wx,K0 w wx→Calls Tryz.prog 83 #[.pointer (some ⟨stb,0,none⟩),.string nm,.int .i64 0] wx fun e w'=>e=.returned (.tuple #[.int .i64 0,.int .i64 en])∧K0 wx w') :
  Calls Tryz.prog 30 #[.pointer (some ⟨bb,0,none⟩),.string nm,.int .i64 0] w fun e w'=>e=.returned (.int .i64 en)∧K0 w w':=by
 have HTH:=Lib.hid hth
 have HBO:=Lib.hid hbo
 have HB:=Lib.hid hb
 have c1:=aB hb 1
 have bl:=aC hb
 clear hth hbo hb
 go_enter Tryz.func30,Tryz.ntmps30
 go_wp2_with fail
 refine (HTH.out _ (aD.refl _ _)).mono ?_
 rintro e w2 ⟨rfl,k2⟩
 have d1:=k2.cell' c1 (fun e=>e)
 have bl2:=Nat.lt_of_lt_of_le bl k2.size
 have HK2:=Lib.hid k2
 clear c1 bl k2
 go_wp2_with fail
 refine (HBO.out _ HK2.out).mono ?_
 rintro e w3 ⟨rfl,k3⟩
 have HK3:=Lib.hid k3
 clear k3
 go_wp2_with fail
 go_ret
 exact ⟨rfl,K0.tr HK2.out HK3.out⟩
def yG (db bb n:Nat) (Bs:List aR) (q:Int) (w:World) (FQ:Nat→Prop):Prop:=∃ stb D fs,xA bb stb (vN stb db 60 D fs (cD [] Bs)) w FQ∧sJ n D oU fs∧OnL fs∧uC fs=Bs∧fs.length≤n∧rU fs=q
theorem kZ (db bb n:Nat) (Bs:List aR) (q:Int):gL (yG db bb n Bs q):=
 ⟨fun h k hG g0=>by
  obtain ⟨stb,D,fs,h,r⟩:=h
  exact ⟨stb,D,fs,(rN (iQ _ _ _ _ _ _)).keep h k hG g0,r⟩,fun h=>by
  obtain ⟨stb,D,fs,h,r⟩:=h
  exact (rN (iQ _ _ _ _ _ _)).lt h⟩
def onQ (ep sp sq:Int):fG:=mU 4 0 true ⟨0,sp,3,ep,sq,[]⟩ none 0
def onB (q sp:Int):aR:=⟨q,sp,3,2,q,[]⟩
theorem aV9 {q sp:Int} (hq:0≤q∧q≤550) (hs:1≤sp∧sp≤50):OnB (onB q sp):=⟨rfl,rfl,rfl,rfl,hq,hs⟩
structure OnR (ep sp sq:Int):Prop where
 ep:0≤ep∧ep≤32768
 sp:1≤sp∧sp≤50
 sq:0≤sq∧sq≤1000
theorem aEr {ep sp sq:Int} (h:OnR ep sp sq) {b0:Int} (hb:0≤b0∧b0≤1000):dH ⟨b0,sp,3,ep,sq,[]⟩∧(aZ ⟨b0,sp,3,ep,sq,[]⟩).size≤68∧kP ⟨b0,sp,3,ep,sq,[]⟩=false:=by
 have h1:=h.ep
 have h2:=h.sp
 have h3:=h.sq
 have hz:(bV ⟨b0,sp,3,ep,sq,[]⟩).size≤60:=by
  have p0:=dP (n:=b0) ⟨by omega,by omega⟩
  have p1:=dP (n:=sp) ⟨by omega,by omega⟩
  have p2:=dP (n:=3) aE
  have p3:=dP (n:=ep) ⟨by omega,by omega⟩
  have p4:=dP (n:=sq) ⟨by omega,by omega⟩
  have p5:=dP (n:=((([]:List dY).length:Nat):Int)) aE
  unfold bV iH nU
  simp only [List.foldl_nil,List.take_succ_cons,List.take_zero,List.foldl_cons,ByteArray.size_append]
  show 0+_+_+_+_+_+_≤60
  omega
 refine ⟨⟨⟨hb.1,by show b0≤_;omega⟩,h2,.inr ⟨by show (0:Int)≤3;decide,by show (3:Int)≤_;decide,h1.1,h1.2,h3.1,by show sq≤_;omega⟩,Nat.zero_le _,fun k hk=>absurd hk (Nat.not_lt_zero _),by omega⟩,by rw [dX];omega,?_⟩
 unfold kP
 simp
theorem aQ5 {ep sp sq:Int} (h:OnR ep sp sq):jJ (onQ ep sp sq)∧(gY (onQ ep sp sq).bat).size≤59000:=by
 obtain ⟨h1,h2,h3⟩:=aEr h (b0:=0) aE
 have hz:(gY (onQ ep sp sq).bat).size≤68:=by
  unfold gY
  rw [if_neg (by show ¬ kP ⟨0,sp,3,ep,sq,[]⟩=true;rw [h3];decide)]
  exact h2
 exact ⟨nA aE aE (by show (gY (onQ ep sp sq).bat).size≤_;omega),by omega⟩
theorem aLy {ep sp sq:Int} (h:OnR ep sp sq) {w:World} (hst:bF w) (h0:0<w.heap.size):∀ wx,K0 w wx→Calls Tryz.prog 34 #[.agg (onQ ep sp sq).cells.toList.toArray] wx fun e w'=>e=.returned (.tuple #[.string (bR (lC (onQ ep sp sq))),.int .i64 0])∧K0 wx w':=fun wx k=>by
 obtain ⟨h1,h2,h3⟩:=aEr h (b0:=0) aE
 exact aEd (D:=fun _=>False) (aQ5 h).1 (aQ5 h).2 (.inr ⟨h3,h1,gB.nil _ _ _ rfl⟩) (fun _ e=>e.elim) (hst.keep0 k) (Nat.lt_of_lt_of_le h0 k.size)
theorem aPs (w:World) (b:aR) (h:b.recs=[]):dN (fun _=>False) w b none 0:=⟨gB.nil _ _ _ h,fun i hi=>by rw [h] at hi;exact absurd hi (Nat.not_lt_zero _),fun _=>⟨rfl,rfl⟩⟩
section
variable {db bb n:Nat} {Bs:List aR} {q:Int} {w:World} {FQ:Nat→Prop} {ep sp sq:Int}
theorem aQ9 (h:yG db bb n Bs q w FQ) (hq:0≤q∧q≤550) (hs:1≤sp∧sp≤50) (hn:n≤100) (hst:bF w) (hz:¬ FQ 0) (hck:Idm.eP (cD [] Bs) (bI (onB q sp))=(0,false,0)) :
  Calls Tryz.prog 28 #[.pointer (some ⟨bb,0,none⟩),(onQ 2 sp q).val,.int .i64 1] w fun e w'=>e=.returned (.agg (bY 0 q 0 0 0 0 0 (.slice none 0 0)))∧∃ FQ',yG db bb (n+1) (Bs++[onB q sp]) (q+sp) w' FQ'∧aP FQ FQ' w w':=by
 obtain ⟨stb,D,fs,hB,hD,hL,hBs,hfl,hen⟩:=h
 have hOb:=aV9 hq hs
 have hR:OnR 2 sp q:=⟨by decide,hs,⟨hq.1,by omega⟩⟩
 obtain ⟨D',fs',l1,l2,l3,l4,l5⟩:=aWd hD hL hOb hen hn
 have h0:0<w.heap.size:=World.block_lt_of_cell? w _ (hst 0 aA)
 have hwf:=rM zL Bs
 have hv:(onQ 2 sp q).val=.agg (onQ 2 sp q).cells.toList.toArray:=rfl
 rw [hv]
 refine (aPw (cs:=(onQ 2 sp q).cells.toList) (b:=onB q sp) (b0:=0) (a:=none) (cap:=0) (D0:=fun _=>False) hB ⟨rfl,rfl,rfl,rfl,rfl,rfl,rfl,rfl,rfl,rfl,rfl⟩ l1 aA hOb.ok (by have:=hOb.enc;omega) (aPs _ _ rfl) hOb.few hst hz (fun _ e=>e.elim) hck hwf (aLy hR hst h0)).mono ?_
 rintro e w' ⟨rfl,FQ',h1,h2⟩
 have hM:Idm.hZ (cD [] Bs) (bI (onB q sp))=cD [] (Bs++[onB q sp]):=by rw [oV];rfl
 rw [hM] at h1
 have l4':uC fs'=uC fs++[onB q sp]:=l4
 exact ⟨rfl,FQ',⟨stb,D',fs',h1,l2,l3,by rw [l4',hBs],by omega,l1.stop⟩,h2⟩
theorem wL (h:yG db bb n Bs q w FQ) (hq:0≤q∧q≤1000) (hR:OnR ep sp sq) (hst:bF w) {r er:Int} {again:Bool} (hck:Idm.eP (cD [] Bs) (bI ⟨q,sp,3,ep,sq,[]⟩)=(r,again,er)) (hno:(er != 0)=true∨((er != 0)=false∧again=true)) {e1 a1:Int} (hte:vH r er=bY e1 a1 0 0 0 0 0 (.slice none 0 0)) :
  Calls Tryz.prog 28 #[.pointer (some ⟨bb,0,none⟩),(onQ ep sp sq).val,.int .i64 1] w fun e w'=>e=.returned (.agg (bY e1 a1 0 0 0 0 0 (.slice none 0 0)))∧∃ FQ',yG db bb n Bs q w' FQ'∧aP FQ FQ' w w':=by
 obtain ⟨stb,D,fs,⟨cb,FS,rfl,hbk,hs,hnb⟩,r1⟩:=h
 obtain ⟨hD,hL,hBs,hfl,hen⟩:=r1
 have h0:0<w.heap.size:=World.block_lt_of_cell? w _ (hst 0 aA)
 have hlt:=(iQ stb db 60 D fs (cD [] Bs)).lt hs
 obtain ⟨b1,b2,b3⟩:=aEr hR (b0:=q) hq
 have hv:(onQ ep sp sq).val=.agg (onQ ep sp sq).cells.toList.toArray:=rfl
 rw [hv]
 refine (uF (cs:=(onQ ep sp sq).cells.toList) (nm:=tM) (ix:=0) (b0:=0) (b1:=sp) (b2:=3) (b3:=ep) (b4:=sq) (fl:=true) (a:=none) (nr:=0) (cap:=0) hte hbk rfl rfl rfl rfl rfl rfl rfl rfl rfl rfl rfl (aLy hR hst h0) (fun wx wy=>∃ F',vN stb db 60 D fs (cD [] Bs) wy F'∧aP FS F' wx wy) FS (fun wx wy _ hp=>by obtain ⟨_,_,hm⟩:=hp;exact hm.keeps) (fun j e=>⟨hlt j e,fun q=>hnb (q▸e)⟩) (fun wx k=>?_)).mono ?_
 ·obtain ⟨Ss,hfs,hs⟩:=hs
  have hs2:=hs.keep k (fun _ _ e=>e)
  refine (aFa (b:=⟨q,sp,3,ep,sq,[]⟩) (a:=none) (cap:=0) (D0:=fun _=>False) hs2 (by rw [hfs];exact hen) b1 aA (gB.nil _ _ _ rfl) (hst.keep0 k) hck (rM zL Bs) hno).mono ?_
  rintro e w' ⟨rfl,k2⟩
  exact ⟨rfl,FS,⟨Ss,hfs,hs2.keep k2 (fun _ _ e=>e)⟩,aP.of_k0 k2⟩
 ·rintro e w' ⟨rfl,hd⟩
  obtain ⟨FQ',q1,q2⟩:=wD (iQ _ _ _ _ _ _) hbk hlt hnb hd
  exact ⟨rfl,FQ',⟨stb,D,fs,q1,hD,hL,hBs,hfl,hen⟩,q2⟩
theorem aQ8 (h:yG db bb n Bs q w FQ):Calls Tryz.prog 30 #[.pointer (some ⟨bb,0,none⟩),.string tM,.int .i64 0] w fun e w'=>e=.returned (.int .i64 q)∧K0 w w':=by
 obtain ⟨stb,D,fs,⟨cb,FS,rfl,hbk,hs,hnb⟩,hD,hL,hBs,hfl,hen⟩:=h
 have o:=iQ stb db 60 D fs (cD [] Bs)
 refine aVr hbk (fun wx k=>aOt (o.k0 hs k)) (fun wx k=>?_)
 have:=aBs (o.k0 hs k)
 rw [hen] at this
 exact this
def aW4 (db n:Nat) (Bs:List aR) (q:Int) (w:World) (FD:Nat→Prop):Prop:=∃ D fs,aU w FD db D∧sJ n D oU fs∧OnL fs∧uC fs=Bs∧fs.length≤n∧rU fs=q
theorem aJ1 (h:yG db bb n Bs q w FQ) (hn:n≤100):Calls Tryz.prog 29 #[.pointer (some ⟨db,0,none⟩),.slice none 0 0] w fun e w'=>e=.returned (.int .i64 0)∧∃ FD',aW4 db n Bs q w' FD'∧aP FQ FD' w w':=by
 obtain ⟨stb,D,fs,⟨cb,FS,rfl,hbk,hs,hnb⟩,hD,hL,hBs,hfl,hen⟩:=h
 obtain ⟨Ss,hfs,tb,tm,pm,v5,cb',FD,FP,pb,hx,hp⟩:=hs
 refine (aP9 hx.disk hD.wf hD.allSafe (by rw [aEs hD];omega)).mono ?_
 rintro e w' ⟨rfl,FD',h1,h2⟩
 rw [hD.same] at h1
 refine ⟨rfl,FD',⟨D,fs,h1,hD,hL,hBs,hfl,hen⟩,h2.keeps.mono (fun j _ e=>.inr (hx.own.2.2.2.2.1 j e)),fun j e=>?_⟩
 exact (h2.grows j e).imp (fun e=>.inr (hx.own.2.2.2.2.1 j e)) (fun e=>e)
theorem aNw (h:aW4 db n Bs q w FQ) (hn:n≤100) (hst:bF w) (hz:¬ FQ 0):Calls Tryz.prog 27 #[.pointer (some ⟨db,0,none⟩),.agg #[.int .i64 10,.int .i64 10,.int .i64 60]] w fun e w'=>∃ bb FQ',e=.returned (.tuple #[.pointer (some ⟨bb,0,none⟩),.int .i64 0])∧yG db bb n Bs q w' FQ'∧aP FQ FQ' w w':=by
 obtain ⟨D,fs,hd,hD,hL,hBs,hfl,hen⟩:=h
 refine (aF8 hd hD hL.f aA aE aE hst hz).mono ?_
 rintro e w' ⟨bb,stb,FQ',rfl,h1,h2⟩
 rw [hBs] at h1
 exact ⟨bb,FQ',rfl,⟨stb,D,fs,h1,hD,hL,hBs,hfl,hen⟩,h2⟩
end
end Go.Proofs.YteapahcklcldkaaGreatDoor
