/-
  The statement is proved: all that it reaches, in parts.
-/
import Derived.Test.YteapahcklcldkaaGreatDoorW37
set_option maxRecDepth 100000
set_option maxHeartbeats 16000000
namespace Go.Proofs.YteapahcklcldkaaGreatDoor
open Go.RowKit Fx
theorem dO {S:Nat→Prop} {w:World} {b:Nat} (hS:S b):∀ (vs:List Value) (o:Nat) {wx:World},aD S w wx→aD S w (wx.setCells b o vs)
 | [],_,_,h=>h
 | v::r,o,wx,h=>by
  rw [World.setCells]
  exact dO hS r (o+1) (h.setC _ _ (fun _=>hS))
theorem jD {w:World} {b:Nat} {cs:List Value} {t:TypeId} {fr:Nat×Nat} (h:w.heap[b]?=some (.cells cs.toArray t fr)):w.rangeAt b 0 cs:=fun j v hv=>by
 rw [Nat.zero_add,aB h j]
 simpa using hv
theorem fD {w:World} {b:Nat} {c:Array Value} {t:TypeId} {n:Nat} (h:w.heap[b]?=some (.cells c t (0,0))) (hn:n≤c.size):w.there b 0 n:=fun j hj=>by
 rw [Nat.zero_add]
 refine ⟨?_,aH h j⟩
 rw [aB h j,Array.getElem?_eq_getElem aA]
 rfl
theorem iL {P:Program} {fn:Func} {p u:Tmp} {ty:TypeId} {tmps:Array Value} {w:World} {b:Nat} {x v:Value} (h:fn.results=#[.cell p ty,.tmp u]) (hp:tmps.getD p undef=.pointer (some ⟨b,0,none⟩)) (hu:tmps.getD u undef=v) (hl:(loadVar ty ⟨b,0,none⟩).run P w=.ok x w):(results fn tmps).run P w=.ok (.tuple #[x,v]) w:=by
 rw [sC h,hp,hu]
 simp only [asAddr,Sem.run_pure,Result.andThen_ok,hl]
def rqZ:Array Value:=jT 0 ⟨#[]⟩ 0 0 0 false 0 0 0 0 0 (.slice none 0 0) ⟨#[]⟩ 0 0
def RdQ (w:World) (s:ByteArray) (X:List Value→World→Prop) (e:Ending) (w':World):Prop:=
 ∃ cs:List Value,e=.returned (.tuple #[])∧eW w' (w.heap.size+1) s s.size true false∧w'.heap[w.heap.size]?=some (.cells cs.toArray 45 (0,0))∧cs.length=20∧cs.toArray.all (·.oneCell')=true∧K0 w w'∧X cs w'
theorem aU2 {w:World} {s:ByteArray} {N:Nat} {X:List Value→World→Prop} (hN:w.heap.size<N) (hX:∀ cs wx wy,aD (fun k=>k<N) wx wy→X cs wx→X cs wy) (hs:s.size≤60000)
  (HC:Hid (Calls Tryz.prog 46 #[.pointer (some ⟨w.heap.size+1,0,none⟩),.pointer (some ⟨w.heap.size,0,none⟩)] (((w.alloc (.cells rqZ 45)).alloc (.cells #[.string s,.int .i64 0,.bool true,.bool false] 212)).alloc (.cells rqZ 45)) (RdQ w s X))) :
  Calls Tryz.prog 45 #[.string s,.func (Fn.func 46) #[] #[]] w fun e w'=>∃ cs:List Value,e=.returned (.tuple #[.agg cs.toArray,.int .i64 0])∧cs.length=20∧cs.toArray.all (·.oneCell')=true∧K0 w w'∧X cs w':=by
 have HN:=Lib.hid hN
 have HX:=Lib.hid hX
 clear hN hX
 have hz:¬ (60000:Int)<s.size:=aA
 unfold rqZ jT at HC
 go_enter Tryz.func45,Tryz.ntmps45
 go_wp2_with fail
 refine HC.out.mono ?_
 rintro e w2 ⟨cs,rfl,hc,hb,hl,ho,hk,hx⟩
 obtain ⟨c0,c1,c2,c3,_,_,_,lt⟩:=hc.all
 have HB:=Lib.hid hb
 have HT:Hid (w2.there w.heap.size 0 cs.toArray.size):=fD hb (Nat.le_refl _)
 have HR:Hid (w2.rangeAt w.heap.size 0 cs):=jD hb
 have HS0:Hid ((Tryz.prog.info? 45).map (·.size)=some cs.length):=by show _=_;rw [hl];exact gQ
 have HS1:Hid ((Tryz.prog.info? 45).map (·.size)=some cs.toArray.size):=by show _=_;rw [List.size_toArray,hl];exact gQ
 have HO:=Lib.hid ho
 have HL:=Lib.hid hl
 have HK:=Lib.hid hk
 have HXX:=Lib.hid hx
 have rl:=aC hb
 clear hc hb hl ho hk hx HC
 go_wp2_with (first
  | (refine wpList_load_mid rfl 45 (.tmp 4) rfl w.heap.size 0 rfl cs _ HR.out Tryz.underlying45 rfl HS0.out ?_)
  | (refine wpList_store_mid rfl 45 (.tmp 4) (.tmp 33) rfl w.heap.size 0 cs.toArray rfl rfl HT.out HS1.out HO.out ?_)
  | fail)
 have HK3:Hid (aD (fun k=>k=w.heap.size) w2 (w2.setCells w.heap.size 0 cs.toArray.toList)):=show aD _ _ _ from dO (S:=fun k=>k=w.heap.size) rfl _ _ (aD.refl _ _)
 have HR3:Hid ((w2.setCells w.heap.size 0 cs).rangeAt w.heap.size 0 cs):=World.rangeAt_setCells_same _ _ _ _ HT.out
 refine bodyPost_ret (v:=.tuple #[.agg cs.toArray,.int .i64 0]) ?_ rfl ?_
 ·have h:=run_loadVar_mid (P:=Tryz.prog) (w2.setCells w.heap.size 0 cs) w.heap.size 0 45 cs _ HR3.out Tryz.underlying45 rfl HS0.out
  exact iL rfl rfl rfl h
 ·refine ⟨cs,rfl,HL.out,HO.out,?_,?_⟩
  ·exact HK.out.trans HK3.out (fun k hk e=>by omega)
  ·exact HX.out _ _ _ (HK3.out.mono (fun k _ e=>by have:=HN.out;show k<N;omega)) HXX.out
def bR:List ByteArray→ByteArray
 | []=>⟨#[]⟩
 | x::r=>x++bR r
theorem aAn (x:ByteArray):(⟨#[]⟩:ByteArray)++x=x:=by
 have h:(⟨#[]⟩:ByteArray)=ByteArray.empty:=rfl
 rw [h];simp
theorem nL (x:ByteArray):x++(⟨#[]⟩:ByteArray)=x:=by
 have h:(⟨#[]⟩:ByteArray)=ByteArray.empty:=rfl
 rw [h];simp
theorem rJ (a b:List ByteArray):bR (a++b)=bR a++bR b:=by
 induction a with
 | nil=>rw [List.nil_append,bR,aAn]
 | cons x r ih=>rw [List.cons_append,bR,bR,ih,ByteArray.append_assoc]
def qR (l:List ByteArray) (i:Nat):Int:=(bR (l.take i)).size
theorem aAu (l:List ByteArray) {i:Nat} {x:ByteArray} (h:l[i]?=some x):bR l=bR (l.take i)++x++bR (l.drop (i+1))∧qR l (i+1)=qR l i+x.size:=by
 obtain ⟨hi,hx⟩:=List.getElem?_eq_some_iff.1 h
 have h1:l=l.take i++([x]++l.drop (i+1)):=by
  rw [← hx]
  conv=>lhs;rw [← List.take_append_drop i l]
  rw [List.drop_eq_getElem_cons hi]
  rfl
 have h2:bR [x]=x:=by rw [bR,bR,nL]
 refine ⟨?_,?_⟩
 ·conv=>lhs;rw [h1]
  rw [rJ,rJ,h2,ByteArray.append_assoc]
 ·have h3:l.take (i+1)=l.take i++[x]:=by rw [← hx,List.take_succ_eq_append_getElem hi]
  unfold qR
  rw [h3,rJ,h2,ByteArray.size_append]
  push_cast
  rfl
theorem eD (l:List ByteArray) {i:Nat} {n:Int} (h:l[i]?=some (putB n)) (hn:-9223372036854775808≤n∧n≤9223372036854775807):cA (bR l) (qR l i) n (qR l (i+1)):=by
 obtain ⟨h1,h2⟩:=aAu l h
 rw [h2,h1]
 exact cA.of _ _ hn
theorem qS (l:List ByteArray) {i m:Nat} {x:ByteArray} (h:l[i]?=some (cJ x)) (hx:x.size≤m) (hm:m≤1000000):fP (bR l) (qR l i) m x (qR l (i+1)):=by
 obtain ⟨h1,h2⟩:=aAu l h
 rw [h2,h1]
 exact fP.of _ _ _ _ hx hm
theorem aL0 (l:List ByteArray) (i:Nat):qR l i≤(bR l).size:=by
 have h:bR l=bR (l.take i)++bR (l.drop i):=by rw [← rJ,List.take_append_drop]
 unfold qR
 rw [h,ByteArray.size_append]
 push_cast
 omega
theorem aHw (l:List ByteArray) {i:Nat} (h:l.length≤i):qR l i=(bR l).size:=by
 unfold qR
 rw [List.take_of_length_le h]
def lC (q:fG):List ByteArray:=[putB q.kind,cJ q.name,putB q.index,putB q.count,putB q.from_,putB (kR q.flag),cJ (gY q.bat),cJ (bP [0]),cJ q.group,putB q.member,putB q.gen,putB 0]
theorem aOi (q:fG) (h:q.topics=[]):(yN 0 q ⟨#[]⟩ false).1=bR (lC q):=by
 unfold yN
 rw [h]
 unfold lC
 simp only [lsW,aUi,plF,plG,pW,bR,aAn,nL,ByteArray.append_assoc,List.length_nil,Int.natCast_zero]
structure jJ (q:fG):Prop where
 kin:1≤q.kind∧q.kind≤14
 lix:-1≤q.index∧q.index≤2199023255552
 lct:-1≤q.count∧q.count≤2199023255552
 lfr:-1≤q.from_∧q.from_≤2199023255552
 lmb:-1≤q.member∧q.member≤2199023255552
 lgn:-1≤q.gen∧q.gen≤2199023255552
 name:q.name.size≤100
 grp:q.group.size≤100
 top:q.topics=[]
 bat:(gY q.bat).size≤60008
theorem aWo {q:fG} (h:jJ q):aU9 (bR (lC q)) q.kind q.name q.index q.count q.from_ q.flag (gY q.bat) q.group q.member q.gen (qR (lC q)) where
 kind:=eD _ rfl ⟨by have:=h.kin;omega,by have:=h.kin;omega⟩
 name:=qS (i:=1) (m:=100) _ rfl h.name aE
 gix:=eD (i:=2) _ rfl ⟨by have:=h.lix;omega,by have:=h.lix;omega⟩
 gct:=eD (i:=3) _ rfl ⟨by have:=h.lct;omega,by have:=h.lct;omega⟩
 gfr:=eD (i:=4) _ rfl ⟨by have:=h.lfr;omega,by have:=h.lfr;omega⟩
 gfl:=eD (i:=5) _ rfl (by cases q.flag <;> (constructor <;> decide))
 bat:=qS (i:=6) (m:=60008) _ rfl h.bat aE
 fil:=qS (i:=7) (m:=60000) _ rfl (by rw [dC];decide) aE
 grp:=qS (i:=8) (m:=100) _ rfl h.grp aE
 gmb:=eD (i:=9) _ rfl ⟨by have:=h.lmb;omega,by have:=h.lmb;omega⟩
 ggn:=eD (i:=10) _ rfl ⟨by have:=h.lgn;omega,by have:=h.lgn;omega⟩
 top:=eD (i:=11) _ rfl ⟨by decide,by decide⟩
 le:=fun k _=>aL0 _ k
 kin:=h.kin
 lix:=h.lix
 lct:=h.lct
 lfr:=h.lfr
 lmb:=h.lmb
 lgn:=h.lgn
theorem aLp {q:fG} (h:jJ q) (hz:(bR (lC q)).size≤60000):aEa q=(bR (lC q),0):=by
 have h2:(yN 0 q ⟨#[]⟩ false).2=false:=by
  unfold yN
  rw [h.top]
  simp only [lsW,aXl,plF,plG,pO,List.length_nil,Int.natCast_zero]
  obtain ⟨a1,a2⟩:=h.kin;obtain ⟨b1,b2⟩:=h.lix;obtain ⟨c1,c2⟩:=h.lct;obtain ⟨d1,d2⟩:=h.lfr;obtain ⟨e1,e2⟩:=h.lmb;obtain ⟨f1,f2⟩:=h.lgn
  have g1:(q.name.size:Int)≤100:=(by have:=h.name;omega)
  have g2:(q.group.size:Int)≤100:=by have:=h.grp;omega
  simp [a1,a2,b1,b2,c1,c2,d1,d2,e1,e2,f1,f2,g1,g2]
 unfold aEa
 rw [aOi q h.top,h2,if_neg cX]
theorem aO0 {w:World} {s:ByteArray} {N:Nat} {X:List Value→World→Prop} (hN:w.heap.size<N) (hX:∀ cs wx wy,aD (fun k=>k<N) wx wy→X cs wx→X cs wy)
  (HC:Hid (Calls Tryz.prog 45 #[.string s,.func (Fn.func 46) #[] #[]] (w.alloc (.cells rqZ 45)) fun e w'=>∃ cs:List Value,e=.returned (.tuple #[.agg cs.toArray,.int .i64 0])∧cs.length=20∧cs.toArray.all (·.oneCell')=true∧K0 (w.alloc (.cells rqZ 45)) w'∧X cs w')) :
  Calls Tryz.prog 12 #[.string s] w fun e w'=>∃ cs:List Value,e=.returned (.tuple #[.agg cs.toArray,.int .i64 0])∧cs.length=20∧cs.toArray.all (·.oneCell')=true∧K0 w w'∧X cs w':=by
 have HN:=Lib.hid hN
 have HX:=Lib.hid hX
 clear hN hX
 unfold rqZ jT at HC
 go_enter Tryz.func12,Tryz.ntmps12
 go_wp2_with fail
 refine HC.out.mono ?_
 rintro e w2 ⟨cs,rfl,hl,ho,hk,hx⟩
 have hb:w2.heap[w.heap.size]?=some (.cells rqZ 45 (0,0)):=(hk.block _ aK (fun e=>e)).trans (aI w _ _ rfl)
 have HT:Hid (w2.there w.heap.size 0 cs.toArray.size):=fD hb (by rw [List.size_toArray,hl];exact Nat.le_refl 20)
 have HS1:Hid ((Tryz.prog.info? 45).map (·.size)=some cs.toArray.size):=by show _=_;rw [List.size_toArray,hl];exact gQ
 have HS0:Hid ((Tryz.prog.info? 45).map (·.size)=some cs.length):=by show _=_;rw [hl];exact gQ
 have HO:=Lib.hid ho
 have HL:=Lib.hid hl
 have HK:=Lib.hid hk
 have HXX:=Lib.hid hx
 have rl:=aC hb
 clear hb hl ho hk hx HC
 go_wp2_with (first
  | (refine wpList_store_mid rfl 45 (.tmp 2) (.tmp 6) rfl w.heap.size 0 cs.toArray rfl rfl HT.out HS1.out HO.out ?_)
  | fail)
 have HK3:Hid (aD (fun k=>k=w.heap.size) w2 (w2.setCells w.heap.size 0 cs.toArray.toList)):=show aD _ _ _ from dO (S:=fun k=>k=w.heap.size) rfl _ _ (aD.refl _ _)
 have HR3:Hid ((w2.setCells w.heap.size 0 cs).rangeAt w.heap.size 0 cs):=World.rangeAt_setCells_same _ _ _ _ HT.out
 refine bodyPost_ret (v:=.tuple #[.agg cs.toArray,.int .i64 0]) ?_ rfl ?_
 ·have h:=run_loadVar_mid (P:=Tryz.prog) (w2.setCells w.heap.size 0 cs) w.heap.size 0 45 cs _ HR3.out Tryz.underlying45 rfl HS0.out
  exact iL rfl rfl rfl h
 ·refine ⟨cs,rfl,HL.out,HO.out,?_,?_⟩
  ·exact (((aD.refl (fun _=>False) w).alloc _).trans HK.out (fun _ _ e=>e)).trans HK3.out (fun k hk e=>by omega)
  ·exact HX.out _ _ _ (HK3.out.mono (fun k _ e=>by have:=HN.out;show k<N;omega)) HXX.out
def BY (N:Nat) (w:World) (b:aR) (a:Option Addr) (cap:Nat):Prop:=(b=⟨0,0,0,0,0,[]⟩∧a=none∧cap=0)∨dN (fun k=>N≤k) w b a cap
theorem BY.keep {N N':Nat} {w w':World} {b:aR} {a:Option Addr} {cap:Nat} (h:BY N w b a cap) (k:aD (fun k=>k<N) w w') (hN:N'≤N):BY N' w' b a cap:=by
 rcases h with h | h
 ·exact .inl h
 ·exact .inr (h.keep k (fun j hj e=>by have h1:N≤j:=hj;have h2:j<N:=e;omega) (fun j hj=>by have h1:N≤j:=hj;show N'≤j;omega))
def qU (q:fG) (a:Option Addr) (cap:Nat):Array Value:=jT q.kind q.name q.index q.count q.from_ q.flag q.bat.base q.bat.span q.bat.prod q.bat.epoch q.bat.seq (.slice a q.bat.recs.length cap) q.group q.member q.gen
def RdX (N:Nat) (q:fG) (cs:List Value) (w:World):Prop:=∃ a cap,cs.toArray=qU q a cap∧BY N w q.bat a cap
theorem aMo {b:aR} (h:b=⟨0,0,0,0,0,[]⟩):gY b=⟨#[]⟩:=by subst h;rfl
theorem aVw {w:World} {q:fG} (h:jJ q) (hb:q.bat=⟨0,0,0,0,0,[]⟩∨(kP q.bat=false∧dH q.bat∧∀ k (h:k<q.bat.recs.length),bT q.bat.recs[k])) (hz:(bR (lC q)).size≤60000) (hst:bF w) (h0:0<w.heap.size) :
  Calls Tryz.prog 46 #[.pointer (some ⟨w.heap.size+1,0,none⟩),.pointer (some ⟨w.heap.size,0,none⟩)] (((w.alloc (.cells rqZ 45)).alloc (.cells #[.string (bR (lC q)),.int .i64 0,.bool true,.bool false] 212)).alloc (.cells rqZ 45)) (RdQ w (bR (lC q)) (RdX (w.heap.size+3) q)):=by
 obtain ⟨W,hW⟩:∃ W,W=(((w.alloc (.cells rqZ 45)).alloc (.cells #[.string (bR (lC q)),.int .i64 0,.bool true,.bool false] 212)).alloc (.cells rqZ 45)):=⟨_,rfl⟩
 rw [← hW]
 have hs:W.heap.size=w.heap.size+3:=by rw [hW];simp
 have k1:K0 w (W.alloc (.cells #[.pointer (some ⟨w.heap.size+1,0,none⟩)] 118)):=by rw [hW];exact (((aD.refl _ _).alloc _).alloc _).alloc _ |>.alloc _
 have kW:K0 w W:=(by rw [hW];exact (((aD.refl _ _).alloc _).alloc _).alloc _)
 have hr:pT W (w.heap.size+1) W.heap.size w.heap.size (bR (lC q)) (qR (lC q) 0) (jT 0 ⟨#[]⟩ 0 0 0 false 0 0 0 0 0 (.slice none 0 0) ⟨#[]⟩ 0 0) (W.alloc (.cells #[.pointer (some ⟨w.heap.size+1,0,none⟩)] 118)):=by
  refine ⟨aL ?_ _,aL ?_ _,aB (aI _ _ _ rfl) 0,⟨by omega,by omega⟩,by omega,hst.keep0 k1,⟨by omega,by omega⟩,(aD.refl _ _).alloc _⟩
  ·exact (by rw [hW];exact aL (aI _ _ _ (by simp)) _)
  ·exact (by rw [hW];exact aL (aL (aI _ _ _ rfl) _) _)
 refine (aVx (b:=q.bat) hr (aWo h) ?_ aA).mono ?_
 ·rcases hb with hb | ⟨he,ho,hp⟩
  ·exact .inl ⟨hb,aMo hb⟩
  ·exact .inr ⟨by rw [gY,if_neg (by rw [he];decide)],ho,hp⟩
 ·rintro e w' ⟨a,cap,rfl,h1,h2⟩
  have hp:qR (lC q) 12=(bR (lC q)).size:=aHw _ (Nat.le_refl 12)
  refine ⟨(qU q a cap).toList,rfl,?_,h1.blk,rfl,?_,?_,a,cap,rfl,?_⟩
  ·have:=h1.cod
   rw [hp] at this
   exact this
  ·simp [qU,jT,Value.oneCell']
  ·exact kW.trans h1.keep (fun k hk e=>by omega)
  ·rcases h2 with h2 | ⟨N,n1,n2,n3,h4⟩
   ·exact .inl h2
   ·exact .inr (h4.keep (S:=fun _=>False) (aD.refl _ _) (fun _ _ e=>e) (fun j hj=>by have:N≤j:=hj;show w.heap.size+3≤j;omega))
theorem aKz {w:World} {q:fG} (h:jJ q) (hb:q.bat=⟨0,0,0,0,0,[]⟩∨(kP q.bat=false∧dH q.bat∧∀ k (h:k<q.bat.recs.length),bT q.bat.recs[k])) (hz:(bR (lC q)).size≤60000) (hst:bF w) (h0:0<w.heap.size) :
  Calls Tryz.prog 12 #[.string (bR (lC q))] w fun e w'=>∃ a cap,e=.returned (.tuple #[.agg (qU q a cap),.int .i64 0])∧K0 w w'∧BY (w.heap.size+4) w' q.bat a cap:=by
 have k1:K0 w (w.alloc (.cells rqZ 45)):=(aD.refl _ _).alloc _
 have hs:(w.alloc (.cells rqZ 45)).heap.size=w.heap.size+1:=aK
 have hst1:=hst.keep0 k1
 have c:=aVw h hb hz hst1 aA
 have r:=aU2 (w:=w.alloc (.cells rqZ 45)) (N:=w.heap.size+4) (X:=RdX (w.heap.size+4) q) aA (fun cs wx wy k hx=>by
  obtain ⟨a,cap,e,hy⟩:=hx
  exact ⟨a,cap,e,hy.keep k (Nat.le_refl _)⟩) hz (by rw [hs] at c;exact (by rw [hs];exact c))
 refine (aO0 (w:=w) (N:=w.heap.size+4) (X:=RdX (w.heap.size+4) q) aA (fun cs wx wy k hx=>by
  obtain ⟨a,cap,e,hy⟩:=hx
  exact ⟨a,cap,e,hy.keep k (Nat.le_refl _)⟩) r).mono ?_
 rintro e w' ⟨cs,rfl,_,_,hk,a,cap,hcs,hy⟩
 exact ⟨a,cap,by rw [hcs],hk,hy⟩
section
variable {w:World} {cb qb qo:Nat} {s:ByteArray} {at_ most:Int} {f:Value}
theorem aGh (h:eW w cb s at_ false false) (hq:w.cell? ⟨qb,qo,none⟩=some (.slice none 0 0)) (_hqn:¬ qb=cb) (hm:0≤most) (hsz:s.size≤100000000000) :
  Calls Tryz.prog 119 #[.pointer (some ⟨cb,0,none⟩),.pointer (some ⟨qb,qo,none⟩),.int .i64 most,f] w fun e w'=>e=.returned (.tuple #[])∧eW w' cb (s++putB 0) at_ false false∧aD (fun k=>k=cb) w w':=by
 have hlc:cb<w.heap.size:=aC h
 have KA:K0 w (w.alloc (.cells #[.int .i64 0] 3)):=(aD.refl _ _).alloc _
 have HT:Hid (Calls Tryz.prog 104 #[.pointer (some ⟨cb,0,none⟩),.pointer (some ⟨w.heap.size,0,none⟩),.int .i64 0,.int .i64 most] (w.alloc (.cells #[.int .i64 0] 3)) fun e w'=>e=.returned (.tuple #[])∧eW w' cb (s++putB 0) at_ false false∧aD (fun k=>k=cb) w w'∧w'.heap[w.heap.size]?=some (.cells #[.int .i64 0] 3 (0,0))):=by
  have hx:=aI w (.cells #[.int .i64 0] 3) _ rfl
  refine (oK (n:=0) (lo:=0) (hi:=most) (h.keep KA (fun e=>e)) (aB hx 0) aK aA aA aA).mono ?_
  rintro e w' ⟨rfl,c,k⟩
  have c':eW w' cb (s++putB 0) at_ false false:=(by simpa [hm] using c)
  exact ⟨rfl,c',(KA.mono (fun _ _ e=>e.elim)).trans k (fun _ _ e=>e),(k.block _ (aC hx) (fun e=>by have:w.heap.size=cb:=e;omega)).trans hx⟩
 have ql:=World.block_lt_of_cell? w _ hq
 clear h KA
 go_enter Tryz.func119,Tryz.ntmps119
 go_wp2_with fail
 refine HT.out.mono ?_
 rintro e w1 ⟨rfl,h1,k1,m1⟩
 obtain ⟨d0,d1,d2,d3,_,_,_,dl⟩:=h1.all
 have m0:w1.cell? ⟨w.heap.size,0,none⟩=some (.int .i64 0):=aB m1 0
 have ml:=aC m1
 have HH1:=Lib.hid h1
 have HK1:=Lib.hid k1
 clear h1 k1 m1
 go_wp2_with fail
 refine wp_loop_rounds 1 ?_
 rw [rounds_succ]
 go_wp2_with fail
 go_end0
 exact ⟨rfl,HH1.out,HK1.out⟩
theorem aGi (h:eW w cb s at_ false false) (hq:w.cell? ⟨qb,qo,none⟩=some (.slice none 0 0)) (_hqn:¬ qb=cb) (hm:0≤most) (hsz:s.size≤100000000000) :
  Calls Tryz.prog 121 #[.pointer (some ⟨cb,0,none⟩),.pointer (some ⟨qb,qo,none⟩),.int .i64 most,f] w fun e w'=>e=.returned (.tuple #[])∧eW w' cb (s++putB 0) at_ false false∧aD (fun k=>k=cb) w w':=by
 have hlc:cb<w.heap.size:=aC h
 have KA:K0 w (w.alloc (.cells #[.int .i64 0] 3)):=(aD.refl _ _).alloc _
 have HT:Hid (Calls Tryz.prog 104 #[.pointer (some ⟨cb,0,none⟩),.pointer (some ⟨w.heap.size,0,none⟩),.int .i64 0,.int .i64 most] (w.alloc (.cells #[.int .i64 0] 3)) fun e w'=>e=.returned (.tuple #[])∧eW w' cb (s++putB 0) at_ false false∧aD (fun k=>k=cb) w w'∧w'.heap[w.heap.size]?=some (.cells #[.int .i64 0] 3 (0,0))):=by
  have hx:=aI w (.cells #[.int .i64 0] 3) _ rfl
  refine (oK (n:=0) (lo:=0) (hi:=most) (h.keep KA (fun e=>e)) (aB hx 0) aK aA aA aA).mono ?_
  rintro e w' ⟨rfl,c,k⟩
  have c':eW w' cb (s++putB 0) at_ false false:=(by simpa [hm] using c)
  exact ⟨rfl,c',(KA.mono (fun _ _ e=>e.elim)).trans k (fun _ _ e=>e),(k.block _ (aC hx) (fun e=>by have:w.heap.size=cb:=e;omega)).trans hx⟩
 have ql:=World.block_lt_of_cell? w _ hq
 clear h KA
 go_enter Tryz.func121,Tryz.ntmps121
 go_wp2_with fail
 refine HT.out.mono ?_
 rintro e w1 ⟨rfl,h1,k1,m1⟩
 obtain ⟨d0,d1,d2,d3,_,_,_,dl⟩:=h1.all
 have m0:w1.cell? ⟨w.heap.size,0,none⟩=some (.int .i64 0):=aB m1 0
 have ml:=aC m1
 have HH1:=Lib.hid h1
 have HK1:=Lib.hid k1
 clear h1 k1 m1
 go_wp2_with fail
 refine wp_loop_rounds 1 ?_
 rw [rounds_succ]
 go_wp2_with fail
 go_end0
 exact ⟨rfl,HH1.out,HK1.out⟩
theorem aD6 (h:eW w cb s at_ false false) (hq:w.cell? ⟨qb,qo,none⟩=some (.slice none 0 0)) (_hqn:¬ qb=cb) (hm:0≤most) (hsz:s.size≤100000000000) :
  Calls Tryz.prog 123 #[.pointer (some ⟨cb,0,none⟩),.pointer (some ⟨qb,qo,none⟩),.int .i64 most,f] w fun e w'=>e=.returned (.tuple #[])∧eW w' cb (s++putB 0) at_ false false∧aD (fun k=>k=cb) w w':=by
 have hlc:cb<w.heap.size:=aC h
 have KA:K0 w (w.alloc (.cells #[.int .i64 0] 3)):=(aD.refl _ _).alloc _
 have HT:Hid (Calls Tryz.prog 104 #[.pointer (some ⟨cb,0,none⟩),.pointer (some ⟨w.heap.size,0,none⟩),.int .i64 0,.int .i64 most] (w.alloc (.cells #[.int .i64 0] 3)) fun e w'=>e=.returned (.tuple #[])∧eW w' cb (s++putB 0) at_ false false∧aD (fun k=>k=cb) w w'∧w'.heap[w.heap.size]?=some (.cells #[.int .i64 0] 3 (0,0))):=by
  have hx:=aI w (.cells #[.int .i64 0] 3) _ rfl
  refine (oK (n:=0) (lo:=0) (hi:=most) (h.keep KA (fun e=>e)) (aB hx 0) aK aA aA aA).mono ?_
  rintro e w' ⟨rfl,c,k⟩
  have c':eW w' cb (s++putB 0) at_ false false:=(by simpa [hm] using c)
  exact ⟨rfl,c',(KA.mono (fun _ _ e=>e.elim)).trans k (fun _ _ e=>e),(k.block _ (aC hx) (fun e=>by have:w.heap.size=cb:=e;omega)).trans hx⟩
 have ql:=World.block_lt_of_cell? w _ hq
 clear h KA
 go_enter Tryz.func123,Tryz.ntmps123
 go_wp2_with fail
 refine HT.out.mono ?_
 rintro e w1 ⟨rfl,h1,k1,m1⟩
 obtain ⟨d0,d1,d2,d3,_,_,_,dl⟩:=h1.all
 have m0:w1.cell? ⟨w.heap.size,0,none⟩=some (.int .i64 0):=aB m1 0
 have ml:=aC m1
 have HH1:=Lib.hid h1
 have HK1:=Lib.hid k1
 clear h1 k1 m1
 go_wp2_with fail
 refine wp_loop_rounds 1 ?_
 rw [rounds_succ]
 go_wp2_with fail
 go_end0
 exact ⟨rfl,HH1.out,HK1.out⟩
theorem aTi {D:Nat→Prop} {b:aR} {a:Option Addr} {cap bx nb:Nat} (hbx:w.cell? ⟨bx,0,none⟩=some (.pointer (some ⟨cb,0,none⟩))) (h:eW w cb s at_ false false) (hb:tV w nb 0 b a cap) (hd:gB D w b a cap) (ho:dH b) (hst:bF w) (he:kP b=false) (hsz:s.size≤100000000000) :
  Calls Tryz.prog 120 #[.pointer (some ⟨nb,0,none⟩),.pointer (some ⟨bx,0,none⟩)] w fun e w'=>e=.returned (.tuple #[])∧eW w' cb (s++cJ (aZ b)) at_ false false∧aD (fun k=>k=cb) w w':=by
 have HC:=Lib.hid (aGd (opt:=false) h hb hd ho hst he aA)
 have cl:=World.block_lt_of_cell? w _ hbx
 clear h hb hd ho hst he
 go_enter Tryz.func120,Tryz.ntmps120
 go_wp2_with fail
 refine HC.out.mono ?_
 rintro e w2 ⟨rfl,h1,h2⟩
 have HF:=Lib.hid h1
 have HG:=Lib.hid h2
 clear h1 h2 HC
 go_wp2_with fail
 go_end0
 exact ⟨rfl,HF.out,HG.out⟩
theorem aP2 {D:Nat→Prop} {b:aR} {a:Option Addr} {cap bx g off c1:Nat} (h:eW w cb s at_ false false) (hq:w.cell? ⟨qb,qo,none⟩=some (.slice (some ⟨g,off,none⟩) 1 c1)) (hqn:¬ qb=cb) (hm:1≤most) (hsz:s.size≤10000000000) (hbx:w.cell? ⟨bx,0,none⟩=some (.pointer (some ⟨cb,0,none⟩))) (hbn:¬ bx=cb) (hg:tV w g off b a cap) (hgn:¬ g=cb) (hd:gB D w b a cap) (hD:∀ k,D k→¬ k=cb) (ho:dH b) (hst:bF w) (h0:0≠cb) (he:kP b=false) :
  Calls Tryz.prog 119 #[.pointer (some ⟨cb,0,none⟩),.pointer (some ⟨qb,qo,none⟩),.int .i64 most,.func (Fn.func 120) #[] #[.pointer (some ⟨bx,0,none⟩)]] w fun e w'=>e=.returned (.tuple #[])∧eW w' cb (s++putB 1++cJ (aZ b)) at_ false false∧aD (fun k=>k=cb) w w':=by
 have hlc:cb<w.heap.size:=aC h
 have KA:K0 w (w.alloc (.cells #[.int .i64 1] 3)):=(aD.refl _ _).alloc _
 have ql:=World.block_lt_of_cell? w _ hq
 have hp1:(putB 1).size≤10:=bU aE
 have HT:Hid (Calls Tryz.prog 104 #[.pointer (some ⟨cb,0,none⟩),.pointer (some ⟨w.heap.size,0,none⟩),.int .i64 0,.int .i64 most] (w.alloc (.cells #[.int .i64 1] 3)) fun e w'=>e=.returned (.tuple #[])∧eW w' cb (s++putB 1) at_ false false∧aD (fun k=>k=cb) w w'∧w'.heap[w.heap.size]?=some (.cells #[.int .i64 1] 3 (0,0))):=by
  have hx:=aI w (.cells #[.int .i64 1] 3) _ rfl
  refine (oK (n:=1) (lo:=0) (hi:=most) (h.keep KA (fun e=>e)) (aB hx 0) aK aA aA aA).mono ?_
  rintro e w' ⟨rfl,c,k⟩
  have c':eW w' cb (s++putB 1) at_ false false:=(by simpa [hm] using c)
  exact ⟨rfl,c',(KA.mono (fun _ _ e=>e.elim)).trans k (fun _ _ e=>e),(k.block _ (aC hx) (fun e=>by have:w.heap.size=cb:=e;omega)).trans hx⟩
 have HALL:=Lib.hid (And.intro hbx (And.intro hbn (And.intro hg (And.intro hgn (And.intro hd (And.intro hD (And.intro ho (And.intro hst (And.intro h0 he)))))))))
 have HSZ:Hid ((s++putB 1).size≤100000000000):=by show _≤_;rw [ByteArray.size_append];omega
 have HQ:=Lib.hid hq
 have HQN:=Lib.hid hqn
 clear h KA hbx hbn hg hgn hd hD ho hst h0 he hp1 hsz hqn
 go_enter Tryz.func119,Tryz.ntmps119
 go_wp2_with fail
 refine HT.out.mono ?_
 rintro e w1 ⟨rfl,h1,k1,m1⟩
 obtain ⟨d0,d1,d2,d3,_,_,_,dl⟩:=h1.all
 have m0:w1.cell? ⟨w.heap.size,0,none⟩=some (.int .i64 1):=aB m1 0
 have ml:=aC m1
 obtain ⟨hbx,hbn,hg,hgn,hd,hD,ho,hst,h0,he⟩:=HALL.out
 have gl:g<w.heap.size:=hg.lt
 obtain ⟨g0,g1,g2,g3,g4,g5,gl1⟩:=hg.keep k1 hgn
 have q1:w1.cell? ⟨qb,qo,none⟩=some (.slice (some ⟨g,off,none⟩) 1 c1):=k1.cell' hq HQN.out
 have HRP:Hid (Calls Tryz.prog 120 #[.pointer (some ⟨w1.heap.size,0,none⟩),.pointer (some ⟨bx,0,none⟩)] (w1.alloc (.cells #[.int .i64 b.base,.int .i64 b.span,.int .i64 b.prod,.int .i64 b.epoch,.int .i64 b.seq,.slice a b.recs.length cap] 39)) fun e w'=>e=.returned (.tuple #[])∧eW w' cb (s++putB 1++cJ (aZ b)) at_ false false∧aD (fun k=>k=cb) w w'∧w'.heap[w.heap.size]?=some (.cells #[.int .i64 1] 3 (0,0))):=by
  have k2:K0 w1 (w1.alloc (.cells #[.int .i64 b.base,.int .i64 b.span,.int .i64 b.prod,.int .i64 b.epoch,.int .i64 b.seq,.slice a b.recs.length cap] 39)):=(aD.refl _ _).alloc _
  have kk:aD (fun k=>k=cb) w (w1.alloc (.cells #[.int .i64 b.base,.int .i64 b.span,.int .i64 b.prod,.int .i64 b.epoch,.int .i64 b.seq,.slice a b.recs.length cap] 39)):=k1.trans k2 (fun _ _ e=>e.elim)
  have hx:=aI w1 (.cells #[.int .i64 b.base,.int .i64 b.span,.int .i64 b.prod,.int .i64 b.epoch,.int .i64 b.seq,.slice a b.recs.length cap] 39) _ rfl
  refine (aTi (D:=D) (nb:=w1.heap.size) (a:=a) (cap:=cap) (kk.cell' hbx hbn) (h1.keep k2 (fun e=>e)) ⟨aB hx 0,aB hx 1,aB hx 2,aB hx 3,aB hx 4,aB hx 5,by simp⟩ (hd.keep kk hD (fun _ e=>e)) ho (hst.keep kk h0) he HSZ.out).mono ?_
  rintro e w' ⟨rfl,c,k⟩
  have km:=kk.trans k (fun _ _ e=>e)
  exact ⟨rfl,c,km,(k.block _ (by have:=k2.size;omega) (fun e=>by have:w.heap.size=cb:=e;omega)).trans ((k2.block _ ml (fun e=>e)).trans m1)⟩
 have HH1:=Lib.hid h1
 have HK1:=Lib.hid k1
 clear h1 k1 m1 hbx hbn hg hgn hd hD ho hst h0 he HALL gl
 go_wp2_with fail
 refine wp_loop_rounds 2 ?_
 rw [rounds_succ]
 go_wp2_with fail
 refine HRP.out.mono ?_
 rintro e w4 ⟨rfl,h4,k4,m4⟩
 obtain ⟨e0,e1,e2,e3,_,_,_,el⟩:=h4.all
 have mm0:w4.cell? ⟨w.heap.size,0,none⟩=some (.int .i64 1):=aB m4 0
 have mml:=aC m4
 have HH4:=Lib.hid h4
 have HK4:=Lib.hid k4
 clear h4 k4 m4 HRP d0 d1 d2 d3 m0 g0 g1 g2 g3 g4 g5 q1
 go_wp2_with fail
 rw [rounds_succ]
 go_wp2_with fail
 go_end0
 exact ⟨rfl,HH4.out,HK4.out⟩
end
structure nC (w0:World) (cb bx qb:Nat) (s:ByteArray) (p:Int) (rd:Bool) (c:Array Value) (w:World):Prop where
 cod:eW w cb s p rd false
 blk:w.heap[qb]?=some (.cells c 33 (0,0))
 box:w.cell? ⟨bx,0,none⟩=some (.pointer (some ⟨cb,0,none⟩))
 nbx:¬ bx=cb∧¬ bx=qb
 qn:¬ qb=cb
 st:bF w
 c0:0≠cb∧0≠qb
 keep:aD (fun k=>k=cb∨k=qb) w0 w
def tX (D:Nat→Prop) (w:World) (cb qb:Nat) (bs:Value) (l:List aR):Prop:=
 (l=[]∧bs=.slice none 0 0)∨∃ b a cap g off c1,l=[b]∧bs=.slice (some ⟨g,off,none⟩) 1 c1∧tV w g off b a cap∧¬ g=cb∧¬ g=qb∧gB D w b a cap∧(∀ k,D k→¬ (k=cb∨k=qb))∧dH b∧kP b=false
def lB (l:List aR):ByteArray:=putB l.length++bR (l.map (fun b=>cJ (aZ b)))
theorem tX.keep {D:Nat→Prop} {w w':World} {cb qb:Nat} {bs:Value} {l:List aR} (h:tX D w cb qb bs l) (k:aD (fun k=>k=cb∨k=qb) w w'):tX D w' cb qb bs l:=by
 rcases h with h | ⟨b,a,cap,g,off,c1,h1,h2,h3,h4,h5,h6,h7,h8,h9⟩
 ·exact .inl h
 ·exact .inr ⟨b,a,cap,g,off,c1,h1,h2,h3.keep k (fun e=>e.elim h4 h5),h4,h5,h6.keep k h7 (fun _ e=>e),h7,h8,h9⟩
section
variable {D:Nat→Prop} {w0 w w':World} {cb bx qb:Nat} {s s':ByteArray} {p p':Int} {rd:Bool} {c c':Array Value} {e x1 x2 x3 x4 x5 x6:Int} {bs:Value} {l:List aR} {f:Value}
theorem nC.step (h:nC w0 cb bx qb s p rd c w) (hc:eW w' cb s' p' rd false) (hb:w'.heap[qb]?=some (.cells c' 33 (0,0))) (kk:aD (fun k=>k=cb∨k=qb) w w'):nC w0 cb bx qb s' p' rd c' w':=
 ⟨hc,hb,kk.cell' h.box (fun e=>e.elim h.nbx.1 h.nbx.2),h.nbx,h.qn,h.st.keep kk (fun e=>e.elim h.c0.1 h.c0.2),h.c0,h.keep.trans kk (fun _ _ e=>e)⟩
theorem nC.k0 (h:nC w0 cb bx qb s p rd c w) (kk:K0 w w'):nC w0 cb bx qb s p rd c w':=
 h.step (h.cod.keep kk (fun e=>e)) ((kk.block _ (aC h.blk) (fun e=>e)).trans h.blk) (kk.mono (fun _ _ e=>e.elim))
theorem nC.one (h:nC w0 cb bx qb s p rd c w) (hc:eW w' cb s' p' rd false) (k:aD (fun k=>k=cb) w w'):nC w0 cb bx qb s' p' rd c w'∧aD (fun k=>k=cb∨k=qb) w w':=
 have k':aD (fun k=>k=cb∨k=qb) w w':=k.mono (fun _ _ e=>Or.inl e)
 ⟨h.step hc ((k.block _ (aC h.blk) h.qn).trans h.blk) k',k'⟩
def plR (qb:Nat) (x1 x2 x3 x4 x5 x6:Int):List (Nat×Nat×Int):=[(qb,1,x1),(qb,2,x2),(qb,3,x3),(qb,4,x4),(qb,5,x5),(qb,6,x6)]
structure rW (e x1 x2 x3 x4 x5 x6:Int):Prop where
 e:0≤e∧e≤14
 n1:-1≤x1∧x1≤2199023255552
 n2:-1≤x2∧x2≤2199023255552
 n3:-1≤x3∧x3≤2199023255552
 n4:-1≤x4∧x4≤2199023255552
 n5:-1≤x5∧x5≤2199023255552
 n6:-1≤x6∧x6≤2199023255552
theorem nC.plain_w (h:nC w0 cb bx qb s p false (bY e x1 x2 x3 x4 x5 x6 bs) w) (ho:rW e x1 x2 x3 x4 x5 x6) (c:TypeId) (m:Nat) (hs:s.size≤100000000000) :
  Calls Tryz.prog 106 #[.pointer (some ⟨cb,0,none⟩),.slice (some ⟨w.heap.size,0,none⟩) 6 m] (w.alloc (.cells #[.pointer (some ⟨qb,1,none⟩),.pointer (some ⟨qb,2,none⟩),.pointer (some ⟨qb,3,none⟩),.pointer (some ⟨qb,4,none⟩),.pointer (some ⟨qb,5,none⟩),.pointer (some ⟨qb,6,none⟩)] c))
  (fun en w'=>en=.returned (.tuple #[])∧nC w0 cb bx qb (s++pW (plR qb x1 x2 x3 x4 x5 x6)) p false (bY e x1 x2 x3 x4 x5 x6 bs) w'∧aD (fun k=>k=cb∨k=qb) w w'):=by
 have k0:K0 w (w.alloc (.cells #[.pointer (some ⟨qb,1,none⟩),.pointer (some ⟨qb,2,none⟩),.pointer (some ⟨qb,3,none⟩),.pointer (some ⟨qb,4,none⟩),.pointer (some ⟨qb,5,none⟩),.pointer (some ⟨qb,6,none⟩)] c)):=(aD.refl _ _).alloc _
 have q:=h.k0 k0
 have l1:=aC h.cod
 have hl:=aC q.blk
 have hok:pO (plR qb x1 x2 x3 x4 x5 x6)=true:=by
  obtain ⟨_,⟨b1,b2⟩,⟨c1,c2⟩,⟨d1,d2⟩,⟨e1,e2⟩,⟨f1,f2⟩,⟨g1,g2⟩⟩:=ho
  simp [plR,pO,b1,b2,c1,c2,d1,d2,e1,e2,f1,f2,g1,g2]
 refine (aAj (l:=plR qb x1 x2 x3 x4 x5 x6) q.cod ⟨⟨_,c,aI w _ _ rfl,fun i hi=>?_⟩,fun y hy=>?_,by omega,fun y hy=>?_⟩ (by show s.size+10*6≤_;omega)).mono (by
  rintro en w' ⟨rfl,c,k⟩
  rw [hok] at c
  obtain ⟨r1,r2⟩:=q.one c k
  exact ⟨rfl,r1,(k0.mono (fun _ _ e=>e.elim)).trans r2 (fun _ _ e=>e)⟩)
 ·match i,hi with
  | 0,_=>rfl
  | 1,_=>rfl
  | 2,_=>rfl
  | 3,_=>rfl
  | 4,_=>rfl
  | 5,_=>rfl
 ·simp only [plR,List.mem_cons,List.mem_nil_iff,or_false] at hy
  rcases hy with rfl | rfl | rfl | rfl | rfl | rfl
  ·exact ⟨aB q.blk 1,hl,h.qn⟩
  ·exact ⟨aB q.blk 2,hl,h.qn⟩
  ·exact ⟨aB q.blk 3,hl,h.qn⟩
  ·exact ⟨aB q.blk 4,hl,h.qn⟩
  ·exact ⟨aB q.blk 5,hl,h.qn⟩
  ·exact ⟨aB q.blk 6,hl,h.qn⟩
 ·obtain ⟨_,b,c,d,e,f,g⟩:=ho
  simp only [plR,List.mem_cons,List.mem_nil_iff,or_false] at hy
  rcases hy with rfl | rfl | rfl | rfl | rfl | rfl <;> (constructor <;> (show _≤_) <;> dsimp only <;> omega)
theorem nC.bat_w (h:nC w0 cb bx qb s p false (bY e x1 x2 x3 x4 x5 x6 bs) w) (hl:tX D w cb qb bs l) (hs:s.size≤10000000000) :
  Calls Tryz.prog 119 #[.pointer (some ⟨cb,0,none⟩),.pointer (some ⟨qb,7,none⟩),.int .i64 500,.func (Fn.func 120) #[] #[.pointer (some ⟨bx,0,none⟩)]] w
  (fun en w'=>en=.returned (.tuple #[])∧nC w0 cb bx qb (s++lB l) p false (bY e x1 x2 x3 x4 x5 x6 bs) w'∧aD (fun k=>k=cb∨k=qb) w w'):=by
 have hq:=aB h.blk 7
 rcases hl with ⟨rfl,rfl⟩ | ⟨b,a,cap,g,off,c1,rfl,rfl,h3,h4,h5,h6,h7,h8,h9⟩
 ·refine (aGh h.cod hq h.qn aE aA).mono ?_
  rintro en w' ⟨rfl,c,k⟩
  have e1:s++lB []=s++putB 0:=by unfold lB;simp only [List.map_nil,bR,nL,List.length_nil,Int.natCast_zero]
  rw [e1]
  exact ⟨rfl,h.one c k⟩
 ·refine (aP2 h.cod hq h.qn aE hs h.box h.nbx.1 h3 h4 h6 (fun k hk e=>h7 k hk (.inl e)) h8 h.st h.c0.1 h9).mono ?_
  rintro en w' ⟨rfl,c,k⟩
  have e1:s++lB [b]=s++putB 1++cJ (aZ b):=by unfold lB;simp only [List.map_cons,List.map_nil,bR,nL,List.length_singleton,ByteArray.append_assoc];rfl
  rw [e1]
  exact ⟨rfl,h.one c k⟩
theorem nC.top_w (h:nC w0 cb bx qb s p false (bY e x1 x2 x3 x4 x5 x6 bs) w) (hs:s.size≤100000000000) :
  Calls Tryz.prog 121 #[.pointer (some ⟨cb,0,none⟩),.pointer (some ⟨qb,8,none⟩),.int .i64 20,f] w
  (fun en w'=>en=.returned (.tuple #[])∧nC w0 cb bx qb (s++putB 0) p false (bY e x1 x2 x3 x4 x5 x6 bs) w'∧aD (fun k=>k=cb∨k=qb) w w'):=
 (aGi h.cod (aB h.blk 8) h.qn aE hs).mono (by rintro en w' ⟨rfl,c,k⟩;exact ⟨rfl,h.one c k⟩)
theorem nC.part_w (h:nC w0 cb bx qb s p false (bY e x1 x2 x3 x4 x5 x6 bs) w) (hs:s.size≤100000000000) :
  Calls Tryz.prog 123 #[.pointer (some ⟨cb,0,none⟩),.pointer (some ⟨qb,9,none⟩),.int .i64 400,f] w
  (fun en w'=>en=.returned (.tuple #[])∧nC w0 cb bx qb (s++putB 0) p false (bY e x1 x2 x3 x4 x5 x6 bs) w'∧aD (fun k=>k=cb∨k=qb) w w'):=
 (aD6 h.cod (aB h.blk 9) h.qn aE hs).mono (by rintro en w' ⟨rfl,c,k⟩;exact ⟨rfl,h.one c k⟩)
structure aLb (s:ByteArray) (e x1 x2 x3 x4 x5 x6:Int) (l:List aR) (pos:Nat→Int):Prop where
 g0:cA s (pos 0) e (pos 1)
 g1:cA s (pos 1) x1 (pos 2)
 g2:cA s (pos 2) x2 (pos 3)
 g3:cA s (pos 3) x3 (pos 4)
 g4:cA s (pos 4) x4 (pos 5)
 g5:cA s (pos 5) x5 (pos 6)
 g6:cA s (pos 6) x6 (pos 7)
 g7:cA s (pos 7) l.length (pos 8)
 g8:(l=[]∧pos 9=pos 8)∨∃ b,l=[b]∧fP s (pos 8) 60008 (aZ b) (pos 9)∧dH b∧∀ k (h:k<b.recs.length),bT b.recs[k]
 g9:cA s (pos 9) 0 (pos 10)
 g10:cA s (pos 10) 0 (pos 11)
 le:∀ k,k<12→pos k≤s.size
theorem nC.plain_r {pos:Nat→Int} (h:nC w0 cb bx qb s (pos 1) true (bY e 0 0 0 0 0 0 (.slice none 0 0)) w) (ho:rW e x1 x2 x3 x4 x5 x6) (g:aLb s e x1 x2 x3 x4 x5 x6 l pos) (c:TypeId) (m:Nat) (hs:s.size≤1000000000) :
  Calls Tryz.prog 106 #[.pointer (some ⟨cb,0,none⟩),.slice (some ⟨w.heap.size,0,none⟩) 6 m] (w.alloc (.cells #[.pointer (some ⟨qb,1,none⟩),.pointer (some ⟨qb,2,none⟩),.pointer (some ⟨qb,3,none⟩),.pointer (some ⟨qb,4,none⟩),.pointer (some ⟨qb,5,none⟩),.pointer (some ⟨qb,6,none⟩)] c))
  (fun en w'=>en=.returned (.tuple #[])∧nC w0 cb bx qb s (pos 7) true (bY e x1 x2 x3 x4 x5 x6 (.slice none 0 0)) w'∧aD (fun k=>k=cb∨k=qb) w w'):=by
 have k0:K0 w (w.alloc (.cells #[.pointer (some ⟨qb,1,none⟩),.pointer (some ⟨qb,2,none⟩),.pointer (some ⟨qb,3,none⟩),.pointer (some ⟨qb,4,none⟩),.pointer (some ⟨qb,5,none⟩),.pointer (some ⟨qb,6,none⟩)] c)):=(aD.refl _ _).alloc _
 have q:=h.k0 k0
 have l1:=aC h.cod
 have l2:=aC h.blk
 refine (aAi (l:=[(1,x1),(2,x2),(3,x3),(4,x4),(5,x5),(6,x6)]) (pos:=fun i=>pos (i+1)) q.cod ⟨⟨_,c,aI w _ _ rfl,fun i hi=>?_⟩⟩ ⟨by omega,by omega⟩ (fun i hi=>?_) hs (fun i hi=>g.le (i+1) (by have:i<6:=hi;omega)) q.blk (fun i hi=>?_) h.qn (by show 6≤1000;omega)).mono (by rintro en w' ⟨rfl,c,b,k⟩;exact ⟨rfl,q.step c b k,(k0.mono (fun _ _ e=>e.elim)).trans k (fun _ _ e=>e)⟩)
 ·match i,hi with
  | 0,_=>rfl
  | 1,_=>rfl
  | 2,_=>rfl
  | 3,_=>rfl
  | 4,_=>rfl
  | 5,_=>rfl
 ·match i,hi with
  | 0,_=>exact g.g1
  | 1,_=>exact g.g2
  | 2,_=>exact g.g3
  | 3,_=>exact g.g4
  | 4,_=>exact g.g5
  | 5,_=>exact g.g6
 ·match i,hi with
  | 0,_=>exact ⟨by show 1<10;omega,ho.n1.1,ho.n1.2⟩
  | 1,_=>exact ⟨by show 2<10;omega,ho.n2.1,ho.n2.2⟩
  | 2,_=>exact ⟨by show 3<10;omega,ho.n3.1,ho.n3.2⟩
  | 3,_=>exact ⟨by show 4<10;omega,ho.n4.1,ho.n4.2⟩
  | 4,_=>exact ⟨by show 5<10;omega,ho.n5.1,ho.n5.2⟩
  | 5,_=>exact ⟨by show 6<10;omega,ho.n6.1,ho.n6.2⟩
theorem nC.bat_r {pos:Nat→Int} (h:nC w0 cb bx qb s (pos 7) true (bY e x1 x2 x3 x4 x5 x6 (.slice none 0 0)) w) (g:aLb s e x1 x2 x3 x4 x5 x6 l pos) (hs:s.size≤1000000000) :
  Calls Tryz.prog 119 #[.pointer (some ⟨cb,0,none⟩),.pointer (some ⟨qb,7,none⟩),.int .i64 500,.func (Fn.func 120) #[] #[.pointer (some ⟨bx,0,none⟩)]] w
  (fun en w'=>en=.returned (.tuple #[])∧∃ a cp,nC w0 cb bx qb s (pos 9) true (bY e x1 x2 x3 x4 x5 x6 (.slice a l.length cp)) w'):=by
 have g7:=g.g7
 rcases g.g8 with ⟨rfl,hp⟩ | ⟨b,rfl,gt,ho,hpl⟩
 ·refine (aI7 h.cod g7 hs (g.le 7 aE) h.blk rfl h.qn aE).mono ?_
  rintro en w' ⟨rfl,c,k⟩
  rw [hp]
  exact ⟨rfl,none,0,(h.one c k).1⟩
 ·refine (aP1 h.cod g7 gt (g.le 8 aE) ho hpl h.st h.c0 h.box h.nbx hs (g.le 7 aE) h.blk rfl h.qn aE).mono ?_
  rintro en w' ⟨g',cp,rfl,c,hb,k⟩
  exact ⟨rfl,_,cp,h.step c hb k⟩
theorem nC.top_r (h:nC w0 cb bx qb s p true (bY e x1 x2 x3 x4 x5 x6 bs) w) (g:cA s p 0 p') (hs:s.size≤1000000000) (hp:p≤s.size) :
  Calls Tryz.prog 121 #[.pointer (some ⟨cb,0,none⟩),.pointer (some ⟨qb,8,none⟩),.int .i64 20,f] w
  (fun en w'=>en=.returned (.tuple #[])∧nC w0 cb bx qb s p' true (bY e x1 x2 x3 x4 x5 x6 bs) w'):=
 (aI9 h.cod g hs hp h.blk rfl h.qn aE).mono (by rintro en w' ⟨rfl,c,k⟩;exact ⟨rfl,(h.one c k).1⟩)
theorem nC.part_r (h:nC w0 cb bx qb s p true (bY e x1 x2 x3 x4 x5 x6 bs) w) (g:cA s p 0 p') (hs:s.size≤1000000000) (hp:p≤s.size) :
  Calls Tryz.prog 123 #[.pointer (some ⟨cb,0,none⟩),.pointer (some ⟨qb,9,none⟩),.int .i64 400,f] w
  (fun en w'=>en=.returned (.tuple #[])∧nC w0 cb bx qb s p' true (bY e x1 x2 x3 x4 x5 x6 bs) w'):=
 (aGg h.cod g hs hp h.blk rfl h.qn aE).mono (by rintro en w' ⟨rfl,c,k⟩;exact ⟨rfl,(h.one c k).1⟩)
end
theorem aVv {D:Nat→Prop} {w:World} {cb qb:Nat} {s:ByteArray} {p e x1 x2 x3 x4 x5 x6:Int} {bs:Value} {l:List aR} (h:nC w cb w.heap.size qb s p false (bY e x1 x2 x3 x4 x5 x6 bs) (w.alloc (.cells #[.pointer (some ⟨cb,0,none⟩)] 118))) (ho:rW e x1 x2 x3 x4 x5 x6)
  (hl:tX D (w.alloc (.cells #[.pointer (some ⟨cb,0,none⟩)] 118)) cb qb bs l) (hs:s.size≤1000000000) (hz:(lB l).size≤1000000) :
  Calls Tryz.prog 58 #[.pointer (some ⟨cb,0,none⟩),.pointer (some ⟨qb,0,none⟩)] w fun en w'=>en=.returned (.tuple #[])∧nC w cb w.heap.size qb (s++putB e++pW (plR qb x1 x2 x3 x4 x5 x6)++lB l++putB 0++putB 0) p false (bY e x1 x2 x3 x4 x5 x6 bs) w':=by
 have HO:=Lib.hid ho
 have HL:=Lib.hid hl
 have hlc:cb<w.heap.size+1:=by have:=aC h.cod;simpa using this
 have hlq:qb<w.heap.size+1:=by have:=aC h.blk;simpa using this
 have hne:¬ w.heap.size+1=cb∧¬ w.heap.size+1=qb:=⟨by omega,by omega⟩
 obtain ⟨W,hW⟩:∃ W,W=(w.alloc (.cells #[.pointer (some ⟨cb,0,none⟩)] 118)).alloc (.cells #[.int .i64 e] 3):=⟨_,rfl⟩
 have h2:nC w cb w.heap.size qb s p false (bY e x1 x2 x3 x4 x5 x6 bs) W:=(by rw [hW];exact h.k0 ((aD.refl _ _).alloc _))
 have hx:W.heap[w.heap.size+1]?=some (.cells #[.int .i64 e] 3 (0,0)):=(by rw [hW];exact aI _ _ _ (by simp))
 have q0:(w.alloc (.cells #[.pointer (some ⟨cb,0,none⟩)] 118)).cell? ⟨qb,0,none⟩=some (.int .i64 e):=aB h.blk 0
 have KW:K0 (w.alloc (.cells #[.pointer (some ⟨cb,0,none⟩)] 118)) W:=(by rw [hW];exact (aD.refl _ _).alloc _)
 have HN:Hid (Calls Tryz.prog 104 #[.pointer (some ⟨cb,0,none⟩),.pointer (some ⟨w.heap.size+1,0,none⟩),.int .i64 0,.int .i64 14] ((w.alloc (.cells #[.pointer (some ⟨cb,0,none⟩)] 118)).alloc (.cells #[.int .i64 e] 3)) fun en w'=>en=.returned (.tuple #[])∧nC w cb w.heap.size qb (s++putB e) p false (bY e x1 x2 x3 x4 x5 x6 bs) w'∧w'.heap[w.heap.size+1]?=some (.cells #[.int .i64 e] 3 (0,0))∧tX D w' cb qb bs l):=by
  rw [← hW]
  refine (oK (n:=e) (lo:=0) (hi:=14) h2.cod (aB hx 0) (aC hx) hne.1 ⟨by have:=ho.e.1;omega,by have:=ho.e.2;omega⟩ aA).mono ?_
  rintro en w' ⟨rfl,c,k⟩
  have c':eW w' cb (s++putB e) p false false:=by
   obtain ⟨a1,a2⟩:=ho.e
   simpa [a1,a2] using c
  obtain ⟨r1,r2⟩:=h2.one c' k
  exact ⟨rfl,r1,(k.block _ (aC hx) hne.1).trans hx,(hl.keep (KW.mono (fun _ _ e=>e.elim))).keep r2⟩
 have z1:=bU (n:=e) ⟨by have:=ho.e.1;omega,by have:=ho.e.2;omega⟩
 have z2:(pW (plR qb x1 x2 x3 x4 x5 x6)).size≤60:=by
  refine vA (l:=plR qb x1 x2 x3 x4 x5 x6) (fun y hy=>?_)
  obtain ⟨_,b,c,d,e,f,g⟩:=ho
  simp only [plR,List.mem_cons,List.mem_nil_iff,or_false] at hy
  rcases hy with rfl | rfl | rfl | rfl | rfl | rfl <;> (constructor <;> (show _≤_) <;> dsimp only <;> omega)
 have z4:(putB 0).size≤10:=bU ⟨by decide,by decide⟩
 have Y1:=Lib.hid (show (s++putB e).size≤100000000000 by simp only [ByteArray.size_append];omega)
 have Y2:=Lib.hid (show (s++putB e++pW (plR qb x1 x2 x3 x4 x5 x6)).size≤10000000000 by simp only [ByteArray.size_append];omega)
 have Y3:=Lib.hid (show (s++putB e++pW (plR qb x1 x2 x3 x4 x5 x6)++lB l).size≤100000000000 by simp only [ByteArray.size_append];omega)
 have Y4:=Lib.hid (show (s++putB e++pW (plR qb x1 x2 x3 x4 x5 x6)++lB l++putB 0).size≤100000000000 by simp only [ByteArray.size_append];omega)
 have fr0:(w.alloc (.cells #[.pointer (some ⟨cb,0,none⟩)] 118)).frozen? ⟨qb,0,none⟩=false:=aH h.blk 0
 clear h ho hl hW h2 hx KW z1 z2 z4 hs hz hlc
 go_enter Tryz.func58,Tryz.ntmps58
 go_wp2_with fail
 refine HN.out.mono ?_
 rintro en w1 ⟨rfl,h1,m1,l1⟩
 have y0:w1.cell? ⟨qb,0,none⟩=some (.int .i64 e):=aB h1.blk 0
 have y1:w1.frozen? ⟨qb,0,none⟩=false:=aH h1.blk 0
 have y2:w1.cell? ⟨w.heap.size+1,0,none⟩=some (.int .i64 e):=aB m1 0
 have y3:=h1.box
 have y4:=aC h1.blk
 have HH:=Lib.hid h1
 have HLW:=Lib.hid l1
 clear h1 m1 l1
 go_upto_region 4 with fail
 obtain ⟨w2,hw2⟩:∃ w2,w2=w1.setCell ⟨qb,0,none⟩ (.int .i64 e):=⟨_,rfl⟩
 rw [← hw2]
 have k2:K0 w1 w2:=by rw [hw2];exact dU (aD.refl (fun _=>False) w1) HH.out.blk rfl
 have H1:=Lib.hid (HH.out.k0 k2)
 have L0':=Lib.hid (HLW.out.keep (k2.mono (fun _ _ e=>e.elim)))
 have b1':=H1.out.box
 clear hw2 k2 y0 y1 y2 y3 y4 HH HLW
 have D1:=Lib.hid (H1.out.k0 (aD.refl (fun _=>False) _).drew)
 have b1:=D1.out.box
 have L1:=Lib.hid (L0'.out.keep (aD.refl _ _).drew)
 clear H1 L0'
 go_region_held3 (fun w':World=>w'.cell? ⟨w.heap.size,0,none⟩=some (.pointer (some ⟨cb,0,none⟩)))
  (first | go_keep | assumption)
  (first | (go_at_call 106;refine (D1.out.plain_w HO.out _ _ Y1.out).mono ?_;rintro en w2 ⟨rfl,h2,k2⟩;have b2:=h2.box;have H2:=Lib.hid h2;have L1':=Lib.hid (L1.out.keep k2);clear h2 k2))
 go_wp2_with fail
 clear b1 D1 L1
 have D2:=Lib.hid (H2.out.k0 (aD.refl (fun _=>False) _).drew)
 have b2:=D2.out.box
 have L2:=Lib.hid (L1'.out.keep (aD.refl _ _).drew)
 clear H2 L1'
 go_region_held3 (fun w':World=>w'.cell? ⟨w.heap.size,0,none⟩=some (.pointer (some ⟨cb,0,none⟩)))
  (first | go_keep | assumption)
  (first | (go_at_call 119;refine (D2.out.bat_w L2.out Y2.out).mono ?_;rintro en w3 ⟨rfl,h3,k3⟩;have b3:=h3.box;have H3:=Lib.hid h3;clear h3 k3))
 go_wp2_with fail
 clear b2 D2 L2
 have D3:=Lib.hid (H3.out.k0 (aD.refl (fun _=>False) _).drew)
 have b3:=D3.out.box
 clear H3
 go_region_held3 (fun w':World=>w'.cell? ⟨w.heap.size,0,none⟩=some (.pointer (some ⟨cb,0,none⟩)))
  (first | go_keep | assumption)
  (first | (go_at_call 121;refine (D3.out.top_w Y3.out).mono ?_;rintro en w4 ⟨rfl,h4,k4⟩;have b4:=h4.box;have H4:=Lib.hid h4;clear h4 k4))
 go_wp2_with fail
 clear b3 D3
 have D4:=Lib.hid (H4.out.k0 (aD.refl (fun _=>False) _).drew)
 have b4:=D4.out.box
 clear H4
 go_region_held3 (fun w':World=>w'.cell? ⟨w.heap.size,0,none⟩=some (.pointer (some ⟨cb,0,none⟩)))
  (first | go_keep | assumption)
  (first | (go_at_call 123;refine (D4.out.part_w Y4.out).mono ?_;rintro en w5 ⟨rfl,h5,k5⟩;have b5:=h5.box;have H5:=Lib.hid h5;clear h5 k5))
 go_wp2_with fail
 go_end0
 exact ⟨rfl,H5.out⟩
theorem aVu {w:World} {cb qb:Nat} {s:ByteArray} {e x1 x2 x3 x4 x5 x6:Int} {l:List aR} {pos:Nat→Int} (h:nC w cb w.heap.size qb s (pos 0) true (bY 0 0 0 0 0 0 0 (.slice none 0 0)) (w.alloc (.cells #[.pointer (some ⟨cb,0,none⟩)] 118))) (ho:rW e x1 x2 x3 x4 x5 x6) (g:aLb s e x1 x2 x3 x4 x5 x6 l pos) (hs:s.size≤1000000000) :
  Calls Tryz.prog 58 #[.pointer (some ⟨cb,0,none⟩),.pointer (some ⟨qb,0,none⟩)] w fun en w'=>∃ a cp,en=.returned (.tuple #[])∧nC w cb w.heap.size qb s (pos 11) true (bY e x1 x2 x3 x4 x5 x6 (.slice a l.length cp)) w':=by
 have HO:=Lib.hid ho
 have hlc:cb<w.heap.size+1:=by have:=aC h.cod;simpa using this
 have hlq:qb<w.heap.size+1:=by have:=aC h.blk;simpa using this
 have hne:¬ w.heap.size+1=cb∧¬ w.heap.size+1=qb:=⟨by omega,by omega⟩
 obtain ⟨W,hW⟩:∃ W,W=(w.alloc (.cells #[.pointer (some ⟨cb,0,none⟩)] 118)).alloc (.cells #[.int .i64 0] 3):=⟨_,rfl⟩
 have h2:nC w cb w.heap.size qb s (pos 0) true (bY 0 0 0 0 0 0 0 (.slice none 0 0)) W:=(by rw [hW];exact h.k0 ((aD.refl _ _).alloc _))
 have hx:W.heap[w.heap.size+1]?=some (.cells #[.int .i64 0] 3 (0,0)):=(by rw [hW];exact aI _ _ _ (by simp))
 have q0:(w.alloc (.cells #[.pointer (some ⟨cb,0,none⟩)] 118)).cell? ⟨qb,0,none⟩=some (.int .i64 0):=aB h.blk 0
 have HN:Hid (Calls Tryz.prog 104 #[.pointer (some ⟨cb,0,none⟩),.pointer (some ⟨w.heap.size+1,0,none⟩),.int .i64 0,.int .i64 14] ((w.alloc (.cells #[.pointer (some ⟨cb,0,none⟩)] 118)).alloc (.cells #[.int .i64 0] 3)) fun en w'=>en=.returned (.tuple #[])∧nC w cb w.heap.size qb s (pos 1) true (bY 0 0 0 0 0 0 0 (.slice none 0 0)) w'∧w'.heap[w.heap.size+1]?=some (.cells #[.int .i64 e] 3 (0,0))):=by
  rw [← hW]
  refine (oJ (ni:=0) (n:=e) (lo:=0) (hi:=14) h2.cod g.g0 hs (g.le 0 aE) hx rfl hne.1 ho.e.1 ho.e.2).mono ?_
  rintro en w' ⟨rfl,c,b,k⟩
  have kk:aD (fun k=>k=cb∨k=w.heap.size+1) W w':=k
  have k3:aD (fun k=>k=cb∨k=qb) w w':=(h2.keep.trans kk (fun k hk e=>e.elim .inl (fun e=>by omega)))
  refine ⟨rfl,⟨c,(kk.block _ (aC h2.blk) (fun e=>e.elim h2.qn (fun e=>hne.2 e.symm))).trans h2.blk,kk.cell' h2.box (fun e=>e.elim h2.nbx.1 (fun e=>by have e':w.heap.size=w.heap.size+1:=e;omega)),h2.nbx,h2.qn,h2.st.keep kk (fun e=>e.elim h2.c0.1 (fun e=>by have e':0=w.heap.size+1:=e;omega)),h2.c0,k3⟩,b⟩
 have fr0:(w.alloc (.cells #[.pointer (some ⟨cb,0,none⟩)] 118)).frozen? ⟨qb,0,none⟩=false:=aH h.blk 0
 have HG:=Lib.hid g
 have HS:=Lib.hid hs
 clear h ho hW h2 hx hs g hlc
 go_enter Tryz.func58,Tryz.ntmps58
 go_wp2_with fail
 refine HN.out.mono ?_
 rintro en w1 ⟨rfl,h1,m1⟩
 have y0:w1.cell? ⟨qb,0,none⟩=some (.int .i64 0):=aB h1.blk 0
 have y1:w1.frozen? ⟨qb,0,none⟩=false:=aH h1.blk 0
 have y2:w1.cell? ⟨w.heap.size+1,0,none⟩=some (.int .i64 e):=aB m1 0
 have y3:=h1.box
 have y4:=aC h1.blk
 have HH:=Lib.hid h1
 clear h1 m1
 go_upto_region 4 with fail
 obtain ⟨w2,hw2⟩:∃ w2,w2=w1.setCell ⟨qb,0,none⟩ (.int .i64 e):=⟨_,rfl⟩
 rw [← hw2]
 have hq2:w2.heap[qb]?=some (.cells (bY e 0 0 0 0 0 0 (.slice none 0 0)) 33 (0,0)):=by rw [hw2];exact aM HH.out.blk 0 _
 have k2:aD (fun k=>k=qb) w1 w2:=by rw [hw2];exact (aD.refl _ _).setC _ _ (fun _=>rfl)
 have H1:=Lib.hid (HH.out.step (HH.out.cod.keep k2 (fun e=>HH.out.qn e.symm)) hq2 (k2.mono (fun _ _ e=>.inr e)))
 have b1':=H1.out.box
 clear hw2 k2 hq2 y0 y1 y2 y3 y4 HH
 have D1:=Lib.hid (H1.out.k0 (aD.refl (fun _=>False) _).drew)
 have b1:=D1.out.box
 clear H1
 go_region_held3 (fun w':World=>w'.cell? ⟨w.heap.size,0,none⟩=some (.pointer (some ⟨cb,0,none⟩)))
  (first | go_keep | assumption)
  (first | (go_at_call 106;refine (D1.out.plain_r HO.out HG.out _ _ HS.out).mono ?_;rintro en w2 ⟨rfl,h2,_⟩;have b2:=h2.box;have H2:=Lib.hid h2;clear h2))
 go_wp2_with fail
 clear b1 D1
 have D2:=Lib.hid (H2.out.k0 (aD.refl (fun _=>False) _).drew)
 have b2:=D2.out.box
 clear H2
 go_region_held3 (fun w':World=>w'.cell? ⟨w.heap.size,0,none⟩=some (.pointer (some ⟨cb,0,none⟩)))
  (first | go_keep | assumption)
  (first | (go_at_call 119;refine (D2.out.bat_r HG.out HS.out).mono ?_;rintro en w3 ⟨rfl,a,cp,h3⟩;have b3:=h3.box;have H3:=Lib.hid h3;clear h3))
 go_wp2_with fail
 clear b2 D2
 have D3:=Lib.hid (H3.out.k0 (aD.refl (fun _=>False) _).drew)
 have b3:=D3.out.box
 clear H3
 go_region_held3 (fun w':World=>w'.cell? ⟨w.heap.size,0,none⟩=some (.pointer (some ⟨cb,0,none⟩)))
  (first | go_keep | assumption)
  (first | (go_at_call 121;refine (D3.out.top_r HG.out.g9 HS.out (HG.out.le 9 aE)).mono ?_;rintro en w4 ⟨rfl,h4⟩;have b4:=h4.box;have H4:=Lib.hid h4;clear h4))
 go_wp2_with fail
 clear b3 D3
 have D4:=Lib.hid (H4.out.k0 (aD.refl (fun _=>False) _).drew)
 have b4:=D4.out.box
 clear H4
 go_region_held3 (fun w':World=>w'.cell? ⟨w.heap.size,0,none⟩=some (.pointer (some ⟨cb,0,none⟩)))
  (first | go_keep | assumption)
  (first | (go_at_call 123;refine (D4.out.part_r HG.out.g10 HS.out (HG.out.le 10 aE)).mono ?_;rintro en w5 ⟨rfl,h5⟩;have b5:=h5.box;have H5:=Lib.hid h5;clear h5))
 go_wp2_with fail
 go_end0
 exact ⟨_,_,rfl,H5.out⟩
end Go.Proofs.YteapahcklcldkaaGreatDoor
