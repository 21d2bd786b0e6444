/-
  The statement is proved: all that it reaches, in parts.
-/
import Derived.Test.YteapahcklcldkaaGreatDoorW24
import Derived.Deep.LoopGhost
set_option maxRecDepth 100000
set_option maxHeartbeats 16000000
namespace Go.Proofs.YteapahcklcldkaaGreatDoor
open Go.RowKit Fx
inductive oC (b:aR) (a:Option Addr) (cap:Nat):Prop where
 | none (h:b.recs=[]) (ha:a=.none) (hc:cap=0)
 | one (r:dY) (h:b.recs=[r]) (p:bT r)
theorem oC.few {b:aR} {a:Option Addr} {cap:Nat} (h:oC b a cap):Few b:=by
 cases h with
 | none h _ _=>exact .none h
 | one r h p=>exact .one r h p
theorem aPu {w:World} {b:aR} {r:dY} {g cap:Nat} {D:Nat→Prop} (h:b.recs=[r]) (p:bT r) (hr:w.ownsRow 0 98 7 (.slice (some ⟨g,0,none⟩) 1 cap) 1 (bA r)) (hD:D g):dN D w b (some ⟨g,0,none⟩) cap:=by
 have hcell:∀ j,j<7→w.cell? ⟨g,0+0*7+j,none⟩=(bA r)[j]?:=fun j hj=>by
  have:=hr.cellAt j aA
  rw [show 0+0*7+j=j by omega]
  exact this
 obtain ⟨br,bs,bp,be,bq,brs⟩:=b
 dsimp only at h
 subst h
 refine ⟨⟨⟨?_,?_,fun _=>⟨g,0,rfl,fun i hi=>?_⟩⟩,fun _=>⟨g,0,rfl,hD⟩⟩,fun i hi=>?_,fun e=>by cases e⟩
 ·rcases hr.2 with ⟨h1,_⟩ | ⟨_,_,_,h1,_,_,h2,_⟩
  ·cases h1
  ·cases h1;exact h2
 ·rcases hr.2 with ⟨h1,_⟩ | ⟨_,_,_,h1,_,_,_,h2,_⟩
  ·cases h1
  ·cases h1;exact h2
 ·match i,hi with
  | 0,_=>exact ⟨bA r,rfl,hcell,aE3 p⟩
 ·match i,hi with
  | 0,_=>exact ⟨g,0,rfl,hcell⟩
theorem aAg {D:Nat→Prop} {w:World} {b:aR} {a:Option Addr} {cap:Nat} (h:dN D w b a cap) (hf:oC b a cap) :
  Calls Tryz.prog 276 #[.agg #[.int .i64 b.base,.int .i64 b.span,.int .i64 b.prod,.int .i64 b.epoch,.int .i64 b.seq,.slice a b.recs.length cap]] w fun e w'=>∃ a' cap',e=.returned (.agg #[.int .i64 b.base,.int .i64 b.span,.int .i64 b.prod,.int .i64 b.epoch,.int .i64 b.seq,.slice a' b.recs.length cap'])∧dN (fun j=>w.heap.size≤j∧j<w'.heap.size) w' b a' cap'∧oC b a' cap'∧K0 w w':=by
 cases hf with
 | none hn ha hc=>
  subst ha;subst hc
  have:=aGn b w
  rw [hn]
  refine this.mono ?_
  rintro e w' ⟨rfl,k⟩
  exact ⟨none,0,rfl,⟨gB.nil _ _ _ hn,fun i hi=>by rw [hn] at hi;exact absurd hi (Nat.not_lt_zero _),fun _=>⟨rfl,rfl⟩⟩,.none hn rfl rfl,k⟩
 | one r hn p=>
  obtain ⟨g,off,rfl,hc⟩:=h.rec_ 0 (by simp [hn])
  have e0:b.recs[0]'vP=r:=(by simp [hn])
  rw [e0] at hc
  have:=aJc b g off cap r w (fun j hj=>by have:=hc j hj;rwa [Nat.zero_mul,Nat.add_zero] at this)
  rw [hn]
  refine this.mono ?_
  rintro e w' ⟨g',cap',rfl,hg,hr,k⟩
  exact ⟨some ⟨g',0,none⟩,cap',rfl,aPu hn p hr ⟨hg,(hr.lt g' rfl).2⟩,.one r hn p,k⟩
theorem aFc {w:World} {F FD:Nat→Prop} {sb db:Nat} {nm:ByteArray} {base ev:Int} {L:List cK} {D:Dsk.aS} (h:dT w F sb db nm base ev L) (hd:aU w FD db D) (hap:∀ k,F k→¬ FD k) (wf:Dsk.fV D) {D0:Nat→Prop} {b:aR} {a:Option Addr} {cap:Nat} (hb:dN D0 w b a cap) (hfew:oC b a cap) (hok:dH b)
  (hst:bF w) (_hFD0:¬ FD 0) (hD0:∀ j,D0 j→¬ FD j) (hend:qM base L≤b.base) (hde:Dsk.fQ D nm (aZ b)=0) (hbs:b.base≤1000) (hpos:(cH L:Int)<ev) (hev:ev≤1000) (hf:∀ a cap,yR L ⟨b,a,cap,cH L,(aZ b).size⟩) (hl:L.length≤1000) :
  Calls Tryz.prog 217 #[.pointer (some ⟨sb,0,none⟩),.agg #[.int .i64 b.base,.int .i64 b.span,.int .i64 b.prod,.int .i64 b.epoch,.int .i64 b.seq,.slice a b.recs.length cap]] w fun e w'=>e=.returned (.int .i64 0)∧∃ F' FD' a' cap',dT w' F' sb db nm base ev (L++[⟨b,a',cap',cH L,(aZ b).size⟩])∧aU w' FD' db (Dsk.cL D nm (aZ b))∧(∀ k,F' k→¬ FD' k)∧aP (fun k=>F k∨FD k) (fun k=>F' k∨FD' k) w w':=by
 have hes:(aZ b).size≤60008:=by rw [dX];have:=hok.size;omega
 have HES:=Lib.hid hes
 have HH:=Lib.hid h
 have HD:=Lib.hid hd
 have HA:=Lib.hid hap
 have HB:=Lib.hid hb
 have HFEW:=Lib.hid hfew
 have HD0:=Lib.hid hD0
 have HPOS:=Lib.hid hpos
 have HEV:=Lib.hid hev
 have HF:=Lib.hid hf
 have HL:=Lib.hid hl
 have HOK:=Lib.hid hok
 have HBS:=Lib.hid hbs
 have hend':¬ b.base<qM base L:=aA
 have jend:decide (b.base<qM base L)=false:=decide_eq_false hend'
 have hwl:∀ k,FD k→k<w.heap.size:=hd.lt
 have HWL:=Lib.hid hwl
 have HENC:Hid (∀ wx,K0 w wx→Calls Tryz.prog 92 #[.agg #[.int .i64 b.base,.int .i64 b.span,.int .i64 b.prod,.int .i64 b.epoch,.int .i64 b.seq,.slice a b.recs.length cap]] wx fun e w'=>e=.returned (.tuple #[.string (aZ b),.int .i64 0])∧K0 wx w'):=fun wx k=>mE D0 b a cap wx (hb.keep0 k).at_ hok (hst.keep0 k)
 have HDK:Hid (∀ wx,K0 w wx→Calls Tryz.prog 203 #[.pointer (some ⟨db,0,none⟩),.string nm,.string (aZ b)] wx (cZ wx FD db (.int .i64 0) (Dsk.cL D nm (aZ b)))):=fun wx k=>by
  have:=aCx (hd.k0 k) wf nm (aZ b) aA
  rwa [hde] at this
 have HSG:Hid (∀ wx,K0 w wx→dT wx F sb db nm base ev L):=fun wx k=>h.k0 k
 obtain ⟨s0,s1,_,s3,_,sl⟩:=h.cells
 have HSL:=Lib.hid sl
 clear h hd hap wf hb hfew hst _hFD0 hD0 hend hde hpos hev hf hl hok hbs hwl
 go_enter Tryz.func217,Tryz.ntmps217
 go_wp2_with fail
 have HK1:Hid (K0 w (w.alloc (.cells #[.int .i64 b.base,.int .i64 b.span,.int .i64 b.prod,.int .i64 b.epoch,.int .i64 b.seq,.slice a b.recs.length cap] 39))):=(aD.refl _ _).alloc _
 refine (HENC.out _ HK1.out).mono ?_
 rintro e w2 ⟨rfl,k2⟩
 have HBX:Hid (w2.heap[w.heap.size]?=some (.cells #[.int .i64 b.base,.int .i64 b.span,.int .i64 b.prod,.int .i64 b.epoch,.int .i64 b.seq,.slice a b.recs.length cap] 39 (0,0))):=(k2.block _ aK (fun e=>e)).trans (aI w _ _ rfl)
 have HK2:=Lib.hid (HK1.out.tr k2)
 clear k2
 have q0:w2.cell? ⟨sb,0,none⟩=some (.pointer (some ⟨db,0,none⟩)):=HK2.out.cell' s0 (fun e=>e)
 have q1:w2.cell? ⟨sb,1,none⟩=some (.string nm):=HK2.out.cell' s1 (fun e=>e)
 have q3:w2.cell? ⟨sb,3,none⟩=some (.int .i64 (qM base L)):=HK2.out.cell' s3 (fun e=>e)
 have x0:w2.cell? ⟨w.heap.size,0,none⟩=some (.int .i64 b.base):=aB HBX.out 0
 clear s0 s1 s3 sl
 go_wp2_with fail
 go_region_held3 (fun w':World=>K0 w2 w'∧w'.cell? ⟨w.heap.size,0,none⟩=some (.int .i64 b.base)∧w'.cell? ⟨sb,3,none⟩=some (.int .i64 (qM base L)))
  (first | exact ⟨(aD.refl _ _).drew,by first | assumption | go_simp,by first | assumption | go_simp⟩ | (go_split_ands;exact ⟨K0.tr aG kk,kk.cell' aG (fun e=>e),kk.cell' aG (fun e=>e)⟩))
  (first
   | fail)
 go_upto_region 4 with fail
 go_split_ands
 obtain ⟨W3,hW3⟩:∃ W3,W3=w2.drew:=⟨_,rfl⟩
 rw [← hW3]
 have HK3:Hid (K0 w W3):=by rw [hW3];exact HK2.out.drew
 have HBX3:Hid (W3.heap[w.heap.size]?=some (.cells #[.int .i64 b.base,.int .i64 b.span,.int .i64 b.prod,.int .i64 b.epoch,.int .i64 b.seq,.slice a b.recs.length cap] 39 (0,0))):=by rw [hW3];exact HBX.out
 have q0:W3.cell? ⟨sb,0,none⟩=some (.pointer (some ⟨db,0,none⟩)):=by rw [hW3];exact q0
 have q1:W3.cell? ⟨sb,1,none⟩=some (.string nm):=by rw [hW3];exact q1
 clear hW3 HK2 HBX x0 q3 HK1
 have HAP:Hid (∀ wx,K0 W3 wx→Calls Tryz.prog 203 #[.pointer (some ⟨db,0,none⟩),.string nm,.string (aZ b)] wx (cZ wx FD db (.int .i64 0) (Dsk.cL D nm (aZ b)))):=fun wx k=>HDK.out wx (HK3.out.tr k)
 clear HDK HENC
 refine aX 9 (fun w'=>w'.cell? ⟨sb,0,none⟩=some (.pointer (some ⟨db,0,none⟩))∧w'.cell? ⟨sb,1,none⟩=some (.string nm)) (fun _=>True) aF ⟨by go_simp,by go_simp⟩ trivial (fun hS=>?_)
 refine tB 0 hS (fun hS=>?_)
 simp only [Act.put,Sw]
 refine tB 1 hS (fun hS=>?_)
 simp only [Act.put]
 refine tB 2 hS (fun hS=>?_)
 simp only [Act.put]
 refine tA 3 hS (fun hS=>?_)
 simp only [Act.put]
 refine tB 4 hS (fun hS=>?_)
 simp only [Act.put]
 refine tB 5 hS (fun hS=>?_)
 simp only [Act.put]
 refine tB 6 hS (fun hS=>?_)
 simp only [Act.put]
 refine tA 7 hS (fun hS=>?_)
 simp only [Act.put]
 refine tB 8 hS (fun hS=>?_)
 simp only [Act.put]
 refine tO 9 (fun K hK=>?_)
 go_simp
 refine (HAP.out _ (aD.drew (aD.refl _ _))).mono ?_
 rintro e w4 ⟨rfl,FD',hD4,hM4⟩
 have HD4:=Lib.hid hD4
 have HM4:=Lib.hid hM4
 clear hD4 hM4
 go_simp
 refine hK.out _ _ ⟨fun e=>absurd e aE,trivial⟩ (fun hS=>?_)
 clear hK K
 try simp only [Act.put,Sw]
 refine tO 10 (fun K hK=>?_)
 go_simp
 refine hK.out _ _ ⟨fun e=>absurd e aE,trivial⟩ (fun hS=>?_)
 clear hK K
 try simp only [Act.put,Sw]
 refine bC aF ?_ _
 skip
 have HM3:Hid (aP FD FD' W3 w4):=aP.k0_left (aD.drew (aD.refl _ _)) HM4.out
 have HBX4:Hid (w4.heap[w.heap.size]?=some (.cells #[.int .i64 b.base,.int .i64 b.span,.int .i64 b.prod,.int .i64 b.epoch,.int .i64 b.seq,.slice a b.recs.length cap] 39 (0,0))):=(HM3.out.keeps.block _ (aC HBX3.out) (fun e=>Nat.lt_irrefl _ (HWL.out _ e))).trans HBX3.out
 have HSG4:Hid (dT w4 F sb db nm base ev L):=(HSG.out W3 HK3.out).keep HM3.out.keeps HA.out
 have HB4:Hid (dN D0 w4 b a cap):=(HB.out.keep0 HK3.out).keep HM3.out.keeps HD0.out (fun _ e=>e)
 have p0:w4.cell? ⟨w.heap.size,0,none⟩=some (.int .i64 b.base):=aB HBX4.out 0
 have p1:w4.cell? ⟨w.heap.size,1,none⟩=some (.int .i64 b.span):=aB HBX4.out 1
 have p2:w4.cell? ⟨w.heap.size,2,none⟩=some (.int .i64 b.prod):=aB HBX4.out 2
 have p3:w4.cell? ⟨w.heap.size,3,none⟩=some (.int .i64 b.epoch):=aB HBX4.out 3
 have p4:w4.cell? ⟨w.heap.size,4,none⟩=some (.int .i64 b.seq):=aB HBX4.out 4
 have p5:w4.cell? ⟨w.heap.size,5,none⟩=some (.slice a b.recs.length cap):=aB HBX4.out 5
 clear q0 q1 hS
 go_wp2_with fail
 refine (aAg HB4.out HFEW.out).mono ?_
 rintro e w5 ⟨a',cap',rfl,hB5,hF5,k5⟩
 obtain ⟨ib,v,DD,FI,hX⟩:=HSG4.out.k0 k5
 have HX:=Lib.hid hX
 have HB5:=Lib.hid hB5
 have HF5:=Lib.hid hF5
 have HK5:=Lib.hid k5
 clear hX hB5 hF5 k5 p0 p1 p2 p3 p4 p5
 go_wp2_with fail
 refine (uX HX.out HB5.out HF5.out.few (fun j e=>⟨e.2,fun q=>by have:=HSG4.out.lt j q;omega⟩) ⟨HOK.out.base.1,HBS.out⟩ ⟨by have:=HOK.out.span;omega,HOK.out.span.2⟩ (by have:=HES.out;omega) HPOS.out HEV.out (HF.out a' cap') HL.out).mono ?_
 rintro e w6 ⟨rfl,hS6,k6⟩
 have HS6:=Lib.hid hS6
 have HK6:=Lib.hid k6
 clear hS6 k6
 go_wp2_with fail
 go_ret
 have m45:aD FD W3 w5:=HM3.out.keeps.trans HK5.out (fun _ _ e=>e.elim)
 have z34:W3.heap.size≤w4.heap.size:=HM3.out.keeps.size
 have z45:w4.heap.size≤w5.heap.size:=HK5.out.size
 have z56:w5.heap.size≤w6.heap.size:=HK6.out.size
 have z03:w.heap.size≤W3.heap.size:=HK3.out.size
 have hFD4:=HD4.out.lt
 have hdis:∀ j,F j→¬ FD' j:=fun j e q=>(HM3.out.grows j q).elim (HA.out j e) (fun q=>by have:=(HSG.out W3 HK3.out).lt j e;omega)
 refine ⟨rfl,_,FD',a',cap',HS6.out,((HD4.out.k0 HK5.out).keep HK6.out (fun j e q=>hdis j q e)),?_,⟨?_,?_⟩⟩
 ·rintro j (e | e | e) q
  ·exact hdis j e q
  ·have:=hFD4 j q;omega
  ·have:=hFD4 j q;omega
 ·exact ((HK3.out.mono (S1:=fun k=>F k∨FD k) (fun _ _ e=>e.elim)).trans m45 (fun _ _ e=>.inr e)).trans HK6.out (fun _ _ e=>.inl e)
 ·rintro j ((e | e | e) | e)
  ·exact .inl (.inl e)
  ·exact .inr aA
  ·exact .inr aA
  ·exact (HM3.out.grows j e).imp .inr (fun e=>by omega)
def bN (Bs:List aR):ByteArray:=Bs.foldl (fun s b=>s++aZ b) ⟨#[]⟩
theorem nY:bN []=⟨#[]⟩:=rfl
theorem tQ (Bs:List aR) (b:aR):bN (Bs++[b])=bN Bs++aZ b:=by simp [bN]
theorem aDn (Bs Cs:List aR):bN (Bs++Cs)=bN Bs++bN Cs:=by
 induction Cs generalizing Bs with
 | nil=>rw [List.append_nil];exact (mX _).symm
 | cons c r ih=>
  have e1:Bs++c::r=(Bs++[c])++r:=aK
  have e2:c::r=[c]++r:=rfl
  rw [e1,ih,tQ,e2,ih [c]]
  have e3:bN [c]=aZ c:=iP _
  rw [e3,ByteArray.append_assoc]
theorem aKx (Bs:List aR) {k:Nat} (h:k<Bs.length):bN Bs=bN (Bs.take k)++aZ Bs[k]++bN (Bs.drop (k+1)):=by
 have e:Bs=Bs.take k++([Bs[k]]++Bs.drop (k+1)):=by
  rw [show [Bs[k]]++Bs.drop (k+1)=Bs.drop k from (List.drop_eq_getElem_cons h).symm,List.take_append_drop]
 have e3:bN [Bs[k]]=aZ Bs[k]:=iP _
 calc bN Bs=bN (Bs.take k++([Bs[k]]++Bs.drop (k+1))):=by rw [← e]
  _=_:=by rw [aDn,aDn,e3,ByteArray.append_assoc]
def aW5:List cK→Prop
 | []=>True
 | k0::r=>(gW r k0).pos+(gW r k0).size=cH (k0::r)∧0<(gW r k0).size
structure gJ (L:List cK) (Bs:List aR):Prop where
 bs:L.map (·.b)=Bs
 sz:L.map (·.size)=Bs.map fun b=>(aZ b).size
 pos:aW5 L
theorem gJ.nil:gJ [] []:=⟨rfl,rfl,trivial⟩
theorem gJ.len {L:List cK} {Bs:List aR} (h:gJ L Bs):L.length=Bs.length:=by rw [← h.bs,List.length_map]
theorem gJ.size {L:List cK} {Bs:List aR} (h:gJ L Bs):cH L=(bN Bs).size:=by
 unfold cH
 rw [h.sz]
 have:∀ (l:List aR) (s:ByteArray),(l.foldl (fun s b=>s++aZ b) s).size=s.size+(l.map fun b=>(aZ b).size).sum:=by
  intro l
  induction l with
  | nil=>intro s;simp
  | cons b l ih=>intro s;simp only [List.foldl_cons,ih,ByteArray.size_append,List.map_cons,List.sum_cons];omega
 have h2:=this Bs ⟨#[]⟩
 unfold bN
 rw [h2]
 show _=0+_
 omega
theorem gJ.snoc {L:List cK} {Bs:List aR} (h:gJ L Bs) (b:aR) (a:Option Addr) (cap:Nat):gJ (L++[⟨b,a,cap,cH L,(aZ b).size⟩]) (Bs++[b]):=by
 refine ⟨by simp [h.bs],by simp [h.sz],?_⟩
 have hz:0<(aZ b).size:=by rw [dX];omega
 cases L with
 | nil=>exact ⟨by show cH []+(aZ b).size=_;simp [cH],hz⟩
 | cons k0 r=>
  show (gW (r++[_]) k0).pos+(gW (r++[_]) k0).size=cH ((k0::r)++[_])∧0<(gW (r++[_]) k0).size
  rw [aAy,tL]
  exact ⟨rfl,hz⟩
def mC:Int→List aR→Prop
 | _,[]=>True
 | e,b::r=>e≤b.base∧1≤b.span∧mC (b.base+b.span) r
def fL (e:Int) (Bs:List aR):Int:=Bs.foldl (fun _ b=>b.base+b.span) e
theorem rG (e:Int) (Bs:List aR) (b:aR):fL e (Bs++[b])=b.base+b.span:=by simp [fL]
theorem mC.app {e:Int} {Bs Cs:List aR}:mC e (Bs++Cs)↔mC e Bs∧mC (fL e Bs) Cs:=by
 induction Bs generalizing e with
 | nil=>simp [mC,fL]
 | cons b r ih=>simp only [List.cons_append,mC,ih,fL,List.foldl_cons];exact ⟨fun ⟨a,b,c,d⟩=>⟨⟨a,b,c⟩,d⟩,fun ⟨⟨a,b,c⟩,d⟩=>⟨a,b,c,d⟩⟩
theorem gJ.end_ {L:List cK} {Bs:List aR} (h:gJ L Bs) (base:Int):qM base L=fL base Bs:=by
 rw [← h.bs]
 rcases List.eq_nil_or_concat L with rfl | ⟨l,k,rfl⟩
 ·rfl
 ·rw [List.concat_eq_append,aC0,List.map_append]
  exact (rG base _ k.b).symm
theorem gJ.follows {L:List cK} {Bs:List aR} (h:gJ L Bs) {base:Int} {b:aR} (hr:mC base (Bs++[b])) (a:Option Addr) (cap sz:Nat):yR L ⟨b,a,cap,cH L,sz⟩:=by
 have h1:=(mC.app.1 hr).2
 cases hL:L with
 | nil=>exact trivial
 | cons k0 r=>
  subst hL
  have hp:=h.pos
  refine ⟨?_,by have:=hp.1;have:=hp.2;show _<cH (k0::r);omega⟩
  show (gW r k0).b.base<b.base
  have he:=h.end_ base
  have hlast:qM base (k0::r)=(gW r k0).b.base+(gW r k0).b.span:=by
   unfold qM gW
   rw [List.getLast?_cons]
   simp [List.getLastD_eq_getLast?]
  have hsp:1≤(gW r k0).b.span:=by
   have hm:(gW r k0).b∈Bs:=by
    rw [← h.bs]
    exact List.mem_map.2 ⟨_,List.getLastD_mem_cons,rfl⟩
   have:∀ (l:List aR) (e:Int),mC e l→∀ x∈l,1≤x.span:=by
    intro l
    induction l with
    | nil=>intro e _ x hx;cases hx
    | cons y l ih=>
     intro e hr x hx
     rcases List.mem_cons.1 hx with rfl | hx
     ·exact hr.2.1
     ·exact ih _ hr.2.2 x hx
   exact this Bs base (mC.app.1 hr).1 _ hm
  have:=h1.1
  omega
theorem pA {w:World} {F FD:Nat→Prop} {sb db:Nat} {nm:ByteArray} {base ev:Int} {L:List cK} {D:Dsk.aS} (h:dT w F sb db nm base ev L) (hd:aU w FD db D) (wf:Dsk.fV D) (he:Dsk.bJ D nm=0∨Dsk.bJ D nm=6) :
  Calls Tryz.prog 218 #[.pointer (some ⟨sb,0,none⟩)] w (cZ w FD db (.int .i64 0) (Dsk.dJ D nm)):=by
 have HSY:Hid (∀ wx,K0 w wx→Calls Tryz.prog 205 #[.pointer (some ⟨db,0,none⟩),.string nm] wx (cZ wx FD db (.int .i64 (Dsk.bJ D nm)) (Dsk.dJ D nm))):=fun wx k=>aLo (hd.k0 k) wf nm
 obtain ⟨s0,s1,_,_,_,sl⟩:=h.cells
 clear h hd wf
 generalize Dsk.bJ D nm=fe at he HSY
 rcases he with rfl | rfl
 all_goals
  go_enter Tryz.func218,Tryz.ntmps218
  go_wp2_with fail
  refine aX 8 (fun w'=>w'.cell? ⟨sb,0,none⟩=some (.pointer (some ⟨db,0,none⟩))∧w'.cell? ⟨sb,1,none⟩=some (.string nm)) (fun _=>True) aF ⟨by go_simp,by go_simp⟩ trivial (fun hS=>?_)
  refine tB 0 hS (fun hS=>?_)
  simp only [Act.put,Sw]
  refine tB 1 hS (fun hS=>?_)
  simp only [Act.put]
  refine tB 2 hS (fun hS=>?_)
  simp only [Act.put]
  refine tA 3 hS (fun hS=>?_)
  simp only [Act.put]
  refine tB 4 hS (fun hS=>?_)
  simp only [Act.put]
  refine tB 5 hS (fun hS=>?_)
  simp only [Act.put]
  refine tB 6 hS (fun hS=>?_)
  simp only [Act.put]
  refine tA 7 hS (fun hS=>?_)
  simp only [Act.put]
  refine tO 8 (fun K hK=>?_)
  go_simp
  refine (HSY.out _ (aD.drew (aD.refl _ _))).mono ?_
  rintro e w4 ⟨rfl,FD',hD4,hM4⟩
  have HD4:=Lib.hid hD4
  have HM4:=Lib.hid hM4
  clear hD4 hM4
  go_simp
  refine hK.out _ _ ⟨fun e=>absurd e aE,trivial⟩ (fun hS=>?_)
  clear hK K
  try simp only [Act.put,Sw]
  refine tO 9 (fun K hK=>?_)
  go_simp
  refine hK.out _ _ ⟨fun e=>absurd e aE,trivial⟩ (fun hS=>?_)
  clear hK K
  try simp only [Act.put,Sw]
  refine bC aF ?_ _
  skip
  clear hS
  go_wp2_with fail
  go_ret
  exact ⟨rfl,FD',HD4.out,aP.k0_left (aD.drew (aD.refl _ _)) HM4.out⟩
theorem zS.bound {α:Type} {D:Nat→Prop} {n:Nat} {R R':Rdr α} {w:World} {a:Option Addr} {cap:Nat} {l:List α} (h:zS D n R w a cap l) (hn:0<n) (hR:∀ cs x,R w cs x→R' w cs x):zS (fun j=>D j∧j<w.heap.size) n R' w a cap l:=
 ⟨⟨h.1.1,h.1.2.1,fun hne=>by
  obtain ⟨b,off,e,hr⟩:=h.1.2.2 hne
  exact ⟨b,off,e,fun i hi=>by obtain ⟨cs,h1,h2,h3⟩:=hr i hi;exact ⟨cs,h1,h2,hR _ _ h3⟩⟩⟩,fun hne=>by
  obtain ⟨b,off,e,hd⟩:=h.2 hne
  exact ⟨b,off,e,hd,h.lt hn e hne⟩⟩
theorem dN.bound {D:Nat→Prop} {w:World} {b:aR} {a:Option Addr} {cap:Nat} (h:dN D w b a cap):dN (fun j=>D j∧j<w.heap.size) w b a cap:=
 ⟨zS.bound h.at_ aE (fun cs x hx=>⟨by obtain ⟨a',c',e,hs⟩:=hx.1;exact ⟨a',c',e,hs.bound aE (fun _ _ q=>q)⟩,hx.2⟩),h.rec_,h.nil⟩
structure tZ (w0:World) (sb db:Nat) (nm:ByteArray) (base ev:Int) (Bs:List aR) (k:Nat) (wr:World):Prop where
 le:k≤Bs.length
 k0:K0 w0 wr
 seg:∃ L F,dT wr F sb db nm base ev L∧gJ L (Bs.take k)∧∀ j,F j→w0.heap.size≤j
structure aDv (Bs:List aR) (base ev:Int):Prop where
 ok:∀ b∈Bs,dH b∧Few b∧b.base≤1000
 rise:mC base Bs
 evs:ev≤1000
 pos:∀ k,k<Bs.length→((bN (Bs.take k)).size:Int)<ev
 len:Bs.length≤1000
 size:(bN Bs).size≤1000000
theorem Few.plain {b:aR} (h:Few b):∀ k (hk:k<b.recs.length),bT b.recs[k]:=by
 intro k hk
 cases h with
 | none h=>rw [h] at hk;exact absurd hk (Nat.not_lt_zero _)
 | one r h p=>
  have:k=0:=by rw [h] at hk;simpa using hk
  subst this
  have e0:b.recs[0]=r:=by simp [h]
  rw [e0];exact p
theorem tZ.cells {w0 wr:World} {sb db:Nat} {nm:ByteArray} {base ev:Int} {Bs:List aR} {k:Nat} (h:tZ w0 sb db nm base ev Bs k wr):wr.cell? ⟨sb,4,none⟩=some (.int .i64 (bN (Bs.take k)).size)∧wr.cell? ⟨sb,3,none⟩=some (.int .i64 (fL base (Bs.take k)))∧sb<wr.heap.size:=by
 obtain ⟨L,F,hs,hl,_⟩:=h.seg
 obtain ⟨_,_,_,s3,s4,sl⟩:=hs.cells
 rw [hl.size] at s4
 rw [hl.end_] at s3
 exact ⟨s4,s3,sl⟩
theorem tZ.note {w0 wr:World} {sb db:Nat} {nm:ByteArray} {base ev:Int} {Bs:List aR} {k:Nat} (h:tZ w0 sb db nm base ev Bs k wr) (ho:aDv Bs base ev) (hk:k<Bs.length) {wx:World} (hx:K0 wr wx) {a:Option Addr} {cap:Nat} (hb:dN (fun j=>wr.heap.size≤j∧j<wx.heap.size) wx Bs[k] a cap) :
  Calls Tryz.prog 274 #[.pointer (some ⟨sb,0,none⟩),.agg #[.int .i64 Bs[k].base,.int .i64 Bs[k].span,.int .i64 Bs[k].prod,.int .i64 Bs[k].epoch,.int .i64 Bs[k].seq,.slice a Bs[k].recs.length cap],.int .i64 (aZ Bs[k]).size] wx fun e w'=>e=.returned (.tuple #[])∧tZ w0 sb db nm base ev Bs (k+1) w':=by
 obtain ⟨L,F,hs,hl,hF⟩:=h.seg
 obtain ⟨o1,o2,o3⟩:=ho.ok Bs[k] (List.getElem_mem hk)
 obtain ⟨ib,v,DD,FI,hX⟩:=hs.k0 hx
 have ht:Bs.take (k+1)=Bs.take k++[Bs[k]]:=(by rw [List.take_add_one,List.getElem?_eq_getElem hk];rfl)
 have hr:mC base (Bs.take k++[Bs[k]]):=by
  rw [← ht]
  have:=ho.rise
  rw [← List.take_append_drop (k+1) Bs] at this
  exact (mC.app.1 this).1
 have hlen:=hl.len
 rw [List.length_take] at hlen
 have hes:(aZ Bs[k]).size≤60008:=by rw [dX];have:=o1.size;omega
 refine (uX hX hb o2 (fun j e=>⟨e.2,fun q=>by have:=hs.lt j q;omega⟩) ⟨o1.base.1,o3⟩ ⟨by have:=o1.span;omega,o1.span.2⟩ aA (by rw [hl.size];exact ho.pos k hk) ho.evs (hl.follows hr a cap _) (by have:=ho.len;omega)).mono ?_
 rintro e w' ⟨rfl,h1,h2⟩
 have hz:=h.k0.size
 refine ⟨rfl,hk,(K0.tr h.k0 hx).trans h2 (fun j hj e=>by have:=hF j e;omega),_,_,h1,?_,?_⟩
 ·rw [ht]
  exact hl.snoc Bs[k] a cap
 ·rintro j (e | e | e)
  ·exact hF j e
  ·omega
  ·have:=hx.size;omega
theorem aUt {w:World} {ib:Nat} {ev:Int} (hi:zP w ib ev) (hl:ib<w.heap.size) (db:Nat) (nm:ByteArray) (base:Int) :
  zR (w.alloc (.cells #[.pointer (some ⟨db,0,none⟩),.string nm,.int .i64 base,.int .i64 base,.int .i64 0,.slice none 0 0,.pointer (some ⟨ib,0,none⟩)] 426)) (fun j=>j=ib∨j=w.heap.size) w.heap.size db nm base ev [] ib (.slice none 0 0) (fun _=>False) (fun j=>j=ib):=
 ⟨aI w _ _ rfl,⟨rfl,.inl ⟨rfl,rfl⟩⟩,fun k hk=>(by cases hk),⟨aL hi _,fun _=>Iff.rfl⟩,⟨.inr rfl,fun k e=>(by cases e),fun k e=>e.elim,fun k e=>.inl e⟩,⟨fun e=>by omega,fun e=>e,fun e=>by cases e⟩,fun k e=>(by cases e),fun _ _ e=>e,fun k e=>by rw [World.size_alloc];rcases e with e | e <;> omega,fun k hk=>(by cases hk)⟩
theorem tJ {w:World} {FD:Nat→Prop} {db:Nat} {D:Dsk.aS} (hd:aU w FD db D) (nm:ByteArray) (base ev:Int) (Bs:List aR) (ho:aDv Bs base ev) (hst:bF w) (hrd:Dsk.jM D nm=bN Bs) (he:Dsk.bJ D nm=0∨Dsk.bJ D nm=6) (hb:0≤base∧base≤1000) (hev:1≤ev) (hn:0<nm.size∧nm.size≤40) :
  Calls Tryz.prog 215 #[.pointer (some ⟨db,0,none⟩),.string nm,.int .i64 base,.int .i64 ev] w fun e w'=>∃ sb L F,e=.returned (.tuple #[.pointer (some ⟨sb,0,none⟩),.int .i64 0])∧dT w' F sb db nm base ev L∧gJ L Bs∧(∀ j,F j→w.heap.size≤j)∧K0 w w':=by
 have HO:=Lib.hid ho
 have HST:=Lib.hid hst
 have HRD:Hid (∀ wx,K0 w wx→Calls Tryz.prog 180 #[.pointer (some ⟨db,0,none⟩),.string nm] wx fun e w'=>e=.returned (.tuple #[.string (bN Bs),.int .i64 (Dsk.bJ D nm)])∧K0 wx w'):=fun wx k=>by
  have:=yY (hd.k0 k) nm
  rwa [hrd] at this
 have hevs:=ho.evs
 have hsz:=ho.size
 obtain ⟨b1,b2⟩:=hb
 obtain ⟨n1,n2⟩:=hn
 have n3:¬ nm.toList=[]:=fun e=>by rw [uM] at e;omega
 have n4:nm.toList.isEmpty=false:=(by simpa using n3)
 have n5:¬ (40:Int)<nm.size:=aA
 have j1:decide (base<0)=false:=decide_eq_false aA
 have j2:decide (1099511627776<base)=false:=decide_eq_false aA
 have j3:decide ((40:Int)<nm.size)=false:=decide_eq_false n5
 have HIX:Hid (Calls Tryz.prog 273 #[.int .i64 ev] w fun e w'=>e=.returned (.tuple #[.pointer (some ⟨w.heap.size,0,none⟩),.int .i64 0])∧zP w' w.heap.size ev∧K0 w w'):=(aNi ev w hev aA).mono fun e w' q=>⟨q.1,by rw [q.2];exact aI w _ _ rfl,by rw [q.2];exact (aD.refl _ _).alloc _⟩
 clear hd ho hst hrd
 generalize Dsk.bJ D nm=fe at he HRD
 go_enter Tryz.func215,Tryz.ntmps215
 go_wp2_with fail
 refine HIX.out.mono ?_
 rintro e w1 ⟨rfl,hi,k1⟩
 have HI:=Lib.hid hi
 have HK1:=Lib.hid k1
 clear hi k1
 rcases he with rfl | rfl
 all_goals
  go_wp2_with fail
  refine (HRD.out _ HK1.out).mono ?_
  rintro e w2 ⟨rfl,k2⟩
  have HK2:=Lib.hid (HK1.out.tr k2)
  have HI2:Hid (zP w2 w.heap.size ev):=(k2.block _ (aC HI.out) (fun e=>e)).trans HI.out
  have hwz2:w.heap.size<w2.heap.size:=aC HI2.out
  clear k2
  go_wp2_with fail
  have H0:Hid (tZ w w2.heap.size db nm base ev Bs 0 (w2.alloc (.cells #[.pointer (some ⟨db,0,none⟩),.string nm,.int .i64 base,.int .i64 base,.int .i64 0,.slice none 0 0,.pointer (some ⟨w.heap.size,0,none⟩)] 426))):=
   ⟨Nat.zero_le _,HK2.out.alloc _,[],_,⟨_,_,_,_,aUt HI2.out hwz2 db nm base⟩,gJ.nil,fun j e=>by have:=HK2.out.size;rcases e with e | e <;> omega⟩
  go_loopg [] Bs.length (fun n wr=>∃ k,n=Bs.length - k∧tZ w w2.heap.size db nm base ev Bs k wr)
  case atStart=>exact ⟨0,rfl,H0.out⟩
  case round=>
   obtain ⟨k,hgk,hE⟩:=hrel
   have HE:=Lib.hid hE
   have HGK:=Lib.hid hgk
   obtain ⟨e4,e3,elt⟩:=hE.cells
   have hkl:=hE.le
   have HST2:Hid (bF wr):=HST.out.keep0 hE.k0
   clear hE hgk
   by_cases hk:k<Bs.length
   ·have HTXT:=Lib.hid (aKx Bs hk)
    have HTS:Hid (bN (Bs.take (k+1))=bN (Bs.take k)++aZ Bs[k]):=by
     show _=_
     rw [List.take_add_one,List.getElem?_eq_getElem hk]
     exact tQ _ _
    have HTZ:Hid ((bN (Bs.take (k+1))).size=(bN (Bs.take k)).size+(aZ Bs[k]).size):=by show _=_;rw [HTS.out,ByteArray.size_append]
    have hes:(aZ Bs[k]).size≤60008:=by rw [dX];have:=(HO.out.ok Bs[k] (List.getElem_mem hk)).1.size;omega
    have hts:(bN (Bs.take k)).size≤1000000:=by have:=congrArg ByteArray.size HTXT.out;rw [ByteArray.size_append,ByteArray.size_append] at this;omega
    have HDEC:Hid (∀ wx,K0 wr wx→Calls Tryz.prog 94 #[.string (bN Bs),.int .i64 (bN (Bs.take k)).size] wx fun e w'=>∃ a cap,e=.returned (.tuple #[.agg #[.int .i64 Bs[k].base,.int .i64 Bs[k].span,.int .i64 Bs[k].prod,.int .i64 Bs[k].epoch,.int .i64 Bs[k].seq,.slice a Bs[k].recs.length cap],.int .i64 (bN (Bs.take (k+1))).size,.int .i64 0])∧dN (fun k=>wx.heap.size≤k) w' Bs[k] a cap∧K0 wx w'):=fun wx kx=>by
     have hsz2:=HO.out.size
     rw [HTXT.out] at hsz2 ⊢
     rw [HTS.out]
     obtain ⟨o1,o2,o3⟩:=HO.out.ok Bs[k] (List.getElem_mem hk)
     exact aAb _ _ Bs[k] wx o1 o2.plain (HST2.out.keep0 kx) aA
    go_wp2_with fail
    refine (HDEC.out _ (aD.refl _ _)).mono ?_
    rintro e w3 ⟨a,cap,rfl,hB3,k3⟩
    have HB3:=Lib.hid hB3
    have HK3:=Lib.hid k3
    have e4':w3.cell? ⟨w2.heap.size,4,none⟩=some (.int .i64 (bN (Bs.take k)).size):=k3.cell' e4 (fun e=>e)
    have e3':w3.cell? ⟨w2.heap.size,3,none⟩=some (.int .i64 (fL base (Bs.take k))):=k3.cell' e3 (fun e=>e)
    clear hB3 k3 e4 e3
    have hrise:fL base (Bs.take k)≤Bs[k].base:=by
     have:=HO.out.rise
     rw [← List.take_append_drop k Bs,mC.app,List.drop_eq_getElem_cons hk] at this
     exact this.2.1
    have jr:decide (Bs[k].base<fL base (Bs.take k))=false:=decide_eq_false aA
    have htz:=HTZ.out
    have HN:Hid (∀ wx,K0 w3 wx→Calls Tryz.prog 274 #[.pointer (some ⟨w2.heap.size,0,none⟩),.agg #[.int .i64 Bs[k].base,.int .i64 Bs[k].span,.int .i64 Bs[k].prod,.int .i64 Bs[k].epoch,.int .i64 Bs[k].seq,.slice a Bs[k].recs.length cap],.int .i64 (aZ Bs[k]).size] wx fun e w'=>e=.returned (.tuple #[])∧tZ w w2.heap.size db nm base ev Bs (k+1) w'):=fun wx kx=>
     HE.out.note HO.out hk (HK3.out.tr kx) ((HB3.out.keep0 kx).bound)
    go_upto_region 9 with fail
    obtain ⟨W4,hW4⟩:∃ W4,W4=w3.alloc (.cells #[.int .i64 Bs[k].base,.int .i64 Bs[k].span,.int .i64 Bs[k].prod,.int .i64 Bs[k].epoch,.int .i64 Bs[k].seq,.slice a Bs[k].recs.length cap] 39):=⟨_,rfl⟩
    rw [← hW4]
    have HK4:Hid (K0 w3 W4):=by rw [hW4];exact (aD.refl _ _).alloc _
    have HX4:Hid (W4.heap[w3.heap.size]?=some (.cells #[.int .i64 Bs[k].base,.int .i64 Bs[k].span,.int .i64 Bs[k].prod,.int .i64 Bs[k].epoch,.int .i64 Bs[k].seq,.slice a Bs[k].recs.length cap] 39 (0,0))):=by rw [hW4];exact aI w3 _ _ rfl
    have q4:W4.cell? ⟨w2.heap.size,4,none⟩=some (.int .i64 (bN (Bs.take k)).size):=HK4.out.cell' e4' (fun e=>e)
    have q3:W4.cell? ⟨w2.heap.size,3,none⟩=some (.int .i64 (fL base (Bs.take k))):=HK4.out.cell' e3' (fun e=>e)
    have x0:W4.cell? ⟨w3.heap.size,0,none⟩=some (.int .i64 Bs[k].base):=aB HX4.out 0
    have x1:W4.cell? ⟨w3.heap.size,1,none⟩=some (.int .i64 Bs[k].span):=aB HX4.out 1
    have x2:W4.cell? ⟨w3.heap.size,2,none⟩=some (.int .i64 Bs[k].prod):=aB HX4.out 2
    have x3:W4.cell? ⟨w3.heap.size,3,none⟩=some (.int .i64 Bs[k].epoch):=aB HX4.out 3
    have x4:W4.cell? ⟨w3.heap.size,4,none⟩=some (.int .i64 Bs[k].seq):=aB HX4.out 4
    have x5:W4.cell? ⟨w3.heap.size,5,none⟩=some (.slice a Bs[k].recs.length cap):=aB HX4.out 5
    clear hW4 e4' e3'
    have HN4:Hid (∀ wx,K0 W4 wx→Calls Tryz.prog 274 #[.pointer (some ⟨w2.heap.size,0,none⟩),.agg #[.int .i64 Bs[k].base,.int .i64 Bs[k].span,.int .i64 Bs[k].prod,.int .i64 Bs[k].epoch,.int .i64 Bs[k].seq,.slice a Bs[k].recs.length cap],.int .i64 (aZ Bs[k]).size] wx fun e w'=>e=.returned (.tuple #[])∧tZ w w2.heap.size db nm base ev Bs (k+1) w'):=fun wx kx=>HN.out wx (HK4.out.tr kx)
    clear HN
    generalize hT1:(bN (Bs.take (k+1))).size=T1 at htz
    generalize hT0:(bN (Bs.take k)).size=T0 at htz hts q4
    generalize hE1:(aZ Bs[k]).size=E1 at htz hes HN4
    have HT0:=Lib.hid hT0
    have HT1:=Lib.hid hT1
    have hwr:IntKind.i64.wrap ((T1:Int) - T0)=E1:=(by rw [IntWalk.i64_in _ (by omega)];omega)
    have hwr2:IntKind.i64.wrap ((T0:Int)+E1 - T0)=E1:=(by rw [IntWalk.i64_in _ (by omega)];omega)
    have HTZ2:=Lib.hid htz
    clear hT0 hT1 hE1 htz
    go_region_held3 (fun w':World=>K0 W4 w'∧w'.cell? ⟨w3.heap.size,0,none⟩=some (.int .i64 Bs[k].base)∧w'.cell? ⟨w2.heap.size,3,none⟩=some (.int .i64 (fL base (Bs.take k))))
     (first | exact ⟨(aD.refl _ _).drew,by first | assumption | go_simp,by first | assumption | go_simp⟩ | (go_split_ands;exact ⟨K0.tr aG kk,kk.cell' aG (fun e=>e),kk.cell' aG (fun e=>e)⟩))
     (first
      | fail)
    go_upto_region 10 with fail
    obtain ⟨W5,hW5⟩:∃ W5,W5=W4.drew:=⟨_,rfl⟩
    rw [← hW5]
    have HK5:Hid (K0 W4 W5):=by rw [hW5];exact (aD.refl _ _).drew
    have q4:=HK5.out.cell' q4 (fun e=>e)
    have x0:=HK5.out.cell' x0 (fun e=>e)
    have x1:=HK5.out.cell' x1 (fun e=>e)
    have x2:=HK5.out.cell' x2 (fun e=>e)
    have x3:=HK5.out.cell' x3 (fun e=>e)
    have x4:=HK5.out.cell' x4 (fun e=>e)
    have x5:=HK5.out.cell' x5 (fun e=>e)
    clear hW5
    refine aX 8 (fun w'=>w'.cell? ⟨w2.heap.size,4,none⟩=some (.int .i64 T0)∧w'.cell? ⟨w3.heap.size,0,none⟩=some (.int .i64 Bs[k].base)∧w'.cell? ⟨w3.heap.size,1,none⟩=some (.int .i64 Bs[k].span)∧w'.cell? ⟨w3.heap.size,2,none⟩=some (.int .i64 Bs[k].prod)∧w'.cell? ⟨w3.heap.size,3,none⟩=some (.int .i64 Bs[k].epoch)∧w'.cell? ⟨w3.heap.size,4,none⟩=some (.int .i64 Bs[k].seq)∧w'.cell? ⟨w3.heap.size,5,none⟩=some (.slice a Bs[k].recs.length cap)) (fun _=>True) aF ⟨by go_simp,by go_simp,by go_simp,by go_simp,by go_simp,by go_simp,by go_simp⟩ trivial (fun hS=>?_)
    refine tB 0 hS (fun hS=>?_)
    simp only [Act.put,Sw]
    refine tA 1 hS (fun hS=>?_)
    simp only [Act.put]
    refine tB 2 hS (fun hS=>?_)
    simp only [Act.put]
    refine tB 3 hS (fun hS=>?_)
    simp only [Act.put]
    refine tB 4 hS (fun hS=>?_)
    simp only [Act.put]
    refine tB 5 hS (fun hS=>?_)
    simp only [Act.put]
    refine tA 6 hS (fun hS=>?_)
    simp only [Act.put]
    refine tB 7 hS (fun hS=>?_)
    simp only [Act.put]
    refine tO 8 (fun K hK=>?_)
    go_simp
    ((with_reducible refine Calls.mono (HN4.out _ ?_) ?_);· exact HK5.out.drew)
    rintro e w5 ⟨rfl,hN5⟩
    have HN5:=Lib.hid hN5
    clear hN5
    go_simp
    refine hK.out _ _ ⟨fun e=>absurd e aE,trivial⟩ (fun hS=>?_)
    clear hK K
    try simp only [Act.put,Sw]
    refine bC aF ?_ _
    skip
    go_wp2_with fail
    go_roundg (Bs.length - (k+1))
    case measure=>have:=HGK.out;omega
    case rel=>exact ⟨k+1,rfl,HN5.out⟩
   ·obtain rfl:k=Bs.length:=by omega
    have htl:(bN (Bs.take Bs.length)).size=(bN Bs).size:=by rw [List.take_length]
    rw [htl] at e4
    have HEND:Hid (∀ wx,Calls Tryz.prog 94 #[.string (bN Bs),.int .i64 (bN Bs).size] wx fun e w'=>e=.returned (.tuple #[.agg #[.int .i64 0,.int .i64 0,.int .i64 0,.int .i64 0,.int .i64 0,.slice none 0 0],.int .i64 0,.int .i64 2])∧K0 wx w'):=fun wx=>by
     have hr:rdE (bN Bs) (bN Bs).size=2:=by unfold rdE;rw [if_neg aA,if_pos aA]
     have:=aF4 (bN Bs) (bN Bs).size wx aA aA (by rw [hr];decide)
     rwa [hr] at this
    clear htl
    go_wp2_with fail
    refine (HEND.out _).mono ?_
    rintro e w3 ⟨rfl,k3⟩
    have HK3:=Lib.hid k3
    have e4':w3.cell? ⟨w2.heap.size,4,none⟩=some (.int .i64 (bN Bs).size):=k3.cell' e4 (fun e=>e)
    have elt3:w2.heap.size<w3.heap.size:=Nat.lt_of_lt_of_le elt k3.size
    clear k3 e4 e3
    go_upto_region 9 with fail
    go_quiet (fail)
    go_wp2_with fail
    go_ret2
    have hE:=HE.out
    obtain ⟨L,F,hs,hl,hF⟩:=hE.seg
    rw [List.take_length] at hl
    have kf:K0 wr ((w3.alloc (.cells #[.int .i64 0,.int .i64 0,.int .i64 0,.int .i64 0,.int .i64 0,.slice none 0 0] 39)).drewN nq):=(HK3.out.alloc _).drewN _
    exact ⟨_,L,F,rfl,hs.k0 kf,hl,hF,K0.tr hE.k0 kf⟩
def nH (pre:ByteArray):ByteArray:=pre++⟨#[46,115,116,97,114,116]⟩
def oM (pre:ByteArray):ByteArray:=pre++⟨#[46,110,101,119]⟩
def vG (pre:ByteArray):ByteArray:=pre++⟨#[46,115,119,97,112]⟩
section
variable (pre:ByteArray) (lim ev:Int) (w:World) (h:pre.size≤20)
include h
theorem aJi:Calls Tryz.prog 282 #[.agg #[.string pre,.int .i64 lim,.int .i64 ev]] w fun e w'=>e=.returned (.string (nH pre))∧K0 w w':=by
 have z:¬ 9223372036854775807<pre.size+(⟨#[46,115,116,97,114,116]⟩:ByteArray).size:=by show ¬ _<pre.size+6;omega
 go_enter Tryz.func282,Tryz.ntmps282
 go_wp2
 go_ret
 exact ⟨rfl,(aD.refl _ _).alloc _⟩
theorem aI5:Calls Tryz.prog 281 #[.agg #[.string pre,.int .i64 lim,.int .i64 ev]] w fun e w'=>e=.returned (.string (oM pre))∧K0 w w':=by
 have z:¬ 9223372036854775807<pre.size+(⟨#[46,110,101,119]⟩:ByteArray).size:=by show ¬ _<pre.size+4;omega
 go_enter Tryz.func281,Tryz.ntmps281
 go_wp2
 go_ret
 exact ⟨rfl,(aD.refl _ _).alloc _⟩
theorem aM3:Calls Tryz.prog 331 #[.agg #[.string pre,.int .i64 lim,.int .i64 ev]] w fun e w'=>e=.returned (.string (vG pre))∧K0 w w':=by
 have z:¬ 9223372036854775807<pre.size+(⟨#[46,115,119,97,112]⟩:ByteArray).size:=by show ¬ _<pre.size+5;omega
 go_enter Tryz.func331,Tryz.ntmps331
 go_wp2
 go_ret
 exact ⟨rfl,(aD.refl _ _).alloc _⟩
theorem aTg (h0:0<pre.size) (hl:50≤lim∧lim≤1000000) (he:1≤ev∧ev≤1000000):Calls Tryz.prog 326 #[.agg #[.string pre,.int .i64 lim,.int .i64 ev]] w fun e w'=>e=.returned (.bool true)∧K0 w w':=by
 have n3:¬ pre.toList=[]:=fun e=>by rw [uM] at e;omega
 have n4:pre.toList.isEmpty=false:=(by simpa using n3)
 have n5:(pre.size:Int)≤20:=aA
 obtain ⟨l1,l2⟩:=hl
 obtain ⟨v1,v2⟩:=he
 go_enter Tryz.func326,Tryz.ntmps326
 go_wp2
 go_ret
 exact ⟨by simp [*],(aD.refl _ _).alloc _⟩
end
structure fO where
 sb:Nat
 nm:ByteArray
 base:Int
 Bs:List aR
def mM (s:fO):Value:=.pointer (some ⟨s.sb,0,none⟩)
structure fJ (w:World) (F:Nat→Prop) (lb db:Nat) (pre:ByteArray) (lim ev:Int) (Ss:List fO) (v:Value) (FS:Nat→Nat→Prop):Prop where
 blk:w.heap[lb]?=some (.cells #[.string pre,.int .i64 lim,.int .i64 ev,.pointer (some ⟨db,0,none⟩),.int .i64 0,v] 371 (0,0))
 row:w.ownsRow 0 365 1 v Ss.length (Ss.map mM)
 segs:∀ i (h:i<Ss.length),∃ L,dT w (FS i) Ss[i].sb db Ss[i].nm Ss[i].base ev L∧gJ L Ss[i].Bs
 own:F lb∧(∀ k,v.ownBlock=some k→F k)∧∀ i,i<Ss.length→∀ k,FS i k→F k
 ne1:v.ownBlock≠some lb∧∀ i,i<Ss.length→¬ FS i lb
 ne2:∀ k,v.ownBlock=some k→∀ i,i<Ss.length→¬ FS i k
 ne3:∀ i j,i<Ss.length→j<Ss.length→i≠j→∀ k,FS i k→¬ FS j k
 lt:∀ k,F k→k<w.heap.size
 few:Ss.length≤1000
def fN (w:World) (F:Nat→Prop) (lb db:Nat) (pre:ByteArray) (lim ev:Int) (Ss:List fO):Prop:=∃ v FS,fJ w F lb db pre lim ev Ss v FS
section
variable {w w':World} {F F' S:Nat→Prop} {lb db:Nat} {pre:ByteArray} {lim ev:Int} {Ss:List fO} {v:Value} {FS:Nat→Nat→Prop}
theorem fJ.keep (h:fJ w F lb db pre lim ev Ss v FS) (k:aD S w w') (hS:∀ k,F k→¬ S k):fJ w' F lb db pre lim ev Ss v FS:=
 ⟨(k.block lb (aC h.blk) (hS _ h.own.1)).trans h.blk,fS h.row k (fun g e=>hS g (h.own.2.1 g e)),fun i hi=>by
  obtain ⟨L,h1,h2⟩:=h.segs i hi
  exact ⟨L,h1.keep k (fun j e=>hS j (h.own.2.2 i hi j e)),h2⟩,h.own,h.ne1,h.ne2,h.ne3,fun j e=>Nat.lt_of_lt_of_le (h.lt j e) k.size,h.few⟩
theorem fJ.more (h:fJ w F lb db pre lim ev Ss v FS) (hF:∀ k,F k→F' k) (hl:∀ k,F' k→k<w.heap.size):fJ w F' lb db pre lim ev Ss v FS:=
 ⟨h.blk,h.row,h.segs,⟨hF _ h.own.1,fun k e=>hF k (h.own.2.1 k e),fun i hi k e=>hF k (h.own.2.2 i hi k e)⟩,h.ne1,h.ne2,h.ne3,hl,h.few⟩
theorem fN.keep (h:fN w F lb db pre lim ev Ss) (k:aD S w w') (hS:∀ k,F k→¬ S k):fN w' F lb db pre lim ev Ss:=by
 obtain ⟨v,FS,h⟩:=h
 exact ⟨v,FS,h.keep k hS⟩
theorem fN.k0 (h:fN w F lb db pre lim ev Ss) (k:K0 w w'):fN w' F lb db pre lim ev Ss:=h.keep k (fun _ _ e=>e)
theorem fN.lt (h:fN w F lb db pre lim ev Ss):∀ k,F k→k<w.heap.size:=by
 obtain ⟨v,FS,h⟩:=h
 exact h.lt
theorem fN.more (h:fN w F lb db pre lim ev Ss) (hF:∀ k,F k→F' k) (hl:∀ k,F' k→k<w.heap.size):fN w F' lb db pre lim ev Ss:=by
 obtain ⟨v,FS,h⟩:=h
 exact ⟨v,FS,h.more hF hl⟩
theorem fJ.cells (h:fJ w F lb db pre lim ev Ss v FS):w.cell? ⟨lb,0,none⟩=some (.string pre)∧w.cell? ⟨lb,1,none⟩=some (.int .i64 lim)∧w.cell? ⟨lb,2,none⟩=some (.int .i64 ev)∧w.cell? ⟨lb,3,none⟩=some (.pointer (some ⟨db,0,none⟩))∧w.cell? ⟨lb,4,none⟩=some (.int .i64 0)∧w.cell? ⟨lb,5,none⟩=some v∧lb<w.heap.size:=
 ⟨aB h.blk 0,aB h.blk 1,aB h.blk 2,aB h.blk 3,aB h.blk 4,aB h.blk 5,aC h.blk⟩
theorem fJ.slice (h:fJ w F lb db pre lim ev Ss v FS):∃ a c,v=.slice a Ss.length c∧∀ i (hi:i<Ss.length),∃ g,a=some ⟨g,0,none⟩∧w.cell? ⟨g,i,none⟩=some (mM Ss[i]):=by
 rcases h.row.2 with ⟨h1,h2⟩ | ⟨g,cap,cur,rfl,_⟩
 ·exact ⟨none,0,by rw [h2];exact h1,fun i hi=>by omega⟩
 ·refine ⟨some ⟨g,0,none⟩,cap,rfl,fun i hi=>⟨g,rfl,?_⟩⟩
  have:=h.row.cellAt i aA
  rw [this,List.getElem?_map,List.getElem?_eq_getElem hi]
  rfl
end
section
variable {w:World} {F FD:Nat→Prop} {lb db:Nat} {pre:ByteArray} {lim ev:Int} {Ss:List fO} {v:Value} {FS:Nat→Nat→Prop}
theorem tE (h:fJ w F lb db pre lim ev [] v FS):Calls Tryz.prog 210 #[.pointer (some ⟨lb,0,none⟩)] w fun e w'=>e=.returned (.pointer none)∧K0 w w':=by
 obtain ⟨a,c,rfl,_⟩:=h.slice
 obtain ⟨_,_,_,_,_,c5,lt⟩:=h.cells
 clear h
 go_enter Tryz.func210,Tryz.ntmps210
 go_wp2
 go_ret
 exact ⟨rfl,aD.refl _ _⟩
theorem fX (h:fJ w F lb db pre lim ev Ss v FS) (m:Nat) (hm:Ss.length=m+1):Calls Tryz.prog 210 #[.pointer (some ⟨lb,0,none⟩)] w fun e w'=>e=.returned (mM (Ss[m]'aA))∧K0 w w':=by
 obtain ⟨a,c,rfl,hr⟩:=h.slice
 obtain ⟨g,rfl,hc⟩:=hr m aA
 obtain ⟨_,_,_,_,_,c5,lt⟩:=h.cells
 have hml:m+1≤1000:=by have:=h.few;omega
 have HK:Hid (K0 w w):=aD.refl _ _
 unfold mM at hc ⊢
 rw [hm] at c5
 generalize (Ss[m]'aA).sb=sb at hc ⊢
 have i0:(0:Int)≤m:=aA
 have i1:(m:Int)<m+1:=aA
 have i2:(m:Int)+1≤1000:=aA
 have wr1:IntKind.i64.wrap ((m:Int)+1 - 1)=m:=(by rw [IntWalk.i64_in _ (by omega)];omega)
 have wr2:IntKind.i64.wrap (m:Int)=m:=IntWalk.i64_in _ aA
 have nz:¬ (m:Int)+1=0:=aA
 clear h hr hm
 go_enter Tryz.func210,Tryz.ntmps210
 go_wp2_with fail
 go_region_held3 (fun w':World=>K0 w w'∧w'.cell? ⟨lb,5,none⟩=some (.slice (some ⟨g,0,none⟩) (m+1) c)∧w'.cell? ⟨g,m,none⟩=some (.pointer (some ⟨sb,0,none⟩)))
  (first | exact ⟨(aD.refl _ _).drew,by first | assumption | go_simp,by first | assumption | go_simp⟩ | (go_split_ands;exact ⟨K0.tr aG kk,kk.cell' aG (fun e=>e),kk.cell' aG (fun e=>e)⟩))
  (first
   | fail)
 go_wp2_with fail
 go_ret
 exact ⟨rfl,HK.out.drew⟩
theorem tD (h:fJ w F lb db pre lim ev [] v FS):Calls Tryz.prog 142 #[.pointer (some ⟨lb,0,none⟩)] w fun e w'=>e=.returned (.int .i64 0)∧K0 w w':=by
 have HL:=Lib.hid (tE h)
 obtain ⟨_,_,_,_,c4,_,lt⟩:=h.cells
 clear h
 go_enter Tryz.func142,Tryz.ntmps142
 go_wp2_with fail
 refine HL.out.mono ?_
 rintro e w1 ⟨rfl,k1⟩
 have c4':=k1.cell' c4 (fun e=>e)
 have HK:=Lib.hid k1
 clear k1 c4
 go_wp2_with fail
 go_ret
 exact ⟨rfl,HK.out⟩
theorem mK (h:fJ w F lb db pre lim ev Ss v FS) (m:Nat) (hm:Ss.length=m+1):Calls Tryz.prog 142 #[.pointer (some ⟨lb,0,none⟩)] w fun e w'=>e=.returned (.int .i64 (fL (Ss[m]'aA).base (Ss[m]'aA).Bs))∧K0 w w':=by
 have HL:=Lib.hid (fX h m hm)
 have HE:Hid (∀ wx,K0 w wx→Calls Tryz.prog 211 #[mM (Ss[m]'aA)] wx fun e w'=>e=.returned (.int .i64 (fL (Ss[m]'aA).base (Ss[m]'aA).Bs))∧w'=wx):=fun wx k=>by
  obtain ⟨L,h1,h2⟩:=h.segs m aA
  rw [← h2.end_]
  exact wS (h1.k0 k)
 clear h
 unfold mM at HL HE
 generalize (Ss[m]'aA).sb=sb at HL HE ⊢
 go_enter Tryz.func142,Tryz.ntmps142
 go_wp2_with fail
 refine HL.out.mono ?_
 rintro e w1 ⟨rfl,k1⟩
 have HK:=Lib.hid k1
 clear k1
 go_wp2_with fail
 refine (HE.out _ HK.out).mono ?_
 rintro e w2 ⟨rfl,rfl⟩
 go_wp2_with fail
 go_ret
 exact ⟨rfl,HK.out⟩
theorem aHs (h:fJ w F lb db pre lim ev [] v FS):Calls Tryz.prog 214 #[.pointer (some ⟨lb,0,none⟩)] w fun e w'=>e=.returned (.int .i64 0)∧K0 w w':=by
 have HL:=Lib.hid (tE h)
 clear h
 go_enter Tryz.func214,Tryz.ntmps214
 go_wp2_with fail
 refine HL.out.mono ?_
 rintro e w1 ⟨rfl,k1⟩
 have HK:=Lib.hid k1
 clear k1
 go_wp2_with fail
 go_ret
 exact ⟨rfl,HK.out⟩
theorem aHt (h:fJ w F lb db pre lim ev Ss v FS) (m:Nat) (hm:Ss.length=m+1) {D:Dsk.aS} (hd:aU w FD db D) (wf:Dsk.fV D) (he:Dsk.bJ D (Ss[m]'aA).nm=0∨Dsk.bJ D (Ss[m]'aA).nm=6) :
  Calls Tryz.prog 214 #[.pointer (some ⟨lb,0,none⟩)] w (cZ w FD db (.int .i64 0) (Dsk.dJ D (Ss[m]'aA).nm)):=by
 have HL:=Lib.hid (fX h m hm)
 have HE:Hid (∀ wx,K0 w wx→Calls Tryz.prog 218 #[mM (Ss[m]'aA)] wx (cZ wx FD db (.int .i64 0) (Dsk.dJ D (Ss[m]'aA).nm))):=fun wx k=>by
  obtain ⟨L,h1,h2⟩:=h.segs m aA
  exact pA (h1.k0 k) (hd.k0 k) wf he
 clear h hd wf he
 unfold mM at HL HE
 generalize (Ss[m]'aA).sb=sb at HL HE
 generalize Dsk.dJ D (Ss[m]'aA).nm=D' at HE ⊢
 go_enter Tryz.func214,Tryz.ntmps214
 go_wp2_with fail
 refine HL.out.mono ?_
 rintro e w1 ⟨rfl,k1⟩
 have HK:=Lib.hid k1
 clear k1
 go_wp2_with fail
 refine (HE.out _ HK.out).mono ?_
 rintro e w2 ⟨rfl,FD',h1,h2⟩
 have H1:=Lib.hid h1
 have H2:=Lib.hid h2
 clear h1 h2
 go_wp2_with fail
 go_ret
 exact ⟨rfl,FD',H1.out,aP.k0_left HK.out H2.out⟩
end
section
variable {w:World} {F FD:Nat→Prop} {lb db:Nat} {pre:ByteArray} {lim ev:Int} {Ss:List fO} {v:Value} {FS:Nat→Nat→Prop} {D:Dsk.aS}
theorem aAl {D:Dsk.aS} {s:ByteArray} (h:Dsk.bJ D s=6):Dsk.sP D s=D:=by unfold Dsk.sP;rw [if_neg (by rw [h];decide)]
theorem aBd (c3:w.cell? ⟨lb,3,none⟩=some (.pointer (some ⟨db,0,none⟩))) (hd:aU w FD db D) (wf:Dsk.fV D) (s:ByteArray) (he:Dsk.bJ D s=6) :
  Calls Tryz.prog 329 #[.pointer (some ⟨lb,0,none⟩),.string s] w (cZ w FD db (.int .i64 0) D):=by
 have HD:Hid (Calls Tryz.prog 182 #[.pointer (some ⟨db,0,none⟩),.string s] w (cZ w FD db (.int .i64 6) D)):=by
  have:=aLn hd wf s
  rwa [he,aAl he] at this
 clear hd wf he
 go_enter Tryz.func329,Tryz.ntmps329
 go_wp2_with fail
 refine HD.out.mono ?_
 rintro e w2 ⟨rfl,FD',h1,h2⟩
 have H1:=Lib.hid h1
 have H2:=Lib.hid h2
 clear h1 h2
 go_wp2_with fail
 go_ret
 exact ⟨rfl,FD',H1.out,H2.out⟩
theorem yK (h:fJ w F lb db pre lim ev Ss v FS) (hd:aU w FD db D) (hp:pre.size≤20) (he:Dsk.bJ D (nH pre)=6) :
  Calls Tryz.prog 327 #[.pointer (some ⟨lb,0,none⟩)] w fun e w'=>e=.returned (.int .i64 0)∧K0 w w':=by
 have HRD:Hid (∀ wx,K0 w wx→Calls Tryz.prog 180 #[.pointer (some ⟨db,0,none⟩),.string (nH pre)] wx fun e w'=>e=.returned (.tuple #[.string (Dsk.jM D (nH pre)),.int .i64 6])∧K0 wx w'):=fun wx k=>by
  have:=yY (hd.k0 k) (nH pre)
  rwa [he] at this
 have HST:Hid (∀ wx,Calls Tryz.prog 282 #[.agg #[.string pre,.int .i64 lim,.int .i64 ev]] wx fun e w'=>e=.returned (.string (nH pre))∧K0 wx w'):=fun wx=>aJi pre lim ev wx hp
 have HK:Hid (K0 w w):=aD.refl _ _
 obtain ⟨c0,c1,c2,c3,_,_,lt⟩:=h.cells
 clear h hd he
 go_enter Tryz.func327,Tryz.ntmps327
 go_wp2_with fail
 go_region_held3 (fun w':World=>K0 w w'∧w'.cell? ⟨lb,0,none⟩=some (.string pre)∧w'.cell? ⟨lb,1,none⟩=some (.int .i64 lim)∧w'.cell? ⟨lb,2,none⟩=some (.int .i64 ev)∧w'.cell? ⟨lb,3,none⟩=some (.pointer (some ⟨db,0,none⟩)))
  (first | exact ⟨(aD.refl _ _).drew,by first | assumption | go_simp,by first | assumption | go_simp,by first | assumption | go_simp,by first | assumption | go_simp⟩ | (go_split_ands;exact ⟨K0.tr aG kk,kk.cell' aG (fun e=>e),kk.cell' aG (fun e=>e),kk.cell' aG (fun e=>e),kk.cell' aG (fun e=>e)⟩))
  (first
   | (go_at_call 282;go_split_ands;refine (HST.out _).mono ?_;rintro e w' ⟨rfl,kk⟩)
   | (go_at_call 180;go_split_ands;refine (HRD.out _ (by assumption)).mono ?_;rintro e w' ⟨rfl,kk⟩))
 go_wp2_with fail
 go_ret
 go_split_ands
 exact ⟨rfl,by assumption⟩
theorem aJ3 (h:fJ w F lb db pre lim ev Ss v FS):Calls Tryz.prog 150 #[.pointer (some ⟨lb,0,none⟩)] w fun e w'=>e=.returned (.int .i64 0)∧w'=w:=by
 obtain ⟨_,_,_,_,c4,_,lt⟩:=h.cells
 clear h
 go_enter Tryz.func150,Tryz.ntmps150
 go_wp2
 go_ret
 exact ⟨rfl,rfl⟩
theorem aE0 (h:fJ w F lb db pre lim ev Ss v FS) (i:Nat) (hi:i=Ss.length):Calls Tryz.prog 190 #[.pointer (some ⟨lb,0,none⟩),.int .i64 i] w fun e w'=>e=.returned (.tuple #[.slice none 0 0,.bool false])∧K0 w w':=by
 obtain ⟨a,c,rfl,_⟩:=h.slice
 obtain ⟨_,_,_,_,_,c5,lt⟩:=h.cells
 subst hi
 generalize Ss.length=n at c5 ⊢
 have i0:(0:Int)≤n:=aA
 have i1:¬ (n:Int)<0:=aA
 have i2:decide ((n:Int)<0)=false:=decide_eq_false i1
 have i3:decide ((n:Int)≤n)=true:=decide_eq_true aA
 clear h
 go_enter Tryz.func190,Tryz.ntmps190
 go_wp2_with fail
 go_ret2
 exact ⟨rfl,aD.refl _ _⟩
end
end Go.Proofs.YteapahcklcldkaaGreatDoor
