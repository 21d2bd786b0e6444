/-
  The statement is proved: all that it reaches, in parts.
-/
import Derived.Test.YteapahcklcldkaaGreatDoorW42
set_option maxRecDepth 100000
set_option maxHeartbeats 16000000
namespace Go.Proofs.YteapahcklcldkaaGreatDoor
open Go.RowKit Fx
theorem aLl:(qJ 0).size=1:=by kernel_rfl
theorem iU:(fE 0 0).size=4:=by kernel_rfl
def xA (bb stb:Nat) (P:World→(Nat→Prop)→Prop) (w:World) (FQ:Nat→Prop):Prop:=∃ cb FS,FQ=(fun k=>k=bb∨FS k)∧w.heap[bb]?=some (.cells #[.pointer (some ⟨cb,0,none⟩),.pointer (some ⟨stb,0,none⟩)] 152 (0,0))∧P w FS∧¬ FS bb
def vN (stb db:Nat) (lim:Int) (D:Dsk.aS) (fs:List aY) (M:List (Int×Idm.aW)) (w:World) (F:Nat→Prop):Prop:=∃ Ss,Ss.map iA=fs∧rX w F stb db lim 0 1 tM 0 D Ss M
def StN (stb db:Nat) (lim:Int) (D:Dsk.aS) (w:World) (F:Nat→Prop):Prop:=qF w F stb db lim 0 0 D
theorem iQ (stb db:Nat) (lim:Int) (D:Dsk.aS) (fs:List aY) (M:List (Int×Idm.aW)):gL (vN stb db lim D fs M):=
 ⟨fun h k hG _=>by obtain ⟨Ss,h1,h2⟩:=h;exact ⟨Ss,h1,h2.keep k hG⟩,fun h=>by obtain ⟨Ss,_,_,_,_,_,_,_,_,_,h,_⟩:=h;exact h.lt⟩
theorem uY (stb db:Nat) (lim:Int) (D:Dsk.aS):gL (StN stb db lim D):=
 ⟨fun h k hG _=>qF.keep h k hG,fun h=>by obtain ⟨_,_,_,_,_,_,h⟩:=h;exact h.lt⟩
theorem rN {bb stb:Nat} {P:World→(Nat→Prop)→Prop} (oP:gL P):gL (xA bb stb P):=
 ⟨fun h k hG g0=>by
  obtain ⟨cb,FS,rfl,h1,h2,h3⟩:=h
  exact ⟨cb,FS,rfl,(k.block _ (aC h1) (hG _ (.inl rfl))).trans h1,oP.keep h2 k (fun j e=>hG j (.inr e)) g0,h3⟩,fun h j e=>by
  obtain ⟨cb,FS,rfl,h1,h2,h3⟩:=h
  rcases e with rfl | e
  ·exact aC h1
  ·exact oP.lt h2 j e⟩
theorem wD {bb stb cb:Nat} {P':World→(Nat→Prop)→Prop} (oP':gL P') {w w':World} {FS:Nat→Prop} (hb:w.heap[bb]?=some (.cells #[.pointer (some ⟨cb,0,none⟩),.pointer (some ⟨stb,0,none⟩)] 152 (0,0))) (hlt:∀ k,FS k→k<w.heap.size) (hn:¬ FS bb)
  (h:aPd w (fun wx wy=>∃ F',P' wy F'∧aP FS F' wx wy) w'):∃ FQ',xA bb stb P' w' FQ'∧aP (fun k=>k=bb∨FS k) FQ' w w':=by
 obtain ⟨wx,wy,x6,k0,⟨F',hp,hm⟩,k1,hx,hx2⟩:=h
 have hbl:=aC hb
 have hm0:aP FS F' w wy:=aP.k0_left k0 hm
 have hg:=hm0.guest hbl hn
 have hx6:¬ F' x6:=fun e=>by
  rcases hm.grows _ e with e | e
  ·have:=hlt _ e;omega
  ·omega
 refine ⟨fun k=>k=bb∨F' k,⟨cb,F',rfl,(k1.block _ (by have:=hm0.keeps.size;omega) (fun e=>by have e':bb=x6:=e;omega)).trans (hg.2.trans hb),oP'.keep hp k1 (fun j e q=>hx6 (by have q':j=x6:=q;exact q'▸e)) (fun e=>by have e':0=x6:=e;omega),hg.1⟩,?_,fun j e=>?_⟩
 ·exact (hm0.keeps.mono (S1:=fun k=>k=bb∨FS k) (fun _ _ e=>.inr e)).trans k1 (fun k hk e=>absurd hk (by have e':k=x6:=e;omega))
 ·rcases e with e | e
  ·exact .inl (.inl e)
  ·exact (hm0.grows j e).imp .inr (fun e=>e)
section
variable {w:World} {bb stb db:Nat} {FQ:Nat→Prop} {lim:Int} {cs:List Value} {s:ByteArray} {now:Int}
theorem aCr {r:Int} (hr:1000≤r∧r≤4194304) (hlim:50≤lim∧lim≤1000000) (h:xA bb stb (StN stb db lim (Dsk.jS r)) w FQ) (hl:cs.length=20) (h0:cs[0]?=some (.int .i64 1)) (h1:cs[1]?=some (.string tM)) (h3:cs[3]?=some (.int .i64 1)) (hst:bF w) (hz:¬ FQ 0)
  (henc:∀ wx,K0 w wx→Calls Tryz.prog 34 #[.agg cs.toArray] wx fun e w'=>e=.returned (.tuple #[.string s,.int .i64 0])∧K0 wx w') :
  Calls Tryz.prog 28 #[.pointer (some ⟨bb,0,none⟩),.agg cs.toArray,.int .i64 now] w fun e w'=>e=.returned (.agg (bY 0 0 0 0 0 0 0 (.slice none 0 0)))∧∃ FQ',xA bb stb (vN stb db lim (iK r oU) [] []) w' FQ'∧aP FQ FQ' w w':=by
 obtain ⟨cb,FS,rfl,hb,hs,hn⟩:=h
 have hlt:=(uY stb db lim (Dsk.jS r)).lt hs
 have ht:oU.size≤100:=(by rw [kT];decide)
 have hmd:sA (Dsk.jS r) oU=iK r oU:=aQq hr ht
 refine (aF7 (nm:=tM) (n:=1) (r:=0) (er:=0) (e1:=0) (a1:=0) rfl hb hl h0 h1 h3 henc (fun wx wy=>∃ F',vN stb db lim (iK r oU) [] [] wy F'∧aP FS F' wx wy) FS (fun wx wy _ hp=>by obtain ⟨_,_,hm⟩:=hp;exact hm.keeps) (fun j e=>⟨hlt j e,fun q=>hn (q▸e)⟩) (fun wx k=>?_)).mono ?_
 ·have hf:zO (sA (Dsk.jS r) oU) (fE 0 0):=by rw [hmd];exact aNc hr ht
  refine (aIa (s:=tM) (hs.keep k (fun _ _ e=>e)) aE aE hlim (hst.keep0 k) (fun e=>hz (.inr e)) (aJw hr ht) hf (by rw [aLl];decide) (by rw [aLl,iU];decide)).mono ?_
  rintro e w' ⟨rfl,F',q1,q2⟩
  have q1':rX w' F' stb db lim 0 1 tM 0 (sA (Dsk.jS r) oU) [] []:=q1
  rw [hmd] at q1'
  exact ⟨rfl,F',⟨[],rfl,q1'⟩,q2⟩
 ·rintro e w' ⟨rfl,hd⟩
  exact ⟨rfl,wD (iQ _ _ _ _ _ _) hb hlt hn hd⟩
structure aXw (cs:List Value) (b:aR) (b0:Int) (a:Option Addr) (cap:Nat):Prop where
 len:cs.length=20
 kind:cs[0]?=some (.int .i64 4)
 name:cs[1]?=some (.string tM)
 index:cs[2]?=some (.int .i64 0)
 flag:cs[5]?=some (.bool true)
 base:cs[6]?=some (.int .i64 b0)
 span:cs[7]?=some (.int .i64 b.span)
 prod:cs[8]?=some (.int .i64 b.prod)
 epoch:cs[9]?=some (.int .i64 b.epoch)
 seq:cs[10]?=some (.int .i64 b.seq)
 recs:cs[11]?=some (.slice a b.recs.length cap)
variable {D D':Dsk.aS} {fs fs':List aY} {M:List (Int×Idm.aW)} {b:aR} {b0:Int} {a:Option Addr} {cap:Nat} {D0:Nat→Prop}
theorem aPw (h:xA bb stb (vN stb db lim D fs M) w FQ) (hq:aXw cs b b0 a cap) (hl:LogPut (fE 0 0) lim 200 D b fs D' fs') (hlen:fs.length<1000) (ho:dH b) (hsz:(aZ b).size≤50000) (hb:dN D0 w b a cap) (hfew:Few b) (hst:bF w) (hz:¬ FQ 0) (hD0:∀ j,D0 j→j<w.heap.size∧¬ FQ j)
  (hck:Idm.eP M (bI b)=(0,false,0)) (wfM:Idm.WfM M)
  (henc:∀ wx,K0 w wx→Calls Tryz.prog 34 #[.agg cs.toArray] wx fun e w'=>e=.returned (.tuple #[.string s,.int .i64 0])∧K0 wx w') :
  Calls Tryz.prog 28 #[.pointer (some ⟨bb,0,none⟩),.agg cs.toArray,.int .i64 now] w fun e w'=>e=.returned (.agg (bY 0 b.base 0 0 0 0 0 (.slice none 0 0)))∧∃ FQ',xA bb stb (vN stb db lim D' fs' (Idm.hZ M (bI b))) w' FQ'∧aP FQ FQ' w w':=by
 obtain ⟨cb,FS,rfl,hbk,hs,hn⟩:=h
 have hlt:=(iQ stb db lim D fs M).lt hs
 refine (uF (nm:=tM) (r:=b.base) (er:=0) (e1:=0) (a1:=b.base) rfl hbk hq.len hq.kind hq.name hq.index hq.flag hq.base hq.span hq.prod hq.epoch hq.seq hq.recs henc (fun wx wy=>∃ F',vN stb db lim D' fs' (Idm.hZ M (bI b)) wy F'∧aP FS F' wx wy) FS (fun wx wy _ hp=>by obtain ⟨_,_,hm⟩:=hp;exact hm.keeps) (fun j e=>⟨hlt j e,fun q=>hn (q▸e)⟩) (fun wx k=>?_)).mono ?_
 ·obtain ⟨Ss,hfs,hs⟩:=hs
  subst hfs
  refine (aH9 (hs.keep k (fun _ _ e=>e)) hl (by rw [iU];decide) hlen ho hsz (hb.keep0 k) (hb.fewA hfew) (hst.keep0 k) (fun e=>hz (.inr e)) (fun j e=>⟨Nat.lt_of_lt_of_le (hD0 j e).1 k.size,fun q=>(hD0 j e).2 (.inr q)⟩) hck wfM).mono ?_
  rintro e w' ⟨rfl,F',Ss',q1,q2,q3⟩
  exact ⟨rfl,F',⟨Ss',q1,q2⟩,q3⟩
 ·rintro e w' ⟨rfl,hd⟩
  exact ⟨rfl,wD (iQ _ _ _ _ _ _) hbk hlt hn hd⟩
theorem aBs {F:Nat→Prop} (h:vN stb db lim D fs M w F):Calls Tryz.prog 83 #[.pointer (some ⟨stb,0,none⟩),.string tM,.int .i64 0] w fun e w'=>e=.returned (.tuple #[.int .i64 0,.int .i64 (rU fs)])∧K0 w w':=by
 obtain ⟨Ss,hfs,tb,tm,pm,v5,cb,FD,FP,pb,hx,lb,prb,FL,FR,hp⟩:=h
 refine aKg hx.part (aB hp.blk 0) (fun wx k=>?_) (fun wx k=>rQ (hp.log.keep k (fun _ _ e=>e)) hfs)
 obtain ⟨v,FS,hl⟩:=hp.log
 refine (aJ3 (hl.keep k (fun _ _ e=>e))).mono ?_
 rintro e w' ⟨rfl,rfl⟩
 exact ⟨rfl,aD.refl _ _⟩
theorem aOt {F:Nat→Prop} (h:vN stb db lim D fs M w F):Calls Tryz.prog 82 #[.pointer (some ⟨stb,0,none⟩),.string tM,.int .i64 0] w fun e w'=>e=.returned (.bool true)∧K0 w w':=by
 obtain ⟨Ss,hfs,tb,tm,pm,v5,cb,FD,FP,pb,hx,hp⟩:=h
 exact aOo hx.part
theorem aR5 {F:Nat→Prop} {f:aY} (h:vN stb db lim D [f] M w F) (hf:f.Bs=[b]) (hfew:Few b) (ho:dH b) (hsz:(aZ b).size≤1000000) (hst:bF w):Calls Tryz.prog 144 #[.pointer (some ⟨stb,0,none⟩),.string tM,.int .i64 0,.int .i64 0,.int .i64 0] w fun e w'=>∃ u wy,e=.returned (.tuple #[u,.int .i64 0])∧K0 w wy∧iY wy [b] u w':=by
 obtain ⟨Ss,hfs,tb,tm,pm,v5,cb,FD,FP,pb,hx,lb,prb,FL,FR,hp⟩:=h
 obtain ⟨s1,rfl,hs1⟩:∃ s1,Ss=[s1]∧iA s1=f:=by
  obtain ⟨Ts,s1,h1,h2,h3⟩:=uT (fs:=[]) hfs
  have:Ts=[]:=List.map_eq_nil_iff.1 h2
  subst this
  exact ⟨s1,h1,h3⟩
 have hB:s1.Bs=[b]:=by rw [← hf,← hs1];rfl
 obtain ⟨v,FS,hl⟩:=hp.log
 obtain ⟨L,h1,h2⟩:=hl.segs 0 (Nat.zero_lt_one)
 have h1':dT w (FS 0) s1.sb db s1.nm s1.base 200 L:=h1
 have h2':gJ L s1.Bs:=h2
 have hbs:∀ k∈L,k.b=b:=fun k hk=>by
  have:k.b∈s1.Bs:=by rw [← h2'.bs];exact List.mem_map_of_mem hk
  rw [hB] at this
  exact List.mem_singleton.1 this
 have hko:aIr L:=by
  refine ⟨fun k hk=>by rw [hbs k hk];exact hfew,fun k hk=>by rw [hbs k hk];exact ho.span,by rw [h2'.len,hB];exact Nat.le_of_ble_eq_true rfl,?_⟩
  rw [h2'.size,hB,show bN [b]=aZ b from iP _]
  exact hsz
 refine aRx hx.part (aB hp.blk 0) (fun u wx w'=>iY wx [b] u w') (fun wx k=>?_)
 exact aN3 (hl.keep k (fun _ _ e=>e)) hB (h1'.k0 k) h2' hko ho (hst.keep0 k)
end
theorem sW (l:List ByteArray):(bR l).size=(l.map (·.size)).sum:=by
 induction l with
 | nil=>rfl
 | cons x r ih=>rw [bR,ByteArray.size_append,ih];rfl
theorem dP {n:Int} (h:-1≤n∧n≤2199023255552):(putB n).size≤10:=bU ⟨by omega,by omega⟩
theorem aE9 {q:fG} (h:jJ q) (hb:(gY q.bat).size≤59000):(bR (lC q)).size≤60000:=by
 have p0:=dP (n:=q.kind) ⟨by have:=h.kin;omega,by have:=h.kin;omega⟩
 have p1:=dG (s:=q.name) (by have:=h.name;omega)
 have p2:=dP h.lix
 have p3:=dP h.lct
 have p4:=dP h.lfr
 have p5:(putB (kR q.flag)).size≤10:=by
  cases q.flag
  ·exact dP (n:=0) aE
  ·exact dP (n:=1) aE
 have p6:=dG (s:=gY q.bat) aA
 have p7:(cJ (bP [0])).size≤10+(bP [0]).size:=dG (by rw [dC];decide)
 have p8:=dG (s:=q.group) (by have:=h.grp;omega)
 have p9:=dP h.lmb
 have p10:=dP h.lgn
 have p11:=dP (n:=0) aE
 have n1:=h.name
 have n2:=h.grp
 have n3:(bP [0]).size=1:=by rw [dC];rfl
 rw [sW]
 simp only [lC,List.map_cons,List.map_nil,List.sum_cons,List.sum_nil]
 omega
theorem vC {q:fG} (h:jJ q) {D:Nat→Prop} {w:World} {cb:Nat} (hb:kP q.bat=true∨(kP q.bat=false∧dH q.bat∧gB D w q.bat q.ba q.bcap)) (hd:∀ k,D k→¬ k=cb):pF D w cb q where
 kind:=⟨by have:=h.kin;omega,by have:=h.kin;omega⟩
 index:=⟨by have:=h.lix;omega,by have:=h.lix;omega⟩
 count:=⟨by have:=h.lct;omega,by have:=h.lct;omega⟩
 from_:=⟨by have:=h.lfr;omega,by have:=h.lfr;omega⟩
 member:=⟨by have:=h.lmb;omega,by have:=h.lmb;omega⟩
 gen:=⟨by have:=h.lgn;omega,by have:=h.lgn;omega⟩
 name:=(by have:=h.name;omega)
 group:=by have:=h.grp;omega
 tops:=by rw [h.top];intro t ht;cases ht
 tlen:=by rw [h.top];exact Nat.zero_le _
 row:=by rw [h.top];intro i hi;exact absurd hi (Nat.not_lt_zero _)
 bat:=hb
 dn:=hd
theorem aEd {q:fG} (h:jJ q) (hz:(gY q.bat).size≤59000) {D:Nat→Prop} {w:World} (hb:kP q.bat=true∨(kP q.bat=false∧dH q.bat∧gB D w q.bat q.ba q.bcap)) (hd:∀ k,D k→k<w.heap.size) (hst:bF w) (h0:0<w.heap.size) :
  Calls Tryz.prog 34 #[.agg q.cells.toList.toArray] w fun e w'=>e=.returned (.tuple #[.string (bR (lC q)),.int .i64 0])∧K0 w w':=by
 have:=yD (w:=w) (q:=q) (fun cb hc=>vC h hb (fun k e q=>by have:=hd k e;omega)) hst h0
 rw [aLp h (aE9 h hz)] at this
 exact this
theorem aEb {q:fG} (h:jJ q) (hz:(gY q.bat).size≤59000) (hqb:q.bat=⟨0,0,0,0,0,[]⟩∨(kP q.bat=false∧dH q.bat)) {a:Option Addr} {cap:Nat} {w:World} {FA:Nat→Prop} (hb:aIq q.bat a cap w FA) (hst:bF w) (h0:0<w.heap.size) :
  ∀ wx,K0 w wx→Calls Tryz.prog 34 #[.agg (qU q a cap).toList.toArray] wx fun e w'=>e=.returned (.tuple #[.string (bR (lC q)),.int .i64 0])∧K0 wx w':=fun wx k=>by
 have h2:jJ {q with ba:=a,bcap:=cap,topics:=[],ta:=none,tcap:=0}:=⟨h.kin,h.lix,h.lct,h.lfr,h.lmb,h.lgn,h.name,h.grp,rfl,h.bat⟩
 refine aEd (D:=FA) h2 hz ?_ (fun j e=>Nat.lt_of_lt_of_le (hb.2 j e) k.size) (hst.keep0 k) (Nat.lt_of_lt_of_le h0 k.size)
 rcases hqb with e | ⟨he,ho⟩
 ·left
  show kP q.bat=true
  rw [e]
  decide
 ·rcases hb.1 with ⟨e,_⟩ | hp
  ·rw [e] at he
   exact absurd he aE
  ·exact .inr ⟨he,ho,(hp.keep0 k).at_⟩
section
variable {w:World} {bb stb db:Nat} {FQ:Nat→Prop} {lim:Int} {cs:List Value} {s:ByteArray} {now:Int} {D:Dsk.aS} {M:List (Int×Idm.aW)} {b:aR}
theorem aPv {f:aY} {r:dY} (h:xA bb stb (vN stb db lim D [f] M) w FQ) (hf:f.Bs=[b]) (hrr:b.recs=[r]) (hpl:bT r) (ho:dH b) (hsz:(aZ b).size≤1000000) (hst:bF w)
  (hl:cs.length=20) (h0:cs[0]?=some (.int .i64 5)) (h1:cs[1]?=some (.string tM)) (h2:cs[2]?=some (.int .i64 0)) (h3:cs[3]?=some (.int .i64 0)) (h4:cs[4]?=some (.int .i64 0)) (h12:cs[12]?=some (.int .i64 0)) (h13:cs[13]?=some (.string ⟨#[]⟩)) (h14:cs[14]?=some (.string ⟨#[]⟩)) (h15:cs[15]?=some (.slice none 0 0))
  (henc:∀ wx,K0 w wx→Calls Tryz.prog 34 #[.agg cs.toArray] wx fun e w'=>e=.returned (.tuple #[.string s,.int .i64 0])∧K0 wx w') :
  Calls Tryz.prog 28 #[.pointer (some ⟨bb,0,none⟩),.agg cs.toArray,.int .i64 now] w (aSv w b (rU [f])):=by
 obtain ⟨cb,FS,rfl,hb,hs,hn⟩:=h
 have o:=iQ stb db lim D [f] M
 refine aI1 hb hl h0 henc (fun wx k=>?_)
 refine aS4 (nm:=tM) ((k.block _ (aC hb) (fun e=>e)).trans hb) h1 h2 h3 h4 h12 h13 h14 h15 hrr hpl (fun wy ky=>?_) (fun wy ky=>?_)
 ·exact aR5 (o.k0 (o.k0 hs k) ky) hf (.one r hrr hpl) ho hsz ((hst.keep0 k).keep0 ky)
 ·exact aBs (o.k0 (o.k0 hs k) ky)
end
theorem aLi {D:Dsk.aS} (h:D.fuse=-1):Dsk.burn D=D:=by
 obtain ⟨r,u,f,l⟩:=D
 cases h
 rfl
theorem uP {D:Dsk.aS} (h:D.fuse=-1):¬ D.fuse=0:=by rw [h];decide
theorem aDz {D:Dsk.aS} {s t:ByteArray} (h:D.fuse=-1) (he:Dsk.fQ D s t=0):Dsk.cL D s t=⟨D.room,D.used+t.size,-1,bD D.files s ⟨(Dsk.dI D s).bytes++t,(Dsk.dI D s).safe⟩⟩:=by
 unfold Dsk.cL
 rw [if_pos he,aLi (by exact h),h]
theorem lQ {D:Dsk.aS} {s:ByteArray} (h:D.fuse=-1):Dsk.bJ D s=if (aQ D.files s).isSome then 0 else 6:=by
 unfold Dsk.bJ
 rw [if_neg (uP h)]
theorem aVa {D:Dsk.aS} {s t:ByteArray} (h:D.fuse=-1) (hn:Dsk.gF s=true) (hr:D.used+t.size≤D.room):Dsk.fQ D s t=0:=by
 unfold Dsk.fQ
 rw [if_neg (uP h),if_pos hn,if_neg aA]
theorem aLu (n:Nat):Dsk.gF (bB (fE 0 0) n)=true:=by
 unfold Dsk.gF
 rw [kG,iU]
 decide
theorem aHg {D:Dsk.aS} {b:aR} {lim ev:Int} (wf:Dsk.fV D) (hfu:D.fuse=-1) (hroom:D.used+(aZ b).size≤D.room) (hno:aQ D.files (bB (fE 0 0) b.base.toNat)=none) (ok:dH b) (hb:b.base≤1000) (hev:1≤ev∧ev≤1000):aK5 (fE 0 0) lim ev D b:=by
 have happ:=aVa hfu (aLu b.base.toNat) hroom
 have hfi:Dsk.bJ D (bB (fE 0 0) b.base.toNat)=6:=by rw [lQ hfu,hno];rfl
 refine ⟨wf,⟨ok,⟨Int.le_refl _,ok.span.1,trivial⟩,hb,by show ((bN []).size:Int)<ev;rw [nY];show (0:Int)<ev;omega,hev.2,Nat.zero_le _⟩,happ,wf.app _ _,.inl ?_,hfi,?_⟩
 ·rw [aDz hfu happ,lQ rfl,bX,if_pos rfl]
  rfl
 ·unfold Dsk.jM
  rw [hfi]
  rfl
theorem xF {w:World} {FD:Nat→Prop} {db:Nat} {r s rb lim:Int} (hd:aU w FD db (Dsk.jS r)) (hr:1≤r∧r≤4194304) (hs:1≤s∧s≤100000) (hrb:1≤rb∧rb≤100000) (hlim:50≤lim∧lim≤1000000) (hst:bF w) (hn0:¬ FD 0) :
  Calls Tryz.prog 27 #[.pointer (some ⟨db,0,none⟩),.agg #[.int .i64 s,.int .i64 rb,.int .i64 lim]] w fun e w'=>∃ bb stb FQ,e=.returned (.tuple #[.pointer (some ⟨bb,0,none⟩),.int .i64 0])∧xA bb stb (StN stb db lim (Dsk.jS r)) w' FQ∧aP FD FQ w w':=by
 refine (aAc hs hrb (fun stb F wx w'=>StN stb db lim (Dsk.jS r) w' F∧aP FD F wx w') (fun wx k=>?_)).mono ?_
 ·refine (aIg (hd.k0 k) (Dsk.fV.new hr) (by show ¬ (-1:Int)=0;decide) rfl hlim (hst.keep0 k) hn0).mono ?_
  rintro e w' ⟨stb,F,rfl,h1,h2,h3⟩
  exact ⟨stb,F,rfl,⟨h1,h3⟩,h2⟩
 ·rintro e w' ⟨bb,cb,stb,F,wx,wy,rfl,hb,k0,⟨h1,h2⟩,k1,hle⟩
  have hlt:=(uY stb db lim (Dsk.jS r)).lt h1
  refine ⟨bb,stb,fun k=>k=bb∨F k,rfl,⟨cb,F,rfl,hb,(uY _ _ _ _).k0 h1 k1,fun e=>by have:=hlt _ e;omega⟩,?_,fun j e=>?_⟩
  ·exact ((k0.mono (S1:=FD) (fun _ _ e=>e.elim)).trans h2.keeps (fun _ _ e=>e)).trans k1 (fun _ _ e=>e.elim)
  ·have z1:=k0.size
   have z2:=h2.keeps.size
   rcases e with rfl | e
   ·exact .inr aA
   ·rcases h2.grows j e with e | e
    ·exact .inl e
    ·exact .inr aA
theorem aO2 (w:World) (r s rb lim:Int) (hr:1≤r∧r≤4194304) (hs:1≤s∧s≤100000) (hrb:1≤rb∧rb≤100000) (hlim:50≤lim∧lim≤1000000) (hst:bF w) (h0:0<w.heap.size) :
  Calls Tryz.prog 14 #[.int .i64 r,.agg #[.int .i64 s,.int .i64 rb,.int .i64 lim]] w fun e w'=>∃ wb sb bb stb db F,e=.returned (.tuple #[.pointer (some ⟨wb,0,none⟩),.int .i64 0])∧oG wb sb (xA bb stb (StN stb db lim (Dsk.jS r))) (yH bb 1 35) w' F∧K0 w w'∧∀ k,F k→w.heap.size≤k:=by
 have HDN:=Lib.hid (fun wx=>Dsk.aGs r wx hr)
 have HST:=Lib.hid hst
 have H0:=Lib.hid h0
 clear hst h0
 go_enter Tryz.func14,Tryz.ntmps14
 go_wp2_with fail
 refine (HDN.out _).mono ?_
 rintro e w1 ⟨db,rfl,hd⟩
 obtain ⟨FD,hd1,hF⟩:=aU.of hd
 have k1:K0 (w.alloc (.cells #[.int .i64 s,.int .i64 rb,.int .i64 lim] 56)) w1:=hd.k0.mono (fun _ _ e=>e trivial)
 have hc1:w1.heap[w.heap.size]?=some (.cells #[.int .i64 s,.int .i64 rb,.int .i64 lim] 56 (0,0)):=(k1.block _ aK (fun e=>e)).trans (aI w _ _ rfl)
 have y0:=aB hc1 0
 have y1:=aB hc1 1
 have y2:=aB hc1 2
 have yl:=aC hc1
 have HFN:Hid (∀ k,FD k→w.heap.size<k):=fun k e=>by
  have h1:=hF k e
  rcases Nat.lt_or_ge w.heap.size k with h | h
  ·exact h
  ·exact absurd ⟨by simp;omega,trivial⟩ h1
 have HK1:Hid (K0 w w1):=K0.tr ((aD.refl (fun _=>False) w).alloc _) k1
 have HD1:=Lib.hid hd1
 clear hd hd1 hF k1 hc1
 go_wp2_with fail
 obtain ⟨W,hW⟩:∃ W,W=w1.alloc (.cells #[.pointer (some ⟨db,0,none⟩),.int .i64 s,.int .i64 rb,.int .i64 lim,.pointer none,.pointer none,.int .i64 0] 121):=⟨_,rfl⟩
 rw [← hW]
 have kW:K0 w1 W:=(by rw [hW];exact (aD.refl _ _).alloc _)
 have hbW:W.heap[w1.heap.size]?=some (.cells #[.pointer (some ⟨db,0,none⟩),.int .i64 s,.int .i64 rb,.int .i64 lim,.pointer none,.pointer none,.int .i64 0] 121 (0,0)):=(by rw [hW];exact aI _ _ _ rfl)
 have hFl:=HD1.out.lt
 have hwn:¬ FD w1.heap.size:=fun e=>by have:=hFl _ e;omega
 have HO:Hid (Calls Tryz.prog 47 #[.pointer (some ⟨w1.heap.size,0,none⟩)] W fun e w'=>e=.returned (.int .i64 0)∧∃ bb sb c wx wy,K0 W wx∧(∃ stb FQ,xA bb stb (StN stb db lim (Dsk.jS r)) wy FQ∧aP FD FQ wx wy)∧aPi c bb∧w'.heap[sb]?=some (.cells c 244 (0,0))∧
   w'.heap[w1.heap.size]?=some (.cells #[.pointer (some ⟨db,0,none⟩),.int .i64 s,.int .i64 rb,.int .i64 lim,.pointer (some ⟨bb,0,none⟩),.pointer (some ⟨sb,0,none⟩),.int .i64 0] 121 (0,0))∧aD (fun k=>k=w1.heap.size) wy w'∧wy.heap.size≤sb):=by
  refine aOy hbW (fun bb wx wy=>∃ stb FQ,xA bb stb (StN stb db lim (Dsk.jS r)) wy FQ∧aP FD FQ wx wy) FD (fun bb wx wy _ h=>?_) hwn (fun wx k=>?_)
  ·obtain ⟨_,_,_,h⟩:=h
   exact h.keeps
  ·refine (xF ((HD1.out.k0 kW).k0 k) hr hs hrb hlim (((HST.out.keep0 HK1.out).keep0 kW).keep0 k) (fun e=>by have:=HFN.out _ e;omega)).mono ?_
   rintro e w' ⟨bb,stb,FQ,rfl,h1,h2⟩
   exact ⟨bb,rfl,stb,FQ,h1,h2⟩
 have HKW:=Lib.hid kW
 have HWL:=Lib.hid (aC hbW)
 have HWN:=Lib.hid hwn
 clear hW kW hbW hFl hwn y0 y1 y2 yl
 refine HO.out.mono ?_
 rintro e w3 ⟨rfl,bb,sb,c,wx,wy,k3,⟨stb,FQ,hq,hm⟩,hok,hsb,hwb,k4,hle⟩
 have HK3:=Lib.hid k3
 have HQ:=Lib.hid hq
 have HM:=Lib.hid hm
 have HOK:=Lib.hid hok
 have HSB:=Lib.hid hsb
 have HWB:=Lib.hid hwb
 have HK4:=Lib.hid k4
 have HLE:=Lib.hid hle
 clear k3 hq hm hok hsb hwb k4 hle
 go_wp2_with fail
 go_ret2
 have hkx:K0 w wx:=K0.tr (K0.tr HK1.out HKW.out) HK3.out
 have oQ:=rN (bb:=bb) (stb:=stb) (uY stb db lim (Dsk.jS r))
 have z0:=H0.out
 have z1:w.heap.size≤w1.heap.size:=HK1.out.size
 have z2:w1.heap.size<wx.heap.size:=Nat.lt_of_lt_of_le HWL.out HK3.out.size
 have z3:=HM.out.keeps.size
 have z4:=HLE.out
 have hg:=HM.out.guest z2 HWN.out
 have hlt:=oQ.lt HQ.out
 have hFQ:∀ k,FQ k→w.heap.size≤k:=fun k e=>by
  rcases HM.out.grows k e with e | e
  ·have:=HFN.out k e;omega
  ·omega
 have hKQ:K0 w wy:=hkx.trans HM.out.keeps (fun k hk e=>by have:=HFN.out k e;omega)
 refine ⟨w1.heap.size,sb,bb,stb,db,_,rfl,⟨FQ,fun _=>False,c,rfl,aB HWB.out 5,aB HWB.out 6,HSB.out,⟨⟨HOK.out.size,HOK.out.does,HOK.out.s1⟩,HOK.out.s0,fun _ e=>e⟩,oQ.keep HQ.out HK4.out (fun j e q=>hg.1 (by have q':j=w1.heap.size:=q;exact q'▸e)) (fun e=>by have e':0=w1.heap.size:=e;omega),⟨by omega,by omega,by omega⟩,⟨hg.1,fun e=>by have:=hlt _ e;omega,fun e=>by have:=hFQ _ e;omega⟩,⟨fun e=>e,fun e=>e,fun e=>e⟩,fun _ e=>e.elim,(HST.out.keep0 hKQ).keep HK4.out (fun e=>by have e':0=w1.heap.size:=e;omega)⟩,hKQ.trans HK4.out (fun k hk e=>by have e':k=w1.heap.size:=e;omega),fun k e=>?_⟩
 rcases e with rfl | rfl | e | e
 ·exact z1
 ·omega
 ·exact hFQ k e
 ·exact e.elim
def rK:dY:=⟨0,0,false,⟨#[107]⟩,false,⟨#[118]⟩,[]⟩
def bK:aR:=⟨0,1,-1,-1,-1,[rK]⟩
def bZ:aR:=⟨0,0,0,0,0,[]⟩
theorem aVf:jV rK=true:=by kernel_rfl
theorem vB:bT rK:=⟨rfl,rfl,rfl,aVf⟩
theorem aLg:(bV bK).size=14:=by kernel_rfl
theorem vZ:(aZ bK).size=22:=by rw [dX,aLg]
theorem aAa:kP bK=false:=by kernel_rfl
theorem xE:dH bK:=by
 refine ⟨⟨by decide,by decide⟩,⟨by decide,by decide⟩,.inl ⟨rfl,rfl,rfl⟩,by decide,fun k hk=>?_,by rw [aLg];decide⟩
 have:k=0:=by have h:k<1:=hk;omega
 subst this
 exact ⟨aVf,(by decide:(-1:Int)<0),(by decide:(0:Int)<1)⟩
theorem aVq:Few bK:=.one rK rfl vB
theorem aPq:∀ k (h:k<bK.recs.length),bT bK.recs[k]:=fun k hk=>by
 have:k=0:=by have h:k<1:=hk;omega
 subst this
 exact vB
theorem yU:(gY bK).size=22:=by
 unfold gY
 rw [if_neg (by rw [aAa];decide),vZ]
theorem kM:(gY bZ).size=0:=by
 unfold gY
 rw [if_pos aE]
 rfl
def mU (k ct:Int) (fl:Bool) (b:aR) (a:Option Addr) (cap:Nat):fG:=⟨k,tM,0,ct,0,fl,b,a,cap,⟨#[]⟩,0,0,[],none,0⟩
theorem nA {k ct:Int} {fl:Bool} {b:aR} {a:Option Addr} {cap:Nat} (hk:1≤k∧k≤14) (hct:-1≤ct∧ct≤2199023255552) (hb:(gY b).size≤60008):jJ (mU k ct fl b a cap):=
 ⟨hk,by show (-1:Int)≤0∧(0:Int)≤_;decide,hct,by show (-1:Int)≤0∧(0:Int)≤_;decide,by show (-1:Int)≤0∧(0:Int)≤_;decide,by show (-1:Int)≤0∧(0:Int)≤_;decide,by show 1≤100;decide,by show 0≤100;decide,rfl,hb⟩
theorem qT {a en:Int} (ha:0≤a∧a≤1000) (he:0≤en∧en≤1000):rW 0 a 0 en 0 0 0:=
 ⟨by decide,by omega,by decide,by omega,by decide,by decide,by decide⟩
theorem aKd {a en:Int} (ha:0≤a∧a≤1000) (he:0≤en∧en≤1000) {l:List aR} (hl:l=[]∨∃ b,l=[b]∧(aZ b).size≤50000):(bR (lA 0 a 0 en 0 0 0 l)).size≤60000:=by
 have p0:=dP (n:=0) aE
 have p1:=dP (n:=a) ⟨by omega,by omega⟩
 have p2:=dP (n:=en) ⟨by omega,by omega⟩
 have p3:(putB (l.length:Int)).size≤10:=dP (by rcases hl with rfl | ⟨b,rfl,_⟩ <;> (simp;try omega))
 have p4:(bR (l.map (fun b=>cJ (aZ b)))).size≤50010:=by
  rcases hl with rfl | ⟨b,rfl,hb⟩
  ·exact Nat.zero_le _
  ·have:=dG (s:=aZ b) aA
   rw [sW]
   simp only [List.map_cons,List.map_nil,List.sum_cons,List.sum_nil]
   omega
 rw [sW]
 simp only [lA,List.map_cons,List.map_nil,List.sum_cons,List.sum_nil]
 omega
theorem aVt:Idm.eP [] (bI bK)=(0,false,0):=by kernel_rfl
def fK:aY:=⟨bB (fE 0 0) 0,0,[bK]⟩
theorem zD (n:Nat):bB (fE 0 0) n≠eS:=fun e=>by
 have h:=congrArg ByteArray.size e
 rw [kG,iU] at h
 exact absurd h aE
theorem aWk {r:Int} (hr:1000≤r∧r≤4194304) {lim:Int} (_hl:50≤lim):LogPut (fE 0 0) lim 200 (iK r oU) bK [] (yL (iK r oU) (bB (fE 0 0) 0) bK) [fK]:=by
 have ht:oU.size≤100:=(by rw [kT];decide)
 refine LogPut.none rfl (aHg (aA1 hr ht) rfl ?_ ?_ xE aE aE)
 ·show ((oU.size:Int))+(aZ bK).size≤r
  rw [kT,vZ]
  omega
 ·show aQ [(eS,_)] _=none
  simp only [aQ]
  rw [if_neg (fun e=>zD _ e.symm)]
section
variable {w:World} {bb stb db:Nat} {FQ FA:Nat→Prop} {a:Option Addr} {cap:Nat} {r lim:Int}
theorem aVz (hr:1000≤r∧r≤4194304) (hlim:50≤lim∧lim≤1000000) (hq:xA bb stb (StN stb db lim (Dsk.jS r)) w FQ) (hb:aIq bZ a cap w FA) (h0:¬ FQ 0) (hst:bF w) (hp:0<w.heap.size) :
  Calls Tryz.prog 28 #[.pointer (some ⟨bb,0,none⟩),.agg (qU (mU 1 1 false bZ none 0) a cap),.int .i64 0] w fun en w'=>∃ bs,en=.returned (.agg (bY 0 0 0 0 0 0 0 bs))∧
   ∃ FQ' FR,xA bb stb (vN stb db lim (iK r oU) [] []) w' FQ'∧aFw bs [] w' FR∧aP FQ FQ' w w'∧(∀ k,FR k→w.heap.size≤k∧¬ FQ' k):=by
 have hrd:jJ (mU 1 1 false bZ none 0):=nA aE aE (by rw [kM];decide)
 refine (aCr (cs:=(qU (mU 1 1 false bZ none 0) a cap).toList) hr hlim hq rfl rfl rfl rfl hst h0 (aEb hrd (by show (gY bZ).size≤_;rw [kM];decide) (.inl rfl) hb hst hp)).mono ?_
 rintro e w' ⟨rfl,FQ',h1,h2⟩
 exact ⟨_,rfl,FQ',fun _=>False,h1,⟨.inl ⟨rfl,rfl⟩,fun _ e=>e.elim⟩,h2,fun _ e=>e.elim⟩
theorem aV0 (hr:1000≤r∧r≤4194304) (hlim:50≤lim∧lim≤1000000) (x:Option Addr) (y:Nat) (hq:xA bb stb (vN stb db lim (iK r oU) [] []) w FQ) (hb:aIq bK a cap w FA) (hap:∀ k,FA k→¬ FQ k) (h0:¬ FQ 0) (hst:bF w) (hp:0<w.heap.size) :
  Calls Tryz.prog 28 #[.pointer (some ⟨bb,0,none⟩),.agg (qU (mU 4 0 true bK x y) a cap),.int .i64 0] w fun en w'=>∃ bs,en=.returned (.agg (bY 0 0 0 0 0 0 0 bs))∧
   ∃ FQ' FR,xA bb stb (vN stb db lim (yL (iK r oU) (bB (fE 0 0) 0) bK) [fK] (Idm.hZ [] (bI bK))) w' FQ'∧aFw bs [] w' FR∧aP FQ FQ' w w'∧(∀ k,FR k→w.heap.size≤k∧¬ FQ' k):=by
 have hrd:jJ (mU 4 0 true bK x y):=nA aE aE (by rw [yU];decide)
 have hbp:dN FA w bK a cap:=by
  rcases hb.1 with ⟨e,_⟩ | h
  ·exact absurd (congrArg aR.span e) aE
  ·exact h
 refine (aPw (cs:=(qU (mU 4 0 true bK x y) a cap).toList) (b:=bK) (b0:=0) (a:=a) (cap:=cap) hq ⟨rfl,rfl,rfl,rfl,rfl,rfl,rfl,rfl,rfl,rfl,rfl⟩ (aWk hr hlim.1) aE xE (by rw [vZ];decide) hbp aVq hst h0 (fun j e=>⟨hb.2 j e,hap j e⟩) aVt zL
  (aEb hrd (by show (gY bK).size≤_;rw [yU];decide) (.inr ⟨aAa,xE⟩) hb hst hp)).mono ?_
 rintro e w' ⟨rfl,FQ',h1,h2⟩
 exact ⟨_,rfl,FQ',fun _=>False,h1,⟨.inl ⟨rfl,rfl⟩,fun _ e=>e.elim⟩,h2,fun _ e=>e.elim⟩
theorem aQa {D:Dsk.aS} {M:List (Int×Idm.aW)} (hq:xA bb stb (vN stb db lim D [fK] M) w FQ) (hb:aIq bZ a cap w FA) (hst:bF w) (hp:0<w.heap.size) :
  Calls Tryz.prog 28 #[.pointer (some ⟨bb,0,none⟩),.agg (qU (mU 5 0 false bZ none 0) a cap),.int .i64 0] w fun en w'=>∃ bs,en=.returned (.agg (bY 0 0 0 1 0 0 0 bs))∧
   ∃ FQ' FR,xA bb stb (vN stb db lim D [fK] M) w' FQ'∧aFw bs [bK] w' FR∧aP FQ FQ' w w'∧(∀ k,FR k→w.heap.size≤k∧¬ FQ' k):=by
 have hrd:jJ (mU 5 0 false bZ none 0):=nA aE aE (by rw [kM];decide)
 have oQ:=rN (bb:=bb) (stb:=stb) (iQ stb db lim D [fK] M)
 refine (aPv (cs:=(qU (mU 5 0 false bZ none 0) a cap).toList) (b:=bK) (r:=rK) hq rfl rfl vB xE (by rw [vZ];decide) hst rfl rfl rfl rfl rfl rfl rfl rfl rfl rfl
  (aEb hrd (by show (gY bZ).size≤_;rw [kM];decide) (.inl rfl) hb hst hp)).mono ?_
 rintro e w' ⟨g,c,a2,cap2,rfl,hM,hP,hg,k⟩
 have hgl:g<w'.heap.size:=hM.lt
 refine ⟨_,rfl,FQ,fun j=>w.heap.size≤j∧j<w'.heap.size,oQ.k0 hq k,⟨.inr ⟨bK,a2,cap2,g,c,rfl,rfl,hM,⟨hg,hgl⟩,?_,xE,aAa⟩,fun _ e=>e.2⟩,aP.of_k0 k,fun j e=>⟨e.1,fun q=>by have:=oQ.lt hq j q;omega⟩⟩
 exact hP.bound.keep (S:=fun _=>False) (aD.refl _ _) (fun _ _ e=>e) (fun j e=>⟨⟨e.1.1,e.2⟩,e.1.2⟩)
end
theorem aPr {w:World} {g:Nat} {ty:TypeId} {r:dY} {b:aR} (hb:w.heap[g]?=some (.cells (bA r).toArray ty (0,0))) (hrr:b.recs=[r]) (hp:bT r):dN (fun k=>k=g) w b (some ⟨g,0,none⟩) 1:=by
 have hl:b.recs.length=1:=by rw [hrr];rfl
 have hall:∀ i (hi:i<b.recs.length),∀ j,j<7→w.cell? ⟨g,0+i*7+j,none⟩=(bA b.recs[i])[j]?:=fun i hi j hj=>by
  have:i=0:=aA
  subst this
  have hr0:b.recs[0]'hi=r:=by simp [hrr]
  rw [hr0,show 0+0*7+j=j by omega,aB hb j]
  simp
 have hpl:∀ i (hi:i<b.recs.length),bT b.recs[i]:=fun i hi=>by
  have:b.recs[i]∈b.recs:=List.getElem_mem _
  have h2:b.recs[i]∈[r]:=by rw [← hrr];exact this
  rw [List.mem_singleton.1 h2]
  exact hp
 exact ⟨⟨⟨by omega,by unfold maxLen;omega,fun _=>⟨g,0,rfl,fun i hi=>⟨bA b.recs[i],rfl,hall i hi,aE3 (hpl i hi)⟩⟩⟩,fun _=>⟨g,0,rfl,rfl⟩⟩,fun i hi=>⟨g,0,rfl,hall i hi⟩,fun hr=>absurd hr (by rw [hrr];simp)⟩
section
variable {κ α:Type} [DecidableEq κ]
theorem jK (L:List (κ×α)) (s:κ) (v:α) (h:s ∉ L.map (·.1)):bD L s v=L++[(s,v)]:=by
 induction L with
 | nil=>rfl
 | cons p L ih=>
  obtain ⟨k,u⟩:=p
  simp only [List.map_cons,List.mem_cons,not_or] at h
  simp only [bD,if_neg (Ne.symm h.1),ih h.2,List.cons_append]
theorem vX (L:List (κ×α)) (s:κ) (u v:α) (h:s ∉ L.map (·.1)):bD (L++[(s,u)]) s v=L++[(s,v)]:=by
 induction L with
 | nil=>simp [bD]
 | cons p L ih=>
  obtain ⟨k,x⟩:=p
  simp only [List.map_cons,List.mem_cons,not_or] at h
  simp only [List.cons_append,bD,if_neg (Ne.symm h.1),ih h.2]
theorem rC (L:List (κ×α)) (s:κ) (u:α) (h:s ∉ L.map (·.1)):aQ (L++[(s,u)]) s=some u:=by
 induction L with
 | nil=>simp [aQ]
 | cons p L ih=>
  obtain ⟨k,x⟩:=p
  simp only [List.map_cons,List.mem_cons,not_or] at h
  simp only [List.cons_append,aQ,if_neg (Ne.symm h.1),ih h.2]
end
abbrev pV:ByteArray:=fE 0 0
def nmL (n:Nat):List UInt8:=(bB pV n).data.toList
theorem aA4 (n:Nat):nmL n=[112,48,46,48,45]++(jR 13 n).map (fun d=>UInt8.ofNat d):=by
 have h1:pV=⟨#[112,48,46,48]⟩:=aF
 unfold nmL bB
 rw [h1]
 simp [ByteArray.data_append,bP,strOfNums]
theorem aQx:∀ n:Fin 1000,([112,48,46,48,45]++(jR 13 n.val).map (fun d=>UInt8.ofNat d):List UInt8)<[112,48,46,48,45]++(jR 13 (n.val+1)).map (fun d=>UInt8.ofNat d):=by decide +kernel
theorem aJz {m n:Nat} (h:m<n) (hn:n≤1000):nmL m<nmL n:=by
 induction n with
 | zero=>omega
 | succ n ih=>
  have h1:nmL n<nmL (n+1):=by
   rw [aA4,aA4]
   exact aQx ⟨n,by omega⟩
  rcases Nat.lt_or_ge m n with h2 | h2
  ·exact List.lt_trans (ih h2 aA) h1
  ·have:m=n:=by omega
   rw [this]
   exact h1
theorem aJ0 {m n:Nat} (hm:m≤1000) (hn:n≤1000) (h:bB pV m=bB pV n):m=n:=by
 have h2:nmL m=nmL n:=congrArg (fun s:ByteArray=>s.data.toList) h
 rcases Nat.lt_trichotomy m n with h1 | h1 | h1
 ·have h3:=aJz h1 hn
  rw [h2] at h3
  exact absurd h3 (List.lt_irrefl _)
 ·exact h1
 ·have h3:=aJz h1 hm
  rw [h2] at h3
  exact absurd h3 (List.lt_irrefl _)
theorem aTz (n:Nat):(eS.data.toList:List UInt8)<nmL n:=by
 rw [aA4]
 show ((109:UInt8)::[101,116,97])<(112:UInt8)::_
 exact List.cons_lt_cons_iff.2 (.inl aE)
structure OnB (b:aR):Prop where
 prod:b.prod=3
 epoch:b.epoch=2
 recs:b.recs=[]
 seq:b.seq=b.base
 base:0≤b.base∧b.base≤550
 span:1≤b.span∧b.span≤50
theorem OnB.body {b:aR} (h:OnB b):(bV b).size≤60:=by
 have hb:=h.base
 have hs:=h.span
 have p (n:Int) (hn:-1≤n∧n≤2199023255552):=dP hn
 have p0:=p b.base ⟨by omega,by omega⟩
 have p1:=p b.span ⟨by omega,by omega⟩
 have p2:=p b.prod (by rw [h.prod];decide)
 have p3:=p b.epoch (by rw [h.epoch];decide)
 have p4:=p b.seq (by rw [h.seq];exact ⟨by omega,by omega⟩)
 have p5:=p (b.recs.length:Int) (by rw [h.recs];decide)
 unfold bV
 rw [h.recs,List.foldl_nil]
 unfold iH nU
 simp only [List.take_succ_cons,List.take_zero,List.foldl_cons,List.foldl_nil,ByteArray.size_append]
 rw [h.recs] at p5 ⊢
 show 0+_+_+_+_+_+_≤60
 omega
theorem OnB.enc {b:aR} (h:OnB b):(aZ b).size≤68:=by
 have:=h.body
 rw [dX]
 omega
theorem OnB.ok {b:aR} (h:OnB b):dH b:=
 ⟨⟨h.base.1,by have:=h.base;omega⟩,h.span,.inr ⟨by rw [h.prod];decide,by rw [h.prod];decide,by rw [h.epoch];decide,by rw [h.epoch];decide,by rw [h.seq];exact h.base.1,by rw [h.seq];have:=h.base;omega⟩,by rw [h.recs];exact Nat.zero_le _,fun k hk=>by rw [h.recs] at hk;exact absurd hk (Nat.not_lt_zero _),by have:=h.body;omega⟩
theorem OnB.few {b:aR} (h:OnB b):Few b:=.none h.recs
structure sJ (k:Nat) (D:Dsk.aS) (mt:ByteArray) (fs:List aY):Prop where
 room:D.room=400000
 fuse:D.fuse=-1
 files:D.files=(eS,⟨mt,mt.size⟩)::fs.map (fun f=>(f.nm,⟨bN f.Bs,(bN f.Bs).size⟩))
 wf:Dsk.fV D
 used:D.used≤100+70*k
structure vR (fs:List aY):Prop where
 nm:∀ f∈fs,f.nm=bB pV f.base.toNat∧0≤f.base∧f.base≤550
 pos:∀ f∈fs,f.Bs≠[]
 bs:∀ f∈fs,∀ b∈f.Bs,OnB b
 rise:∀ f∈fs,mC f.base f.Bs
 few:∀ f∈fs,∀ k,k<f.Bs.length→(bN (f.Bs.take k)).size<60
 riseF:mW fs
 sort:fs.Pairwise (fun f g=>f.base<g.base)
theorem vR.nil:vR []:=⟨fun _ h=>(by cases h),fun _ h=>(by cases h),fun _ h=>(by cases h),fun _ h=>(by cases h),fun _ h=>(by cases h),trivial,List.Pairwise.nil⟩
theorem aR6 (Bs:List aR) (h:∀ b∈Bs,OnB b):(bN Bs).size≤68*Bs.length:=by
 have:∀ (l:List aR) (s:ByteArray),(∀ b∈l,OnB b)→(l.foldl (fun s b=>s++aZ b) s).size≤s.size+68*l.length:=by
  intro l
  induction l with
  | nil=>intro s _;exact Nat.le_refl _
  | cons b l ih=>
   intro s hl
   have h1:=ih (s++aZ b) (fun c hc=>hl c (List.mem_cons_of_mem _ hc))
   have h2:=(hl b (List.mem_cons_self)).enc
   rw [ByteArray.size_append] at h1
   rw [List.foldl_cons,List.length_cons]
   omega
 have h2:=this Bs ⟨#[]⟩ h
 unfold bN
 have h3:(⟨#[]⟩:ByteArray).size=0:=rfl
 omega
theorem vR.out {fs:List aY} (h:vR fs) {n:Int} (hn:0≤n∧n≤550) (hno:∀ f∈fs,f.base≠n):bB pV n.toNat ∉ ((eS,(⟨⟨#[]⟩,0⟩:Dsk.cN))::fs.map (fun f=>(f.nm,(⟨bN f.Bs,(bN f.Bs).size⟩:Dsk.cN)))).map (·.1):=by
 intro hm
 simp only [List.map_cons,List.map_map,List.mem_cons,List.mem_map,Function.comp_apply] at hm
 rcases hm with e | ⟨f,hf,e⟩
 ·exact zD _ e
 ·obtain ⟨h1,h2,h3⟩:=h.nm f hf
  rw [h1] at e
  have:=aJ0 aA aA e
  exact hno f hf aA
theorem aCn {κ α:Type} [DecidableEq κ] (L:List (κ×α)) (s:κ) (v:α) (h:aQ L s=some v):bD L s v=L:=by
 induction L with
 | nil=>cases h
 | cons p L ih=>
  obtain ⟨k,u⟩:=p
  simp only [aQ] at h
  by_cases hk:k=s
  ·rw [if_pos hk] at h
   cases h
   simp [bD,hk]
  ·rw [if_neg hk] at h
   simp only [bD,if_neg hk,ih h]
theorem aUw {α:Type} (l:List α):l=[]∨∃ a b,l=a++[b]:=by
 rcases List.eq_nil_or_concat l with h | ⟨a,b,h⟩
 ·exact .inl h
 ·exact .inr ⟨a,b,by rw [h,List.concat_eq_append]⟩
theorem aFi {D:Dsk.aS} {s:ByteArray} (h:D.fuse=-1) {x:Dsk.cN} (e:aQ D.files s=some x):Dsk.dJ D s=⟨D.room,D.used,-1,bD D.files s ⟨x.bytes,x.bytes.size⟩⟩:=by
 have ho:Dsk.dI D s=x:=by unfold Dsk.dI;rw [e];rfl
 unfold Dsk.dJ
 rw [lQ h,e,if_pos aBx,aLi (by exact h),ho,h]
theorem aRm {D:Dsk.aS} {L:List (ByteArray×Dsk.cN)} {nm t:ByteArray} {b:aR} (hfu:D.fuse=-1) (hfi:D.files=L++[(nm,⟨t,t.size⟩)]) (hno:nm ∉ L.map (·.1)) (he:Dsk.fQ D nm (aZ b)=0) :
  yL D nm b=⟨D.room,D.used+(aZ b).size,-1,L++[(nm,⟨t++aZ b,(t++aZ b).size⟩)]⟩:=by
 have ho:Dsk.dI D nm=⟨t,t.size⟩:=by unfold Dsk.dI;rw [hfi,rC _ _ _ hno];rfl
 unfold yL
 rw [aDz hfu he,ho,hfi,vX _ _ _ _ hno,aFi rfl (rC _ _ _ hno)]
 simp only [vX _ _ _ _ hno]
theorem aUf {D:Dsk.aS} {nm:ByteArray} {b:aR} (hfu:D.fuse=-1) (hno:nm ∉ D.files.map (·.1)) (he:Dsk.fQ D nm (aZ b)=0) :
  yL D nm b=⟨D.room,D.used+(aZ b).size,-1,D.files++[(nm,⟨aZ b,(aZ b).size⟩)]⟩:=by
 have ho:Dsk.dI D nm=Dsk.iT:=by unfold Dsk.dI;rw [zW hno];rfl
 have hn:Dsk.iT.bytes++aZ b=aZ b:=iP _
 unfold yL
 rw [aDz hfu he,ho,hn,jK _ _ _ hno,aFi rfl (rC _ _ _ hno)]
 simp only [vX _ _ _ _ hno]
def aUl (f:aY):ByteArray×Dsk.cN:=(f.nm,⟨bN f.Bs,(bN f.Bs).size⟩)
theorem aHd {fs:List aY} (hnm:∀ f∈fs,f.nm=bB pV f.base.toNat∧0≤f.base∧f.base≤550) (x:Dsk.cN) {n:Int} (hn:0≤n∧n≤550) (hno:∀ f∈fs,f.base≠n):bB pV n.toNat ∉ ((eS,x)::fs.map aUl).map (·.1):=by
 intro hm
 simp only [List.map_cons,List.map_map,List.mem_cons,List.mem_map,Function.comp_apply] at hm
 rcases hm with e | ⟨f,hf,e⟩
 ·exact zD _ e
 ·obtain ⟨h1,h2,h3⟩:=hnm f hf
  have e':f.nm=bB pV n.toNat:=e
  rw [h1] at e'
  have:=aJ0 aA aA e'
  exact hno f hf aA
theorem aUk {e:Int} {Bs:List aR} (h:mC e Bs) (hn:Bs≠[]):e<fL e Bs:=by
 obtain ⟨l,b,rfl⟩:∃ l b,Bs=l++[b]:=by
  rcases List.eq_nil_or_concat Bs with h | ⟨l,b,h⟩
  ·exact absurd h hn
  ·exact ⟨l,b,by rw [h,List.concat_eq_append]⟩
 have h2:=(mC.app.1 h).2
 rw [rG]
 have h3:∀ (l:List aR) (e:Int),mC e l→e≤fL e l:=by
  intro l
  induction l with
  | nil=>intro e _;exact Int.le_refl _
  | cons c r ih=>
   intro e hr
   have h4:=ih _ hr.2.2
   have h5:fL e (c::r)=fL (c.base+c.span) r:=rfl
   have h6:=hr.1
   have h7:=hr.2.1
   omega
 have h4:=h3 l e (mC.app.1 h).1
 have h5:=h2.1
 have h6:=h2.2.1
 omega
structure OnL (fs:List aY):Prop where
 f:vR fs
 lt:∀ f∈fs,f.base<rU fs
theorem OnL.nil:OnL []:=⟨vR.nil,fun _ h=>(by cases h)⟩
theorem aKe {l:List aY} {f g:aY} (h:mW (l++[f])) (hg:fL f.base f.Bs≤g.base):mW ((l++[f])++[g]):=by
 induction l with
 | nil=>exact ⟨hg,trivial⟩
 | cons a l ih=>
  cases l with
  | nil=>exact ⟨h.1,hg,trivial⟩
  | cons c l=>exact ⟨h.1,ih h.2⟩
theorem aKf {l:List aY} {f g:aY} (h:mW (l++[f])) (hg:g.base=f.base):mW (l++[g]):=by
 induction l with
 | nil=>exact trivial
 | cons a l ih=>
  cases l with
  | nil=>exact ⟨by rw [hg];exact h.1,trivial⟩
  | cons c l=>exact ⟨h.1,ih h.2⟩
section
variable {k:Nat} {D:Dsk.aS} {mt:ByteArray} {fs:List aY} {b:aR}
theorem aWc (h:sJ k D mt fs) (hf:OnL fs) (hb:OnB b) (he:rU fs=b.base) (hk:k≤100) :
  aK5 pV 60 200 D b∧sJ (k+1) (yL D (bB pV b.base.toNat) b) mt (fs++[⟨bB pV b.base.toNat,b.base,[b]⟩])∧OnL (fs++[⟨bB pV b.base.toNat,b.base,[b]⟩]):=by
 have hE:=hb.enc
 have hfiles:D.files=(eS,⟨mt,mt.size⟩)::fs.map aUl:=h.files
 have hbase:=hb.base
 have hspan:=hb.span
 have hroom:D.used+(aZ b).size≤D.room:=by have:=h.used;rw [h.room];omega
 have hno:bB pV b.base.toNat ∉ D.files.map (·.1):=by
  rw [hfiles]
  exact aHd hf.f.nm _ hb.base (fun f hm=>by have:=hf.lt f hm;omega)
 have hn:=aHg (lim:=60) (ev:=200) h.wf h.fuse hroom (zW hno) hb.ok aA aE
 have hput:=aUf h.fuse hno hn.app
 refine ⟨hn,⟨?_,?_,?_,?_,?_⟩,⟨⟨?_,?_,?_,?_,?_,?_,?_⟩,?_⟩⟩
 ·rw [hput];exact h.room
 ·rw [hput]
 ·rw [hput,hfiles]
  have:bN [b]=aZ b:=iP _
  simp only [List.map_append,List.map_cons,List.map_nil,this,List.cons_append]
  rfl
 ·exact (h.wf.app _ _).sync _
 ·rw [hput]
  have:=h.used
  show D.used+((aZ b).size:Int)≤_
  omega
 ·intro f hm
  rcases List.mem_append.1 hm with hm | hm
  ·exact hf.f.nm f hm
  ·obtain rfl:=List.mem_singleton.1 hm
   exact ⟨rfl,hb.base⟩
 ·intro f hm
  rcases List.mem_append.1 hm with hm | hm
  ·exact hf.f.pos f hm
  ·obtain rfl:=List.mem_singleton.1 hm
   exact List.cons_ne_nil _ _
 ·intro f hm
  rcases List.mem_append.1 hm with hm | hm
  ·exact hf.f.bs f hm
  ·obtain rfl:=List.mem_singleton.1 hm
   intro c hc
   rw [List.mem_singleton.1 hc]
   exact hb
 ·intro f hm
  rcases List.mem_append.1 hm with hm | hm
  ·exact hf.f.rise f hm
  ·obtain rfl:=List.mem_singleton.1 hm
   exact ⟨Int.le_refl _,hspan.1,trivial⟩
 ·intro f hm
  rcases List.mem_append.1 hm with hm | hm
  ·exact hf.f.few f hm
  ·obtain rfl:=List.mem_singleton.1 hm
   intro j hj
   have:j=0:=by have hj':j<1:=hj;omega
   subst this
   exact Nat.zero_lt_succ _
 ·rcases List.eq_nil_or_concat fs with rfl | ⟨l,f,rfl⟩
  ·exact trivial
  ·rw [List.concat_eq_append] at hf he ⊢
   refine aKe hf.f.riseF ?_
   rw [jB] at he
   show _≤b.base
   omega
 ·rw [List.pairwise_append]
  refine ⟨hf.f.sort,List.pairwise_singleton _ _,fun f hm g hg=>?_⟩
  obtain rfl:=List.mem_singleton.1 hg
  have:=hf.lt f hm
  show f.base<b.base
  omega
 ·intro f hm
  have h2:rU (fs++[⟨bB pV b.base.toNat,b.base,[b]⟩])=b.base+b.span:=by rw [jB];rfl
  rw [h2]
  rcases List.mem_append.1 hm with hm | hm
  ·have:=hf.lt f hm;omega
  ·obtain rfl:=List.mem_singleton.1 hm
   show b.base<_
   omega
theorem aWd (h:sJ k D mt fs) (hf:OnL fs) (hb:OnB b) (he:rU fs=b.base) (hk:k≤100) :
  ∃ D' fs',LogPut pV 60 200 D b fs D' fs'∧sJ (k+1) D' mt fs'∧OnL fs'∧fs'.flatMap (·.Bs)=fs.flatMap (·.Bs)++[b]∧fs'.length≤fs.length+1:=by
 have hE:=hb.enc
 have hbase:=hb.base
 have hspan:=hb.span
 obtain ⟨n1,n2,n3⟩:=aWc h hf hb he hk
 rcases aUw fs with rfl | ⟨gs,f,rfl⟩
 ·exact ⟨_,_,.none he.symm n1,n2,n3,rfl,Nat.le_refl _⟩
 ·have hen:fL f.base f.Bs=b.base:=by rw [jB] at he;exact he
  have hfm:f∈gs++[f]:=List.mem_append_right _ (List.mem_singleton.2 rfl)
  have hfiles:D.files=((eS,⟨mt,mt.size⟩)::gs.map aUl)++[(f.nm,⟨bN f.Bs,(bN f.Bs).size⟩)]:=by
   rw [h.files]
   simp only [List.map_append,List.map_cons,List.map_nil,List.cons_append]
   rfl
  obtain ⟨m1,m2,m3⟩:=hf.f.nm f hfm
  have hsort:=List.pairwise_append.1 hf.f.sort
  have hno:f.nm ∉ ((eS,(⟨mt,mt.size⟩:Dsk.cN))::gs.map aUl).map (·.1):=by
   rw [m1]
   exact aHd (fun g hg=>hf.f.nm g (List.mem_append_left _ hg)) _ ⟨m2,m3⟩ (fun g hg=>by have:=hsort.2.2 g hg f (List.mem_singleton.2 rfl);omega)
  have hget:aQ D.files f.nm=some ⟨bN f.Bs,(bN f.Bs).size⟩:=by rw [hfiles];exact rC _ _ _ hno
  by_cases hs:(bN f.Bs).size<60
  ·have hroom:D.used+(aZ b).size≤D.room:=by have:=h.used;rw [h.room];omega
   have hnam:Dsk.gF f.nm=true:=by rw [m1];exact aLu _
   have happ:=aVa h.fuse hnam hroom
   have hput:=aRm h.fuse hfiles hno happ
   have hlen:f.Bs.length≤60:=by
    rcases Nat.lt_or_ge 60 f.Bs.length with hl | hl
    ·exfalso
     have h9:∀ (l:List aR) (s:ByteArray),l.length≤(l.foldl (fun s b=>s++aZ b) s).size:=by
      intro l
      induction l with
      | nil=>intro s;exact Nat.zero_le _
      | cons c l ih=>
       intro s
       have h3:∀ (l:List aR) (s:ByteArray),(l.foldl (fun s b=>s++aZ b) s).size=s.size+(l.map fun b=>(aZ b).size).sum:=by
        intro l
        induction l with
        | nil=>intro s;simp
        | cons b l ih=>intro s;simp only [List.foldl_cons,ih,ByteArray.size_append,List.map_cons,List.sum_cons];omega
       have h4:=ih ⟨#[]⟩
       rw [h3] at h4 ⊢
       have h5:(⟨#[]⟩:ByteArray).size=0:=rfl
       simp only [List.map_cons,List.sum_cons,List.length_cons]
       have h6:=dX c
       omega
     have:=h9 f.Bs ⟨#[]⟩
     unfold bN at hs
     omega
    ·exact hl
   have hput2:xC f.Bs f.base 60 200 b:=⟨hb.ok,mC.app.2 ⟨hf.f.rise f hfm,by rw [hen];exact ⟨Int.le_refl _,hspan.1,trivial⟩⟩,by omega,by omega,by decide,by omega⟩
   refine ⟨_,_,.last gs f hput2 hen aA h.wf happ (h.wf.app _ _) (.inl ?_),⟨?_,?_,?_,?_,?_⟩,⟨⟨?_,?_,?_,?_,?_,?_,?_⟩,?_⟩,?_,?_⟩
   ·rw [aDz h.fuse happ,lQ rfl,bX,if_pos rfl]
    rfl
   ·rw [hput];exact h.room
   ·rw [hput]
   ·rw [hput]
    simp only [List.map_append,List.map_cons,List.map_nil,List.cons_append,tQ]
    rfl
   ·exact (h.wf.app _ _).sync _
   ·rw [hput]
    have:=h.used
    show D.used+((aZ b).size:Int)≤_
    omega
   ·intro g hm
    rcases List.mem_append.1 hm with hm | hm
    ·exact hf.f.nm g (List.mem_append_left _ hm)
    ·obtain rfl:=List.mem_singleton.1 hm
     exact hf.f.nm f hfm
   ·intro g hm
    rcases List.mem_append.1 hm with hm | hm
    ·exact hf.f.pos g (List.mem_append_left _ hm)
    ·obtain rfl:=List.mem_singleton.1 hm
     exact fun e=>by simp at e
   ·intro g hm
    rcases List.mem_append.1 hm with hm | hm
    ·exact hf.f.bs g (List.mem_append_left _ hm)
    ·obtain rfl:=List.mem_singleton.1 hm
     intro c hc
     rcases List.mem_append.1 hc with hc | hc
     ·exact hf.f.bs f hfm c hc
     ·rw [List.mem_singleton.1 hc];exact hb
   ·intro g hm
    rcases List.mem_append.1 hm with hm | hm
    ·exact hf.f.rise g (List.mem_append_left _ hm)
    ·obtain rfl:=List.mem_singleton.1 hm
     exact hput2.rise
   ·intro g hm
    rcases List.mem_append.1 hm with hm | hm
    ·exact hf.f.few g (List.mem_append_left _ hm)
    ·obtain rfl:=List.mem_singleton.1 hm
     intro j hj
     have hj':j<(f.Bs++[b]).length:=hj
     rw [List.length_append] at hj'
     have hj2:j≤f.Bs.length:=by simp only [List.length_cons,List.length_nil] at hj';omega
     show (bN ((f.Bs++[b]).take j)).size<60
     rw [List.take_append_of_le_length hj2]
     rcases Nat.lt_or_ge j f.Bs.length with hl | hl
     ·exact hf.f.few f hfm j hl
     ·rw [List.take_of_length_le hl];exact hs
   ·exact aKf hf.f.riseF rfl
   ·rw [List.pairwise_append]
    refine ⟨hsort.1,List.pairwise_singleton _ _,fun g hg g2 hg2=>?_⟩
    obtain rfl:=List.mem_singleton.1 hg2
    exact hsort.2.2 g hg f (List.mem_singleton.2 rfl)
   ·intro g hm
    have h2:rU (gs++[⟨f.nm,f.base,f.Bs++[b]⟩])=b.base+b.span:=by rw [jB];exact rG _ _ _
    rw [h2]
    rcases List.mem_append.1 hm with hm | hm
    ·have:=hf.lt g (List.mem_append_left _ hm);omega
    ·obtain rfl:=List.mem_singleton.1 hm
     have:=hf.lt f hfm
     show f.base<_
     omega
   ·simp
   ·simp
  ·have hsy:Dsk.dJ D f.nm=D:=by
    rw [aFi h.fuse hget,aCn _ _ _ hget]
    obtain ⟨r,u,fu,l⟩:=D
    have:fu=-1:=h.fuse
    rw [this]
   refine ⟨_,_,.full gs f hen aA h.wf (.inl (by rw [lQ h.fuse,hget];rfl)) (by rw [hsy];exact n1),by rw [hsy];exact n2,n3,by simp,by simp⟩
end
end Go.Proofs.YteapahcklcldkaaGreatDoor
