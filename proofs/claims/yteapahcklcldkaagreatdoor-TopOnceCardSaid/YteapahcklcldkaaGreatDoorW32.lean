/-
  The statement is proved: all that it reaches, in parts.
-/
import Derived.Test.YteapahcklcldkaaGreatDoorW14
import Derived.Test.YteapahcklcldkaaGreatDoorW31
set_option maxRecDepth 100000
set_option maxHeartbeats 16000000
namespace Go.Proofs.YteapahcklcldkaaGreatDoor.Tpc
open Go.RowKit Fx
abbrev iR:=ByteArray×(Int×Int)
def qL (p:iR):List Value:=[.string p.1,.int .i64 p.2.1,.int .i64 p.2.2]
section
variable {w w':World} {F S:Nat→Prop} {b:Nat} {R R':gG} {v v':Value}
end
def aXm (R:gG) (s:ByteArray):gG:=⟨R.next,dQ R.all s⟩
def gG.rcreate (R:gG) (s:ByteArray) (p:Int):Int×Int×gG:=
 if s.size=0∨100<s.size∨p<1∨16<p then (0,1,R)
 else match aQ R.all s with
  | some _=>(0,14,R)
  | none=>if 20≤R.all.length∨1073741824≤R.next then (0,5,R) else (R.next,0,⟨R.next+1,aNh R.all s (R.next,p)⟩)
structure mS (t R:gG):Prop where
 next:R.next=t.next
 get:∀ s,aQ R.all s=aQ t.all s
 ord:gC R.all
structure tS (t:gG):Prop where
 keys:KD t.all
 next:0≤t.next∧t.next≤1073741824
 len:t.all.length≤20
 ids:∀ s x,aQ t.all s=some x→0≤x.1∧x.1<t.next∧1≤x.2∧x.2≤16∧1≤s.size∧s.size≤100
 apart:∀ s s' x x',aQ t.all s=some x→aQ t.all s'=some x'→s≠s'→x.1≠x'.1
section
variable {t R:gG}
theorem mS.perm (h:mS t R) (hd:KD t.all):R.all.Perm t.all:=aN4 h.ord.kd hd h.get
theorem mS.len (h:mS t R) (hd:KD t.all):R.all.length=t.all.length:=(h.perm hd).length_eq
theorem mS.find (h:mS t R) (s:ByteArray):R.find s=t.find s:=by unfold gG.find;rw [h.get]
theorem mS.create (h:mS t R) (hd:KD t.all) (s:ByteArray) (p:Int):(R.rcreate s p).1=(t.create s p).1∧(R.rcreate s p).2.1=(t.create s p).2.1∧mS (t.create s p).2.2 (R.rcreate s p).2.2:=by
 unfold gG.rcreate gG.create
 split
 ·exact ⟨rfl,rfl,h⟩
 ·rw [h.get]
  cases hg:aQ t.all s with
  | some x=>exact ⟨rfl,rfl,h⟩
  | none=>
   dsimp only
   rw [h.len hd,h.next]
   split
   ·exact ⟨rfl,rfl,h⟩
   ·refine ⟨rfl,rfl,rfl,fun u=>?_,h.ord.ins (by rw [h.get];exact hg) _⟩
    show aQ (aNh R.all s _) u=aQ (bD t.all s _) u
    rw [aMj (by rw [h.get];exact hg),bX,h.get]
theorem mS.del (h:mS t R) (hd:KD t.all) (s:ByteArray):mS ⟨t.next,dQ t.all s⟩ (aXm R s):=
 ⟨h.next,fun u=>by show aQ (dQ R.all s) u=aQ (dQ t.all s) u;rw [kB h.ord.kd,kB hd,h.get],h.ord.del s⟩
theorem tS.new:tS ⟨0,[]⟩:=⟨.nil,⟨by decide,by decide⟩,by simp,fun s x e=>(by cases e),fun s s' x x' e=>(by cases e)⟩
theorem tS.create (h:tS t) (s:ByteArray) (p:Int):tS (t.create s p).2.2:=by
 unfold gG.create
 split
 ·exact h
 ·rename_i hb
  cases hg:aQ t.all s with
  | some x=>exact h
  | none=>
   dsimp only
   split
   ·exact h
   ·rename_i hf
    have hn:=h.next
    refine ⟨h.keys.put _ _,⟨by show 0≤t.next+1;omega,by show t.next+1≤_;omega⟩,?_,fun u x e=>?_,fun u u' x x' e e' hne=>?_⟩
    ·have:(bD t.all s (t.next,p)).length=t.all.length+1:=by rw [jK hg];simp
     show (bD t.all s (t.next,p)).length≤20
     omega
    ·have e:aQ (bD t.all s (t.next,p)) u=some x:=e
     rw [bX] at e
     split at e
     ·rename_i hu;cases e;subst hu
      exact ⟨by show 0≤t.next;omega,by show t.next<t.next+1;omega,by show 1≤p;omega,by show p≤16;omega,by omega,by omega⟩
     ·have:=h.ids u x e
      exact ⟨this.1,by show x.1<t.next+1;omega,this.2.2⟩
    ·have e:aQ (bD t.all s (t.next,p)) u=some x:=e
     have e':aQ (bD t.all s (t.next,p)) u'=some x':=e'
     rw [bX] at e e'
     split at e
     ·split at e'
      ·exact (by rename_i h1 h2;exact absurd (h1.symm.trans h2) hne)
      ·cases e
       have:=h.ids u' x' e'
       show t.next≠x'.1
       omega
     ·split at e'
      ·cases e'
       have:=h.ids u x e
       show x.1≠t.next
       omega
      ·exact h.apart u u' x x' e e' hne
theorem vU {l:List iR} (hd:KD l) {s u:ByteArray} {x:Int×Int} (e:aQ (dQ l s) u=some x):aQ l u=some x:=by
 rw [kB hd] at e
 split at e
 ·cases e
 ·exact e
theorem tS.del (h:tS t) (s:ByteArray):tS ⟨t.next,dQ t.all s⟩:=
 ⟨h.keys.del s,h.next,Nat.le_trans (aF2 t.all s).length_le h.len,fun u x e=>h.ids u x (vU h.keys e),fun u u' x x' e e' hne=>h.apart u u' x x' (vU h.keys e) (vU h.keys e') hne⟩
theorem mS.wf (h:mS t R) (wf:tS t):tS R:=
 ⟨h.ord.kd,by rw [h.next];exact wf.next,by rw [h.len wf.keys];exact wf.len,fun s x e=>by rw [h.get] at e;rw [h.next];exact wf.ids s x e,fun s s' x x' e e'=>wf.apart s s' x x' (by rw [← h.get];exact e) (by rw [← h.get];exact e')⟩
theorem aKo {l:List iR} (h:gC l):((cR l).map fun s=>s.data.toList).Pairwise fun x y=>x≤y:=by
 refine List.pairwise_map.2 (List.Pairwise.imp ?_ h)
 intro a b hab
 exact List.le_of_lt ((lP a b).1 hab)
theorem mS.names (h:mS t R) (wf:tS t) {ss:List ByteArray} (hp:ss.Perm (t.all.map (·.1))) (ho:(ss.map fun s=>s.data.toList).Pairwise fun x y=>x≤y):ss=cR R.all:=by
 have h1:ss.Perm (cR R.all):=hp.trans ((h.perm wf.keys).map _).symm
 have h3:=List.Perm.eq_of_pairwise (le:=fun x y:List UInt8=>x≤y) (fun a b _ _ h1 h2=>List.le_antisymm h1 h2) ho (aKo h.ord) (h1.map _)
 exact (List.map_inj_right fun a b e=>aGq e).1 h3
end
def qQ (p:iR):ByteArray:=putB p.1.size++p.1++putB p.2.1++putB p.2.2
def dA (acc:ByteArray) (l:List iR):ByteArray:=l.foldl (fun a p=>a++qQ p) acc
def bE (R:gG):ByteArray:=dA (putB R.next++putB R.all.length) R.all
theorem xS (acc:ByteArray) {l:List iR} {k:Nat} (h:k<l.length):dA acc (l.take (k+1))=dA acc (l.take k)++qQ l[k]:=by
 unfold dA
 rw [List.take_succ_eq_append_getElem h,List.foldl_append]
 rfl
def okP (p:iR):Prop:=p.1.size≤100∧0≤p.2.1∧p.2.1≤1073741824∧0≤p.2.2∧p.2.2≤16
theorem aNy {p:iR} (h:okP p):(qQ p).size≤130:=by
 obtain ⟨h1,h2,h3,h4,h5⟩:=h
 have a1:=bU (n:=(p.1.size:Int)) ⟨by omega,by omega⟩
 have a2:=bU (n:=p.2.1) ⟨by omega,by omega⟩
 have a3:=bU (n:=p.2.2) ⟨by omega,by omega⟩
 unfold qQ
 simp only [ByteArray.size_append]
 omega
theorem xT (acc:ByteArray):∀ (l:List iR),(∀ p∈l,okP p)→(dA acc l).size≤acc.size+130*l.length
 | [],_=>Nat.le_refl _
 | p::l,h=>by
  have h1:=xT (acc++qQ p) l (fun q hq=>h q (List.mem_cons_of_mem _ hq))
  have h2:=aNy (h p List.mem_cons_self)
  rw [ByteArray.size_append] at h1
  show (dA (acc++qQ p) l).size≤_
  simp only [List.length_cons]
  omega
theorem tS.okP {t:gG} (h:tS t):∀ p∈t.all,Go.Proofs.YteapahcklcldkaaGreatDoor.Tpc.okP p:=fun p hp=>by
 have h1:=h.ids p.1 p.2 (eO h.keys hp)
 have h2:=h.next
 exact ⟨h1.2.2.2.2.2,h1.1,by omega,by omega,h1.2.2.2.1⟩
def fY (R:gG):ByteArray:=putB R.next++putB R.all.length
theorem xR {R:gG} (h:tS R):(fY R).size≤20:=by
 have h1:=bU (n:=R.next) ⟨by have:=h.next;omega,by have:=h.next;omega⟩
 have h2:=bU (n:=(R.all.length:Int)) ⟨by omega,by have:=h.len;omega⟩
 unfold fY
 rw [ByteArray.size_append]
 omega
theorem mZ {R:gG} (h:tS R) (k:Nat):(dA (fY R) (R.all.take k)).size≤2620:=by
 have h1:=xT (fY R) (R.all.take k) (fun p hp=>h.okP p (List.mem_of_mem_take hp))
 have h2:=xR h
 have h3:(R.all.take k).length≤20:=by rw [List.length_take];have:=h.len;omega
 omega
def pM (wr wx:World) (i p:Int):Prop:=wx.heap[wr.heap.size]?=some (.cells #[.int .i64 i,.int .i64 p] 193 (0,0))∧K0 wr wx
theorem pM.new (wr:World) (i p:Int):pM wr (wr.alloc (.cells #[.int .i64 i,.int .i64 p] 193)) i p:=⟨aI _ _ _ rfl,(aD.refl _ _).alloc _⟩
theorem pM.drew {wr wx:World} {i p:Int} (h:pM wr wx i p):pM wr wx.drew i p:=⟨h.1,h.2.drew⟩
theorem pM.keep {wr wx wy:World} {i p:Int} (h:pM wr wx i p) (hk:K0 wx wy):pM wr wy i p:=⟨(hk.block _ (aC h.1) (fun e=>e)).trans h.1,K0.tr h.2 hk⟩
theorem pM.all {wr wx:World} {i p:Int} (h:pM wr wx i p):wx.cell? ⟨wr.heap.size,0,none⟩=some (.int .i64 i)∧wx.cell? ⟨wr.heap.size,1,none⟩=some (.int .i64 p)∧wr.heap.size<wx.heap.size∧pM wr wx i p:=⟨aB h.1 0,aB h.1 1,aC h.1,h⟩
theorem aBv {w:World} {b m:Nat} {t R:gG} (h:cP w b m t) (hs:mS t R) (wf:tS t) :
  Calls Tryz.prog 200 #[.pointer (some ⟨b,0,none⟩)] w fun e w'=>e=.returned (.string (bE R))∧K0 w w':=by
 have HH:=Lib.hid h
 have HS:=Lib.hid hs
 have HWT:=Lib.hid wf
 have HW:=Lib.hid (hs.wf wf)
 have hl:=HW.out.len
 have hnx:=HW.out.next
 have hll:=hs.len wf.keys
 have HCS:Hid (∀ wx,K0 w wx→wx.cell? ⟨b,0,none⟩=some (.int .i64 R.next)∧wx.cell? ⟨b,1,none⟩=some (.map (some m))∧b<wx.heap.size∧(Builtin.len_ #[180] 3 #[.map (some m)]).run Tryz.prog wx=.ok (.int .i64 R.all.length) wx∧K0 w wx):=by
  show ∀ _,_→_
  intro wx hk
  have h1:=h.keep hk (fun e=>e) (fun e=>e)
  have h2:=h1.map.len Tryz.underlying180 3
  refine ⟨by rw [hs.next];exact h1.cell0,h1.cell1,h1.lt,?_,hk⟩
  rw [hll]
  simpa [gG.vals] using h2
 have HPUT:Hid (∀ x wx,(x=R.next∨x=R.all.length)→Calls Tryz.prog 172 #[.int .i64 x] wx fun e w'=>e=.returned (.string (putB x))∧K0 wx w'):=by
  show ∀ _ _,_→_
  intro x wx hx
  exact vJ x wx (by rcases hx with rfl | rfl <;> omega) (by rcases hx with rfl | rfl <;> omega)
 have hcc:¬ 9223372036854775807<(putB R.next).size+(putB (R.all.length:Int)).size:=by
  have h1:=xR HW.out
  unfold fY at h1
  rw [ByteArray.size_append] at h1
  omega
 obtain ⟨d0,d1,d2,d3,d4⟩:=HCS.out w.drew (aD.refl _ _).drew
 obtain ⟨c0,c1,c2,c3,c4⟩:=HCS.out w (aD.refl _ _)
 clear h wf hs hll
 go_enter Tryz.func200,Tryz.ntmps200
 go_upto_region 2 with fail
 go_cut [3,0] (fun sv pv wc=>sv=.string (fY R)∧pv=.pointer (some ⟨b,0,none⟩)∧K0 w wc)
 case first=>
  go_wp2_with fail
  go_region_held3 (fun w':World=>w'.cell? ⟨b,0,none⟩=some (.int .i64 R.next)∧w'.cell? ⟨b,1,none⟩=some (.map (some m))∧b<w'.heap.size∧(Builtin.len_ #[180] 3 #[.map (some m)]).run Tryz.prog w'=.ok (.int .i64 R.all.length) w'∧K0 w w')
   (first | go_keep | (refine ⟨?_,?_,?_,?_,?_⟩ <;> assumption))
   ((go_at_call 172;go_split_ands;refine (HPUT.out _ _ (by first | exact .inl rfl | exact .inr rfl)).mono ?_;rintro e w' ⟨rfl,hk⟩;obtain ⟨d0,d1,d2,d3,d4⟩:=HCS.out w' (K0.tr aG hk)))
  all_goals
   go_split_ands
   go_wp2
   go_meet
   case rel=>exact ⟨rfl,rfl,by assumption⟩
 case rest=>
  obtain ⟨rfl,rfl,hkc⟩:=hcut
  have NM:=Lib.hid (uU (HH.out.keep hkc (fun e=>e) (fun e=>e)) (fun p hp=>Nat.le_trans (HWT.out.okP p hp).1 aE) (Nat.le_trans HWT.out.len aE))
  have HKC:=Lib.hid hkc
  clear hkc hcc d0 d1 d2 d3 d4 c0 c1 c2 c3 c4
  go_wp2_with fail
  refine NM.out.mono ?_
  rintro e w1 ⟨a0,c0,ss,rfl,hN,k1⟩
  have hss:ss=cR R.all:=HS.out.names HWT.out (by have:=hN.perm;simpa [gG.vals,Function.comp_def] using this) hN.ord
  subst hss
  have HROW:=Lib.hid hN.row
  have HK1:Hid (K0 w w1):=K0.tr HKC.out k1
  have hkl:(cR R.all).length=R.all.length:=by simp [cR]
  rw [hkl]
  have HKL:=Lib.hid hkl
  clear hN k1 hkl
  go_wp2
  go_loopw [25,3] (fun i sv wr=>∃ k:Nat,i=.int .i64 k∧k≤R.all.length∧sv=.string (dA (fY R) (R.all.take k))∧K0 w1 wr) (fun i _ _=>R.all.length - (intOf i).toNat)
  case atStart=>exact ⟨0,rfl,by omega,rfl,aD.refl _ _⟩
  case round=>
   obtain ⟨k,rfl,hk,rfl,hkr⟩:=hrel
   have HKR:=Lib.hid hkr
   obtain ⟨c0,c1,c2,c3,c4⟩:=HCS.out wr (K0.tr HK1.out hkr)
   by_cases hlt:k<R.all.length
   ·have hrow:=HROW.out
    obtain ⟨g,rfl⟩:∃ g,a0=some ⟨g,0,none⟩:=by
     rcases hrow.2 with ⟨_,h2⟩ | ⟨r,cp,cur,h1,_⟩
     ·rw [HKL.out] at h2;omega
     ·simp only [Value.slice.injEq] at h1
      exact ⟨r,h1.1⟩
    have hc1:w1.cell? ⟨g,k,none⟩=some (.string R.all[k].1):=by
     rw [hrow.cellAt k (by rw [HKL.out];omega),List.getElem?_map,List.getElem?_eq_getElem (by rw [HKL.out];exact hlt)]
     simp [cR]
    have hc:=hkr.cell' hc1 (fun e=>e)
    have hltg:=World.block_lt_of_cell? wr _ hc
    have hm:=Lib.hid (HH.out.keep (K0.tr HK1.out hkr) (fun e=>e) (fun e=>e)).map
    have hg:aQ t.all R.all[k].1=some R.all[k].2:=by rw [← HS.out.get];exact eO HS.out.ord.kd (List.getElem_mem hlt)
    have HV:Hid (aQ (gG.vals t.all) R.all[k].1=some (.agg #[.int .i64 R.all[k].2.1,.int .i64 R.all[k].2.2])):=by show _=_;rw [rD,hg];rfl
    have HOK:=Lib.hid (HW.out.okP R.all[k] (List.getElem_mem hlt))
    have HNX:=Lib.hid (xS (fY R) hlt)
    have hps:=mZ HW.out k
    have HLT:=Lib.hid hlt
    clear hg hc1 hrow
    generalize R.all[k]=p at HOK HNX HV hc
    obtain ⟨nm,id,pt⟩:=p
    have HV:Hid (aQ (gG.vals t.all) nm=some (.agg #[.int .i64 id,.int .i64 pt])):=HV.out
    have hc:wr.cell? ⟨g,k,none⟩=some (.string nm):=hc
    obtain ⟨o1,o2,o3,o4,o5⟩:nm.size≤100∧0≤id∧id≤1073741824∧0≤pt∧pt≤16:=HOK.out
    obtain ⟨T,hT⟩:∃ T,T=putB nm.size++nm:=⟨_,rfl⟩
    obtain ⟨P1,hP1⟩:∃ P1,P1=putB id:=⟨_,rfl⟩
    obtain ⟨P2,hP2⟩:∃ P2,P2=putB pt:=⟨_,rfl⟩
    have hTs:T.size≤110:=by
     rw [hT,ByteArray.size_append]
     have:=bU (n:=(nm.size:Int)) ⟨by omega,by omega⟩
     omega
    have hP1s:P1.size≤10:=by rw [hP1];exact bU ⟨by omega,by omega⟩
    have hP2s:P2.size≤10:=by rw [hP2];exact bU ⟨by omega,by omega⟩
    have HTX:Hid (∀ wx,Calls Tryz.prog 173 #[.string nm] wx fun e w'=>e=.returned (.string T)∧K0 wx w'):=by
     show ∀ _,_
     intro wx
     rw [hT]
     exact aIk nm wx aA
    have HPP:Hid (∀ x y wx,(x=id∧y=P1)∨(x=pt∧y=P2)→Calls Tryz.prog 172 #[.int .i64 x] wx fun e w'=>e=.returned (.string y)∧K0 wx w'):=by
     show ∀ _ _ _,_→_
     intro x y wx hxy
     rcases hxy with ⟨rfl,rfl⟩ | ⟨rfl,rfl⟩
     ·rw [hP1];exact vJ _ wx aA aA
     ·rw [hP2];exact vJ _ wx aA aA
    have HEND:Hid (∀ Pr:ByteArray,Pr++(T++P1++P2)=Pr++qQ (nm,(id,pt))):=by
     show ∀ _,_
     intro Pr
     unfold qQ
     rw [hT,hP1,hP2]
    generalize hPr:dA (fY R) (R.all.take k)=Pr at hps HNX ⊢
    have a1:¬ 9223372036854775807<T.size+P1.size:=aA
    have a2:¬ 9223372036854775807<T.size+P1.size+P2.size:=aA
    have a3:¬ 9223372036854775807<Pr.size+(T.size+P1.size+P2.size):=aA
    have b2:¬ 9223372036854775807<(T++P1).size+P2.size:=by rw [ByteArray.size_append];exact a2
    have b3:¬ 9223372036854775807<Pr.size+(T++P1++P2).size:=by rw [ByteArray.size_append,ByteArray.size_append];exact a3
    have i0:(0:Int)≤k:=aA
    have i1:(k:Int)<R.all.length:=aA
    obtain ⟨x0,x1,x2,x3⟩:=(pM.new wr id pt).drew.all
    obtain ⟨y0,y1,y2,y3⟩:=(pM.new wr id pt).all
    clear hT hP1 hP2 hPr hkr
    go_wp2_with (at_lookup;refine cI (eG Tryz.underlying9) rfl rfl Tryz.underlying180 pD rfl _ rfl hm.out _ HV.out ?_)
    go_region_held3 (fun w':World=>w'.cell? ⟨wr.heap.size,0,none⟩=some (.int .i64 id)∧w'.cell? ⟨wr.heap.size,1,none⟩=some (.int .i64 pt)∧wr.heap.size<w'.heap.size∧pM wr w' id pt)
     (first | go_keep | (refine ⟨?_,?_,?_,?_⟩ <;> assumption))
     (first | (go_at_call 173;go_split_ands;refine (HTX.out _).mono ?_;rintro e w' ⟨rfl,hk⟩;obtain ⟨d0,d1,d2,d3⟩:=pM.all (pM.keep aG hk)) | (go_at_call 172;go_split_ands;refine (HPP.out _ _ _ (by first | exact .inl ⟨rfl,rfl⟩ | exact .inr ⟨rfl,rfl⟩)).mono ?_;rintro e w' ⟨rfl,hk⟩;obtain ⟨d0,d1,d2,d3⟩:=pM.all (pM.keep aG hk)))
    all_goals
     go_split_ands
     go_wp2
     go_roundw
     case rel=>exact ⟨k+1,by go_num,HLT.out,by rw [HNX.out,← HEND.out],K0.tr HKR.out (And.right aG)⟩
     case measure=>have:=HLT.out;simp [intOf];omega
   ·obtain rfl:k=R.all.length:=by omega
    rw [List.take_length]
    go_wp2
    go_ret
    exact ⟨rfl,K0.tr HK1.out HKR.out⟩
def wE (e:Int) (is:Bool):Int:=if e=0 then (if is=true then 0 else 3) else e
def xN (s:ByteArray) (a e:Int):Int:=if e=0 then dE s a else 0
def vO (s:ByteArray) (a e:Int):Int:=if e=0 then dW s a else a
def nuE (s:ByteArray) (a e lo hi:Int):Int:=if e=0 then wE (gD s a) (decide (lo≤dE s a)&&decide (dE s a≤hi)) else e
def txS (s:ByteArray) (a e:Int):ByteArray:=if e=0 then tkS s a 100 else ⟨#[]⟩
def wW (s:ByteArray) (a e:Int):Int:=if e=0 then tkT s a 100 else a
def txE (s:ByteArray) (a e:Int):Int:=if e=0 then tU s a 100 else e
def Rr (ty:Nat) (w:World) (b:Nat) (s:ByteArray) (i e:Int):Prop:=w.heap[b]?=some (.cells #[.string s,.int .i64 i,.int .i64 e] ty (0,0))
def RrP (ty:Nat) (w:World) (b:Nat) (s:ByteArray) (v:Value) (i e:Int) (en:Ending) (w':World):Prop:=en=.returned v∧Rr ty w' b s i e∧aD (fun k=>k=b) w w'
structure RrC (ty:Nat) (w:World) (b:Nat) (s:ByteArray) (i e:Int):Prop where
 c0:w.cell? ⟨b,0,none⟩=some (.string s)
 c1:w.cell? ⟨b,1,none⟩=some (.int .i64 i)
 c2:w.cell? ⟨b,2,none⟩=some (.int .i64 e)
 lt:b<w.heap.size
 f1:w.frozen? ⟨b,1,none⟩=false
 f2:w.frozen? ⟨b,2,none⟩=false
section
variable {ty:Nat} {w w':World} {b:Nat} {s:ByteArray} {i e:Int}
theorem Rr.all (h:Rr ty w b s i e):RrC ty w b s i e:=⟨aB h 0,aB h 1,aB h 2,aC h,aH h 1,aH h 2⟩
theorem Rr.keep {S:Nat→Prop} (h:Rr ty w b s i e) (hk:aD S w w') (hb:¬ S b):Rr ty w' b s i e:=(hk.block b (aC h) hb).trans h
theorem Rr.set1 (h:Rr ty w b s i e) (x:Int):Rr ty (w.setCell ⟨b,1,none⟩ (.int .i64 x)) b s x e:=aM h 1 _
theorem Rr.set2 (h:Rr ty w b s i e) (x:Int):Rr ty (w.setCell ⟨b,2,none⟩ (.int .i64 x)) b s i x:=aM h 2 _
theorem Rr.drew (h:Rr ty w b s i e):Rr ty w.drew b s i e:=h
end
theorem dD {w wx:World} {b:Nat} (h:aD (fun k=>k=b) w wx) (j:Nat) (v:Value):aD (fun k=>k=b) w (wx.setCell ⟨b,j,none⟩ v):=h.setC j v (fun _=>rfl)
theorem k0b {w wx:World} {b:Nat} (h:K0 w wx):aD (fun k=>k=b) w wx:=h.mono (fun _ _ e=>e.elim)
theorem nZ {w:World} {b:Nat} {s:ByteArray} {i e:Int} (is:Bool) (h:Rr 413 w b s i e) :
  Calls Tryz.prog 256 #[.pointer (some ⟨b,0,none⟩),.bool is] w (RrP 413 w b s (.tuple #[]) i (wE e is)):=by
 obtain ⟨c0,c1,c2,lt,f1,f2⟩:=h.all
 have HH:=Lib.hid h
 unfold wE
 by_cases he:e=0
 ·subst he
  cases is
  ·clear h
   go_enter Tryz.func256,Tryz.ntmps256
   go_wp2
   go_end0
   exact ⟨rfl,HH.out.set2 3,dD (aD.refl _ _) 2 _⟩
  ·clear h
   go_enter Tryz.func256,Tryz.ntmps256
   go_wp2
   go_end0
   exact ⟨rfl,HH.out,aD.refl _ _⟩
 ·rw [if_neg he]
  have he:(e==0)=false:=(by rw [beq_eq_false_iff_ne];exact he)
  clear h
  go_enter Tryz.func256,Tryz.ntmps256
  go_wp2
  go_end0
  exact ⟨rfl,HH.out,aD.refl _ _⟩
theorem oW {w:World} {b:Nat} {s:ByteArray} {i e:Int} (lo hi:Int) (h:Rr 413 w b s i e) (hs:s.size≤9223372036854775807) (ha:i≤9223372036854775807) :
  Calls Tryz.prog 254 #[.pointer (some ⟨b,0,none⟩),.int .i64 lo,.int .i64 hi] w (RrP 413 w b s (.int .i64 (xN s i e)) (vO s i e) (nuE s i e lo hi)):=by
 obtain ⟨c0,c1,c2,lt,f1,f2⟩:=h.all
 have HH:=Lib.hid h
 unfold xN vO nuE
 by_cases he:e=0
 ·subst he
  have HG:Hid (∀ wx,Calls Tryz.prog 170 #[.string s,.int .i64 i] wx (iO wx s i)):=by
   show ∀ _,_
   exact fun wx=>vI s i wx hs ha
  unfold iO at HG
  simp only [if_true]
  generalize dE s i=n at HG ⊢
  generalize dW s i=t at HG ⊢
  generalize gD s i=x at HG ⊢
  clear h hs ha
  go_enter Tryz.func254,Tryz.ntmps254
  go_upto_region 2 with fail
  go_cut [6] (fun nv wc=>nv=.int .i64 n∧Rr 413 wc b s t x∧aD (fun k=>k=b) w wc)
  case first=>
   go_wp2_with fail
   go_region_with (go_at_call 170;refine (HG.out _).mono ?_;rintro e w' ⟨rfl,rfl⟩)
   all_goals
    go_wp2
    go_meet
    case rel=>first | exact ⟨rfl,((HH.out.set1 t).set2 x).drew,(dD (dD (aD.refl _ _) 1 _) 2 _).drew⟩ | exact ⟨rfl,((HH.out.set2 x).set1 t).drew,(dD (dD (aD.refl _ _) 2 _) 1 _).drew⟩ | exact ⟨rfl,(HH.out.drew.set1 t).set2 x,dD (dD (aD.refl _ _).drew 1 _) 2 _⟩ | exact ⟨rfl,(HH.out.drew.set2 x).set1 t,dD (dD (aD.refl _ _).drew 2 _) 1 _⟩
  case rest=>
   obtain ⟨rfl,hr,hk⟩:=hcut
   have HK:=Lib.hid hk
   have HW:Hid (∀ is,Calls Tryz.prog 256 #[.pointer (some ⟨b,0,none⟩),.bool is] wc (RrP 413 wc b s (.tuple #[]) t (wE x is))):=by
    show ∀ _,_
    exact fun is=>nZ is hr
   clear hr hk c0 c1 c2 lt f1 f2
   have HD:∀ y:Bool,(decide (lo≤n)&&decide (n≤hi))=y→Hid ((decide (lo≤n)&&decide (n≤hi))=y):=fun _ h=>h
   by_cases h1:lo≤n
   ·by_cases h2:n≤hi
    ·have HD:=HD true (by simp [h1,h2])
     go_wp2_with (go_at_call 256;refine (HW.out _).mono ?_;rintro e w' ⟨rfl,h5,hk5⟩)
     go_ret
     rw [HD.out]
     exact ⟨rfl,h5,HK.out.trans hk5 (fun _ _ h=>h)⟩
    ·have HD:=HD false (by simp [h1,h2])
     go_wp2_with (go_at_call 256;refine (HW.out _).mono ?_;rintro e w' ⟨rfl,h5,hk5⟩)
     go_ret
     rw [HD.out]
     exact ⟨rfl,h5,HK.out.trans hk5 (fun _ _ h=>h)⟩
   ·have HD:=HD false (by simp [h1])
    go_wp2_with (go_at_call 256;refine (HW.out _).mono ?_;rintro e w' ⟨rfl,h5,hk5⟩)
    go_ret
    rw [HD.out]
    exact ⟨rfl,h5,HK.out.trans hk5 (fun _ _ h=>h)⟩
 ·rw [if_neg he,if_neg he,if_neg he]
  have he:(e==0)=false:=(by rw [beq_eq_false_iff_ne];exact he)
  clear h
  go_enter Tryz.func254,Tryz.ntmps254
  go_wp2
  go_ret
  exact ⟨rfl,HH.out,aD.refl _ _⟩
theorem aQt {w:World} {b:Nat} {s:ByteArray} {i e:Int} (h:Rr 413 w b s i e) (hs:s.size≤9223372036854775807) (ha:i≤9223372036854775807) :
  Calls Tryz.prog 255 #[.pointer (some ⟨b,0,none⟩)] w (RrP 413 w b s (.string (txS s i e)) (wW s i e) (txE s i e)):=by
 obtain ⟨c0,c1,c2,lt,f1,f2⟩:=h.all
 have HH:=Lib.hid h
 unfold txS wW txE
 by_cases he:e=0
 ·subst he
  have HG:Hid (∀ wx,Calls Tryz.prog 174 #[.string s,.int .i64 i,.int .i64 100] wx (kN wx s i 100)):=by
   show ∀ _,_
   exact fun wx=>aBu s i 100 wx hs ha
  unfold kN at HG
  simp only [if_true]
  generalize tkS s i 100=n at HG ⊢
  generalize tkT s i 100=t at HG ⊢
  generalize tU s i 100=x at HG ⊢
  clear h hs ha
  go_enter Tryz.func255,Tryz.ntmps255
  go_wp2_with fail
  go_region_with (go_at_call 174;refine (HG.out _).mono ?_;rintro e w' ⟨rfl,hk⟩;have h2:=Rr.keep (Rr.drew HH.out) hk (fun e=>e);obtain ⟨g0,g1,g2,g3,g4,g5⟩:=Rr.all h2)
  all_goals
   go_wp2
   go_ret
   first | exact ⟨rfl,(h2.set1 t).set2 x,dD (dD (k0b (K0.tr (aD.refl _ _).drew hk)) 1 _) 2 _⟩ | exact ⟨rfl,(h2.set2 x).set1 t,dD (dD (k0b (K0.tr (aD.refl _ _).drew hk)) 2 _) 1 _⟩ | exact ⟨rfl,((h2.set1 t).set2 x).drew,(dD (dD (k0b hk) 1 _) 2 _).drew⟩ | exact ⟨rfl,((h2.set2 x).set1 t).drew,(dD (dD (k0b hk) 2 _) 1 _).drew⟩
 ·rw [if_neg he,if_neg he,if_neg he]
  have he:(e==0)=false:=(by rw [beq_eq_false_iff_ne];exact he)
  clear h
  go_enter Tryz.func255,Tryz.ntmps255
  go_wp2
  go_ret
  exact ⟨rfl,HH.out,aD.refl _ _⟩
structure pE where
 a:Int
 e:Int
 l:List iR
def xM (l:List iR):ByteArray:=(l.getLast?.map (·.1)).getD ⟨#[]⟩
theorem nR (l:List iR) (p:iR):xM (l++[p])=p.1:=by simp [xM]
def aA0 (l:List iR):List iR:=l.foldl (fun M p=>bD M p.1 p.2) []
def iG (l:List iR):List (Int×Value):=l.foldl (fun D p=>bD D p.2.1 (.bool true)) []
theorem aQp (l:List iR) (p:iR):aA0 (l++[p])=bD (aA0 l) p.1 p.2:=by simp [aA0]
theorem aQf (l:List iR) (p:iR):iG (l++[p])=bD (iG l) p.2.1 (.bool true):=by simp [iG]
def aR3 (s:ByteArray) (p:pE):Int:=wE (txE s p.a p.e) (gU (xM p.l) (txS s p.a p.e))
def nX (s:ByteArray) (p:pE):Int:=xN s (wW s p.a p.e) (aR3 s p)
def yQ (s:ByteArray) (p:pE):Int:=vO s (wW s p.a p.e) (aR3 s p)
def aKp (s:ByteArray) (nx:Int) (p:pE):Int:=nuE s (wW s p.a p.e) (aR3 s p) 0 (nx - 1)
def pR (s:ByteArray) (nx:Int) (p:pE):Int:=xN s (yQ s p) (aKp s nx p)
def tN (s:ByteArray) (nx:Int) (p:pE):Int:=vO s (yQ s p) (aKp s nx p)
def aFf (s:ByteArray) (nx:Int) (p:pE):Int:=nuE s (yQ s p) (aKp s nx p) 1 16
def aHv (s:ByteArray) (nx:Int) (p:pE):iR:=(txS s p.a p.e,(nX s p,pR s nx p))
def lL (s:ByteArray) (nx:Int) (p:pE):pE:=⟨tN s nx p,aFf s nx p,p.l++[aHv s nx p]⟩
def oZ (s:ByteArray) (nx:Int):Nat→pE→pE
 | 0,p=>p
 | k+1,p=>if p.e=0 then oZ s nx k (lL s nx p) else p
theorem aN7 (s:ByteArray) (nx:Int) (k:Nat) {p:pE} (h:p.e≠0):oZ s nx k p=p:=by
 cases k with
 | zero=>rfl
 | succ k=>rw [oZ,if_neg h]
theorem aN6 (s:ByteArray) (nx:Int) {n k:Nat} (hk:k<n) {p:pE} (h:p.e=0):oZ s nx (n - k) p=oZ s nx (n - (k+1)) (lL s nx p):=by
 rw [show n - k=n - (k+1)+1 by omega,oZ,if_pos h]
theorem wK {s:ByteArray} {a e:Int} (h:a≤s.size):vO s a e≤s.size:=by
 unfold vO
 split
 ·by_cases hx:gD s a=0
  ·exact (nB hx).2.2.1
  ·rw [(aSd hx).2];omega
 ·exact h
theorem aSa {s:ByteArray} {a e:Int} (h:a≤s.size):wW s a e≤s.size:=by
 unfold wW
 split
 ·by_cases hx:tU s a 100=0
  ·exact (aR7 hx).2.2.1
  ·unfold tkT;rw [if_neg hx];omega
 ·exact h
theorem zK {e:Int} {b:Bool} (h:wE e b=0):e=0∧b=true:=by
 unfold wE at h
 split at h
 ·rename_i he
  split at h
  ·rename_i hb;exact ⟨he,hb⟩
  ·cases h
 ·exact (by rename_i he;exact absurd h he)
theorem nS {s:ByteArray} {a e lo hi:Int} (h:nuE s a e lo hi=0):e=0∧gD s a=0∧lo≤dE s a∧dE s a≤hi∧xN s a e=dE s a∧vO s a e=dW s a:=by
 unfold nuE at h
 split at h
 ·rename_i he
  obtain ⟨h1,h2⟩:=zK h
  simp only [Bool.and_eq_true,decide_eq_true_eq] at h2
  unfold xN vO
  rw [if_pos he,if_pos he]
  exact ⟨he,h1,h2.1,h2.2,rfl,rfl⟩
 ·exact (by rename_i he;exact absurd h he)
theorem aR9 {s:ByteArray} {a e:Int} (h:txE s a e=0):e=0∧tU s a 100=0∧txS s a e=tkS s a 100∧wW s a e=tkT s a 100:=by
 unfold txE at h
 split at h
 ·rename_i he
  unfold txS wW
  rw [if_pos he,if_pos he]
  exact ⟨he,h,rfl,rfl⟩
 ·exact (by rename_i he;exact absurd h he)
def paX (s:ByteArray):Int:=xN s 0 0
def aRc (s:ByteArray):Int:=nuE s 0 0 0 1073741824
def paC (s:ByteArray):Int:=xN s (vO s 0 0) (aRc s)
def paP (s:ByteArray):pE:=⟨vO s (vO s 0 0) (aRc s),nuE s (vO s 0 0) (aRc s) 0 20,[]⟩
def xO (s:ByteArray):pE:=oZ s (paX s) (paC s).toNat (paP s)
def paE (s:ByteArray):Int:=wE (xO s).e (decide ((xO s).a=s.size)&&decide (((iG (xO s).l).length:Int)=paC s))
theorem aHq {s:ByteArray} (h:(paP s).e=0):0≤paX s∧paX s≤1073741824∧0≤paC s∧paC s≤20:=by
 obtain ⟨h1,_,h2,h3,h4,_⟩:=nS h
 obtain ⟨_,_,g2,g3,g4,_⟩:=nS h1
 unfold paX paC
 rw [h4,g4]
 exact ⟨g2,g3,h2,h3⟩
structure PBk (w:World) (rb tb m d:Nat):Prop where
 a1:rb≠tb
 a2:rb≠m
 a3:rb≠d
 a4:tb≠d
 a5:m≠d
 b1:w.heap.size≤rb
 b2:w.heap.size≤tb
 b3:w.heap.size≤m
 b4:w.heap.size≤d
structure pS (w wr:World) (rb tb m d:Nat) (s:ByteArray) (nx:Int) (p:pE):Prop where
 rd:Rr 413 wr rb s p.a p.e
 tb:cP wr tb m ⟨nx,aA0 p.l⟩
 ids:bM (.int .i64) wr d (iG p.l)
 k0:K0 w wr
theorem lS {w wr wx:World} {S:Nat→Prop} (h:K0 w wr) (hk:aD S wr wx) (hS:∀ k,S k→w.heap.size≤k):K0 w wx:=h.trans hk (fun k hlt e=>by have:=hS k e;omega)
theorem eK {w:World} {b:Nat} (o:Obj) (h:b<w.heap.size):(aO w b o).heap[b]?=some o:=by simp [aO,h]
theorem gT (w:World) {b b':Nat} (o:Obj) (i:Nat) (h:b'≠b):(aO w b o).cell? ⟨b',i,none⟩=w.cell? ⟨b',i,none⟩:=by
 have h1:=cT w o h
 simp only [World.cell?,h1]
theorem aTt:Tryz.prog.underlying 3=some (.int .i64):=Tryz.underlying3
structure R14 (D:World) (m d tb bx:Nat) (nm:ByteArray) (id pt:Int) (v0:Value) (st:Int) (o1 o2 q:Obj):Prop where
 e0:(Instr.mapEntry 180 (.map (some m)) (.string nm)).run Tryz.prog D=.ok (.tuple #[v0,.int .i64 st]) (aO D m o1)
 e1:(Instr.mapEntry 180 (.map (some m)) (.string nm)).run Tryz.prog (aO D d q)=.ok (.tuple #[v0,.int .i64 st]) (aO (aO D d q) m o1)
 s0:(Instr.entryStore 180 (.map (some m)) (.int .i64 st) (.agg #[.int .i64 id,.int .i64 pt])).run Tryz.prog (aO D m o1)=.ok () (aO (aO D m o1) m o2)
 s1:(Instr.entryStore 180 (.map (some m)) (.int .i64 st) (.agg #[.int .i64 id,.int .i64 pt])).run Tryz.prog (aO (aO D m o1) d q)=.ok () (aO (aO (aO D m o1) d q) m o2)
 s2:(Instr.entryStore 180 (.map (some m)) (.int .i64 st) (.agg #[.int .i64 id,.int .i64 pt])).run Tryz.prog (aO (aO D d q) m o1)=.ok () (aO (aO (aO D d q) m o1) m o2)
 u0:(Instr.mapUpdate 414 (.map (some d)) (.int .i64 id) (.bool true)).run Tryz.prog D=.ok () (aO D d q)
 u1:(Instr.mapUpdate 414 (.map (some d)) (.int .i64 id) (.bool true)).run Tryz.prog (aO D m o1)=.ok () (aO (aO D m o1) d q)
 u2:(Instr.mapUpdate 414 (.map (some d)) (.int .i64 id) (.bool true)).run Tryz.prog (aO (aO D m o1) m o2)=.ok () (aO (aO (aO D m o1) m o2) d q)
 t1:∀ wx o,(aO wx m o).cell? ⟨tb,1,none⟩=wx.cell? ⟨tb,1,none⟩
 t2:∀ wx o,(aO wx d o).cell? ⟨tb,1,none⟩=wx.cell? ⟨tb,1,none⟩
 x1:∀ wx o,(aO wx m o).cell? ⟨bx,0,none⟩=wx.cell? ⟨bx,0,none⟩
 x2:∀ wx o,(aO wx d o).cell? ⟨bx,0,none⟩=wx.cell? ⟨bx,0,none⟩
 y1:∀ wx o,(aO wx m o).cell? ⟨bx,1,none⟩=wx.cell? ⟨bx,1,none⟩
 y2:∀ wx o,(aO wx d o).cell? ⟨bx,1,none⟩=wx.cell? ⟨bx,1,none⟩
 c0:D.cell? ⟨tb,1,none⟩=some (.map (some m))
 c1:D.cell? ⟨bx,0,none⟩=some (.int .i64 id)
 c2:D.cell? ⟨bx,1,none⟩=some (.int .i64 pt)
def aW6 (w:World) (rb tb m d:Nat) (s:ByteArray) (nx:Int) (p:pE) (D:World) (o1 o2 q:Obj):Prop:=
 pS w (aO (aO (aO D m o1) m o2) d q) rb tb m d s nx p∧pS w (aO (aO (aO D m o1) d q) m o2) rb tb m d s nx p∧pS w (aO (aO (aO D d q) m o1) m o2) rb tb m d s nx p
theorem aXk {w D:World} {rb tb m d bx:Nat} {s:ByteArray} {nx:Int} {l:List iR} {a e id pt:Int} (nm:ByteArray) (B:PBk w rb tb m d) (hx:bx≠m∧bx≠d) (h:pS w D rb tb m d s nx ⟨a,e,l⟩)
  (hb:D.heap[bx]?=some (.cells #[.int .i64 id,.int .i64 pt] 193 (0,0))) :
  ∃ v0 st o1 o2 q,R14 D m d tb bx nm id pt v0 st o1 o2 q∧aW6 w rb tb m d s nx ⟨a,e,l++[(nm,(id,pt))]⟩ D o1 o2 q:=by
 obtain ⟨O0,v0,st,o1,o2,hO,hE,hS,hM⟩:=bM.entry (eG Tryz.underlying9) (P:=Tryz.prog) h.tb.map Tryz.underlying180 pD nm (.agg #[.int .i64 id,.int .i64 pt])
 obtain ⟨Q0,q,hQ,hU,hI⟩:=bM.putB (aEi aTt) (P:=Tryz.prog) h.ids Tryz.underlying414 id (.bool true)
 have lm:m<D.heap.size:=h.tb.map.lt
 have ld:d<D.heap.size:=h.ids.lt
 have ltb:=h.tb.lt
 have nmd:m≠d:=B.a5
 have ndm:d≠m:=fun e=>B.a5 e.symm
 have sz:∀ wx k o,(aO wx k o).heap.size=wx.heap.size:=fun wx k o=>nG wx k o
 have hk:∀ wf,wf.heap[m]?=some o2→wf.heap[d]?=some q→aD (fun k=>k=m∨k=d) D wf→pS w wf rb tb m d s nx ⟨a,e,l++[(nm,(id,pt))]⟩:=fun wf h1 h2 h3=>by
  refine ⟨h.rd.keep h3 (fun e=>e.elim B.a2 B.a3),⟨h.tb.ne,(h3.block tb ltb (fun e=>e.elim h.tb.ne B.a4)).trans h.tb.rcd,?_⟩,?_,lS h.k0 h3 (fun k e=>by rcases e with rfl | rfl;exact B.b3;exact B.b4)⟩
  ·show bM _ _ _ (gG.vals (aA0 (l++[(nm,(id,pt))])))
   rw [aQp,← aCo]
   exact hM wf h1
  ·show bM _ _ _ (iG (l++[(nm,(id,pt))]))
   rw [aQf]
   exact hI wf h2
 have kk:∀ {wx:World} (k:Nat) (o:Obj),(k=m∨k=d)→aD (fun k=>k=m∨k=d) D wx→aD (fun k=>k=m∨k=d) D (aO wx k o):=fun k o hk h=>h.setObj (fun _=>hk) o
 have dm:∀ wx o,(aO wx m o).heap[d]?=wx.heap[d]?:=fun wx o=>cT wx o ndm
 have md:∀ wx o,(aO wx d o).heap[m]?=wx.heap[m]?:=fun wx o=>cT wx o nmd
 refine ⟨v0,st,o1,o2,q,⟨hE D hO,hE _ ((md _ _).trans hO),hS _ (eK _ lm),hS _ ((md _ _).trans (eK _ lm)),hS _ (eK _ (by rw [sz];exact lm)),hU D hQ,hU _ ((dm _ _).trans hQ),hU _ ((dm _ _).trans ((dm _ _).trans hQ)),
  fun wx o=>gT wx o 1 h.tb.ne,fun wx o=>gT wx o 1 B.a4,fun wx o=>gT wx o 0 hx.1,fun wx o=>gT wx o 0 hx.2,fun wx o=>gT wx o 1 hx.1,fun wx o=>gT wx o 1 hx.2,h.tb.cell1,aB hb 0,aB hb 1⟩,?_,?_,?_⟩
 ·exact hk _ ((md _ _).trans (eK _ (by rw [sz];exact lm))) (eK _ (by rw [sz,sz];exact ld)) (kk d q (.inr rfl) (kk m o2 (.inl rfl) (kk m o1 (.inl rfl) (aD.refl _ _))))
 ·exact hk _ (eK _ (by rw [sz,sz];exact lm)) ((dm _ _).trans (eK _ (by rw [sz];exact ld))) (kk m o2 (.inl rfl) (kk d q (.inr rfl) (kk m o1 (.inl rfl) (aD.refl _ _))))
 ·exact hk _ (eK _ (by rw [sz,sz];exact lm)) ((dm _ _).trans ((dm _ _).trans (eK _ ld))) (kk m o2 (.inl rfl) (kk m o1 (.inl rfl) (kk d q (.inr rfl) (aD.refl _ _))))
theorem wV (pre rest:ByteArray) (n:Int):cF (pre++putB n++rest) pre.size=eT (zz n)++cF rest 0:=by
 have h1:(pre++putB n++rest).data.toList=pre.data.toList++((putB n).data.toList++rest.data.toList):=aK
 unfold cF
 rw [h1,List.drop_left' aBx,List.map_append,List.drop_zero]
 congr 1
 unfold putB
 rw [eZ,List.map_map]
 conv=>rhs;rw [← List.map_id (eT (zz n))]
 refine List.map_congr_left fun b hb=>?_
 have:=sQ _ b hb
 simp only [Function.comp,id,Int.toNat_natCast]
 rw [UInt8.toNat_ofNat']
 omega
theorem aBh (n:Int):(putB n).size=(eT (zz n)).length:=by
 have h:=congrArg List.length (eZ (eT (zz n)))
 rw [List.length_map] at h
 exact h
theorem qN (pre rest:ByteArray) {n:Int} (h:-9223372036854775808≤n∧n≤9223372036854775807) :
  gD (pre++putB n++rest) pre.size=0∧dE (pre++putB n++rest) pre.size=n∧dW (pre++putB n++rest) pre.size=pre.size+(putB n).size:=by
 have hb:¬ ((pre.size:Int)<0∨((pre++putB n++rest).size:Int)<pre.size):=by
  rw [ByteArray.size_append,ByteArray.size_append]
  omega
 obtain ⟨h1,h2,h3⟩:=aLm (aL9 h) (cF rest 0)
 unfold gD dE dW uL
 rw [if_neg hb,if_neg hb,if_neg hb,Int.toNat_natCast,wV,if_pos h1,h3,aVc,aBh,← h2]
 exact ⟨h1,rfl,by push_cast;omega⟩
theorem uQ {s:ByteArray} {a:Int} (h:gD s a=0):s.extract a.toNat (dW s a).toNat=putB (dE s a):=by
 unfold gD at h
 split at h
 ·cases h
 ·rename_i hb
  unfold dW dE uL uK
  rw [if_neg hb,if_neg hb,if_pos h,if_pos h]
  obtain ⟨h1,h2,h3⟩:=uJ h
  have h4:=(aOc h1 h2).2 h3
  rw [Nat.mod_eq_of_lt (kO (iB s _) h1 h2 h3)] at h4
  rw [h4]
  congr 1
  omega
theorem nQ {s:ByteArray} {a b c:Nat} (h1:a≤b) (h2:b≤c) (h3:c≤s.size):s.extract a c=s.extract a b++s.extract b c:=by
 have h:(s.extract a c).data.toList=(s.extract a b++s.extract b c).data.toList:=by
  simp only [ByteArray.data_extract,ByteArray.data_append,Array.toList_extract,Array.toList_append,List.extract_eq_take_drop]
  apply List.ext_getElem?
  intro i
  simp only [List.getElem?_append,List.getElem?_take,List.getElem?_drop,List.length_take,List.length_drop]
  have hs:s.data.toList.length=s.size:=rfl
  by_cases hi:i<b - a
  ·rw [if_pos aA,if_pos aA,if_pos hi]
  ·by_cases hj:i<c - a
   ·rw [if_pos hj,if_neg aA,if_pos aA]
    congr 1
    omega
   ·rw [if_neg hj]
    split
    ·rfl
    ·rw [if_neg aA]
 cases hx:s.extract a c
 cases hy:s.extract a b++s.extract b c
 rw [hx,hy] at h
 exact congrArg ByteArray.mk (Array.toList_inj.1 h)
theorem aLq (s:ByteArray):s.extract 0 s.size=s:=by simp
theorem rH (pre x rest:ByteArray):(pre++x++rest).extract pre.size (pre.size+x.size)=x:=by
 have h:((pre++x++rest).extract pre.size (pre.size+x.size)).data.toList=x.data.toList:=by
  simp only [ByteArray.data_extract,ByteArray.data_append,Array.toList_extract,Array.toList_append,List.extract_eq_take_drop]
  have h1:pre.size=pre.data.toList.length:=rfl
  have h2:x.size=x.data.toList.length:=rfl
  rw [h1,h2,List.append_assoc,List.drop_left,Nat.add_sub_cancel_left,List.take_left]
 cases hx:(pre++x++rest).extract pre.size (pre.size+x.size)
 rw [hx] at h
 cases x
 exact congrArg ByteArray.mk (Array.toList_inj.1 h)
theorem aFl (pre rest nm:ByteArray) (h:nm.size≤100) :
  tU (pre++(putB nm.size++nm)++rest) pre.size 100=0∧tkS (pre++(putB nm.size++nm)++rest) pre.size 100=nm∧tkT (pre++(putB nm.size++nm)++rest) pre.size 100=pre.size+(putB nm.size++nm).size:=by
 have e1:pre++(putB (nm.size:Int)++nm)++rest=pre++putB (nm.size:Int)++(nm++rest):=(by simp only [ByteArray.append_assoc])
 have e2:pre++(putB (nm.size:Int)++nm)++rest=(pre++putB (nm.size:Int))++nm++rest:=(by simp only [ByteArray.append_assoc])
 obtain ⟨h1,h2,h3⟩:=qN pre (nm++rest) (n:=(nm.size:Int)) ⟨by omega,by omega⟩
 rw [← e1] at h1 h2 h3
 have hsz:(pre++(putB (nm.size:Int)++nm)++rest).size=pre.size+(putB (nm.size:Int)).size+nm.size+rest.size:=by
  rw [e2];simp only [ByteArray.size_append]
 have hE:tU (pre++(putB nm.size++nm)++rest) pre.size 100=0:=by
  unfold tU
  rw [if_pos h1,h2,if_neg aA,h3,hsz,if_neg aA]
 refine ⟨hE,?_,?_⟩
 ·unfold tkS
  rw [if_pos hE,h2,h3,e2]
  have g1:((pre.size:Int)+((putB (nm.size:Int)).size:Int)).toNat=(pre++putB (nm.size:Int)).size:=(by rw [ByteArray.size_append];omega)
  have g2:((pre.size:Int)+((putB (nm.size:Int)).size:Int)+(nm.size:Int)).toNat=(pre++putB (nm.size:Int)).size+nm.size:=(by rw [ByteArray.size_append];omega)
  rw [g1,g2,rH]
 ·unfold tkT
  rw [if_pos hE,h2,h3,ByteArray.size_append]
  omega
theorem aWv {s:ByteArray} {a:Int} (h:tU s a 100=0):s.extract a.toNat (tkT s a 100).toNat=putB (tkS s a 100).size++tkS s a 100∧(tkS s a 100).size≤100:=by
 obtain ⟨h1,h2,h3,h4,h5,h6⟩:=aR7 h
 have hv:=nB h4
 have hT:tkT s a 100=dW s a+dE s a:=by unfold tkT;rw [if_pos h]
 have hS:tkS s a 100=s.extract (dW s a).toNat (dW s a+dE s a).toNat:=by unfold tkS;rw [if_pos h]
 have hz:(tkS s a 100).size=(dE s a).toNat:=by rw [hS,ByteArray.size_extract];omega
 refine ⟨?_,by omega⟩
 rw [nQ (b:=(dW s a).toNat) aA aA aA,uQ h4]
 rw [hz,hT,hS]
 congr 2
 omega
theorem uB {α:Type} {κ:Type} [DecidableEq κ] {L:List (κ×α)} {x:κ} (h:x ∉ L.map (·.1)):aQ L x=none:=by
 induction L with
 | nil=>rfl
 | cons p L ih=>
  obtain ⟨k,v⟩:=p
  simp only [List.map_cons,List.mem_cons,not_or] at h
  rw [aQ,if_neg (fun e=>h.1 e.symm)]
  exact ih h.2
theorem aNo (l:List iR) (h:(cR l).Nodup):aA0 l=l:=by
 suffices hh:∀ (m acc:List iR),(cR (acc++m)).Nodup→m.foldl (fun M p=>bD M p.1 p.2) acc=acc++m by
  have:=hh l [] h
  rw [List.nil_append] at this
  exact this
 intro m
 induction m with
 | nil=>intro acc _;simp
 | cons p m ih=>
  intro acc hn
  have hp:aQ acc p.1=none:=uB (fun e=>by
   unfold cR at hn
   rw [List.map_append,List.map_cons] at hn
   exact (List.nodup_append.1 hn).2.2 p.1 e p.1 List.mem_cons_self rfl)
  rw [List.foldl_cons,jK hp,ih _ (by simpa using hn)]
  simp
theorem aQg:∀ (m:List iR) (acc:List (Int×Value)),(acc.map (·.1)).Nodup→((m.foldl (fun D p=>bD D p.2.1 (.bool true)) acc).map (·.1)).Nodup∧(m.foldl (fun D p=>bD D p.2.1 (.bool true)) acc).length≤acc.length+m.length∧
  ((m.foldl (fun D p=>bD D p.2.1 (.bool true)) acc).length=acc.length+m.length↔(acc.map (·.1)++m.map (·.2.1)).Nodup):=by
 intro m
 induction m with
 | nil=>intro acc h;simp [h]
 | cons p m ih=>
  intro acc h
  rw [List.foldl_cons]
  by_cases hp:p.2.1∈acc.map (·.1)
  ·have hl:(bD acc p.2.1 (.bool true)).length=acc.length∧(bD acc p.2.1 (.bool true)).map (·.1)=acc.map (·.1):=by
    clear ih h
    induction acc with
    | nil=>simp at hp
    | cons q acc ih2=>
     obtain ⟨k,v⟩:=q
     rw [bD]
     split
     ·simp
     ·rename_i hk
      simp only [List.map_cons,List.mem_cons] at hp
      have:=ih2 (hp.resolve_left (fun e=>hk e.symm))
      simp [this.1,this.2]
   obtain ⟨h1,h2,h3⟩:=ih (bD acc p.2.1 (.bool true)) (by rw [hl.2];exact h)
   refine ⟨h1,by rw [hl.1] at h2;simp;omega,?_⟩
   rw [hl.1] at h2
   constructor
   ·intro e;simp at e;omega
   ·intro e
    rw [List.map_cons] at e
    exact absurd rfl ((List.nodup_append.1 e).2.2 p.2.1 hp p.2.1 List.mem_cons_self)
  ·have hl:bD acc p.2.1 (.bool true)=acc++[(p.2.1,.bool true)]:=jK (uB hp)
   have hn:((acc++[(p.2.1,Value.bool true)]).map (·.1)).Nodup:=by
    rw [List.map_append]
    refine List.nodup_append.2 ⟨h,by simp,fun a ha c hc e=>?_⟩
    simp only [List.map_cons,List.map_nil,List.mem_singleton] at hc
    subst hc;subst e
    exact hp ha
   obtain ⟨h1,h2,h3⟩:=ih _ hn
   rw [hl]
   refine ⟨h1,by simp at h2 ⊢;omega,?_⟩
   simp only [List.length_append,List.length_cons,List.length_nil,List.map_append,List.map_cons,List.map_nil,List.append_assoc,List.cons_append,List.nil_append] at h3 ⊢
   rw [← h3]
   constructor <;> intro e <;> omega
theorem aG5 (l:List iR):(iG l).length=l.length↔(l.map (·.2.1)).Nodup:=by
 have h:=(aQg l [] .nil).2.2
 simpa [iG] using h
theorem tS.ids_nodup {R:gG} (h:tS R):(R.all.map (·.2.1)).Nodup:=by
 refine List.pairwise_map.2 ((List.pairwise_map.1 h.keys).imp_of_mem ?_)
 intro p q hp hq hne
 exact h.apart p.1 q.1 p.2 q.2 (eO h.keys hp) (eO h.keys hq) hne
theorem aMq {nm:ByteArray} (h:1≤nm.size):gU ⟨#[]⟩ nm=true:=by
 rw [lP]
 cases hx:nm.data.toList with
 | nil=>
  have:nm.data.toList.length=nm.size:=rfl
  rw [hx] at this
  simp at this
  omega
 | cons a l=>exact List.nil_lt_cons a l
theorem aQl {l:List iR} (hs:gC l) {k:Nat} (hk:k<l.length) (h1:1≤l[k].1.size):gU (xM (l.take k)) l[k].1=true:=by
 cases k with
 | zero=>exact aMq h1
 | succ j=>
  have hj:j<l.length:=aA
  rw [List.take_succ_eq_append_getElem hj,nR]
  have:=List.pairwise_iff_getElem.1 (List.pairwise_map.1 hs) j (j+1) hj hk aA
  exact this
theorem tG (acc:ByteArray) (l m:List iR):dA acc (l++m)=dA (dA acc l) m:=by unfold dA;rw [List.foldl_append]
theorem tF (a b:ByteArray):∀ l:List iR,dA (a++b) l=a++dA b l
 | []=>rfl
 | p::l=>by
  show dA (a++b++qQ p) l=a++dA (b++qQ p) l
  rw [ByteArray.append_assoc,tF]
theorem aE2 (R:gG) {k:Nat} (hk:k<R.all.length):bE R=dA (fY R) (R.all.take k)++qQ R.all[k]++dA ⟨#[]⟩ (R.all.drop (k+1)):=by
 have h1:R.all=R.all.take (k+1)++R.all.drop (k+1):=(List.take_append_drop _ _).symm
 show dA (fY R) R.all=_
 conv=>lhs;rw [h1]
 rw [tG,xS _ hk]
 have:=tF (dA (fY R) (R.all.take k)++qQ R.all[k]) ⟨#[]⟩ (R.all.drop (k+1))
 rw [← this]
 congr 1
 exact (ByteArray.append_empty).symm
theorem xU (R:gG):bE R=fY R++dA ⟨#[]⟩ R.all:=by
 have:=tF (fY R) ⟨#[]⟩ R.all
 rw [← this]
 show dA (fY R) R.all=_
 congr 1
 exact (ByteArray.append_empty).symm
section
variable {R:gG}
theorem aKr (wf:tS R) (ho:gC R.all) {k:Nat} (hk:k<R.all.length) :
  lL (bE R) R.next ⟨(dA (fY R) (R.all.take k)).size,0,R.all.take k⟩=⟨(dA (fY R) (R.all.take (k+1))).size,0,R.all.take (k+1)⟩:=by
 have hi:=wf.ids R.all[k].1 R.all[k].2 (eO wf.keys (List.getElem_mem hk))
 have hnx:=wf.next
 have hlt:=aQl ho hk hi.2.2.2.2.1
 have hsp:=aE2 R hk
 rw [List.take_succ_eq_append_getElem hk,tG]
 generalize dA (fY R) (R.all.take k)=pre at hsp ⊢
 generalize R.all.take k=l at hlt ⊢
 generalize dA ⟨#[]⟩ (R.all.drop (k+1))=rest at hsp
 generalize R.all[k]=p at hi hlt hsp ⊢
 obtain ⟨nm,id,pt⟩:=p
 obtain ⟨i1,i2,i3,i4,i5,i6⟩:0≤id∧id<R.next∧1≤pt∧pt≤16∧1≤nm.size∧nm.size≤100:=hi
 have e1:bE R=pre++(putB nm.size++nm)++(putB id++putB pt++rest):=by rw [hsp];unfold qQ;simp only [ByteArray.append_assoc]
 have e2:bE R=(pre++(putB nm.size++nm))++putB id++(putB pt++rest):=by rw [e1];simp only [ByteArray.append_assoc]
 have e3:bE R=(pre++(putB nm.size++nm)++putB id)++putB pt++rest:=by rw [e2];simp only [ByteArray.append_assoc]
 obtain ⟨t1,t2,t3⟩:=aFl pre (putB id++putB pt++rest) nm i6
 rw [← e1] at t1 t2 t3
 obtain ⟨g1,g2,g3⟩:=qN (pre++(putB nm.size++nm)) (putB pt++rest) (n:=id) ⟨by omega,by omega⟩
 rw [← e2] at g1 g2 g3
 obtain ⟨f1,f2,f3⟩:=qN (pre++(putB nm.size++nm)++putB id) rest (n:=pt) ⟨by omega,by omega⟩
 rw [← e3] at f1 f2 f3
 have z1:((pre.size:Int)+((putB (nm.size:Int)++nm).size:Int))=((pre++(putB (nm.size:Int)++nm)).size:Int):=by rw [ByteArray.size_append (a:=pre)];omega
 have z2:(((pre++(putB (nm.size:Int)++nm)).size:Int)+((putB id).size:Int))=((pre++(putB (nm.size:Int)++nm)++putB id).size:Int):=by rw [ByteArray.size_append (b:=putB id)];omega
 rw [z1] at t3
 rw [z2] at g3
 have s1:aR3 (bE R) ⟨pre.size,0,l⟩=0:=by
  unfold aR3 txE txS wE
  simp only [if_true,t1,t2,hlt]
 have sT:wW (bE R) pre.size 0=(pre++(putB nm.size++nm)).size:=by unfold wW;rw [if_pos rfl,t3]
 have sS:txS (bE R) pre.size 0=nm:=by unfold txS;rw [if_pos rfl,t2]
 have n2:nX (bE R) ⟨pre.size,0,l⟩=id:=by
  unfold nX xN
  rw [s1,if_pos rfl]
  show dE (bE R) (wW (bE R) pre.size 0)=id
  rw [sT,g2]
 have T2:yQ (bE R) ⟨pre.size,0,l⟩=(pre++(putB nm.size++nm)++putB id).size:=by
  unfold yQ vO
  rw [s1,if_pos rfl]
  show dW (bE R) (wW (bE R) pre.size 0)=_
  rw [sT,g3]
 have E2:aKp (bE R) R.next ⟨pre.size,0,l⟩=0:=by
  unfold aKp nuE
  rw [s1,if_pos rfl]
  show wE (gD (bE R) (wW (bE R) pre.size 0)) (decide (0≤dE (bE R) (wW (bE R) pre.size 0))&&decide (dE (bE R) (wW (bE R) pre.size 0)≤R.next - 1))=0
  rw [sT,g1,g2,decide_eq_true i1,decide_eq_true aA]
  rfl
 have n3:pR (bE R) R.next ⟨pre.size,0,l⟩=pt:=by
  unfold pR xN
  rw [E2,if_pos rfl,T2,f2]
 have E3:aFf (bE R) R.next ⟨pre.size,0,l⟩=0:=by
  unfold aFf nuE
  rw [E2,if_pos rfl,T2,f1,f2,decide_eq_true i3,decide_eq_true i4]
  rfl
 have T3:tN (bE R) R.next ⟨pre.size,0,l⟩=(pre++qQ (nm,(id,pt))).size:=by
  unfold tN vO
  rw [E2,if_pos rfl,T2,f3]
  unfold qQ
  simp only [ByteArray.size_append]
  omega
 unfold lL
 rw [T3,E3]
 unfold aHv
 rw [n2,n3]
 show (⟨_,_,l++[(txS (bE R) pre.size 0,(id,pt))]⟩:pE)=_
 rw [sS]
 rfl
theorem aDg (wf:tS R) (ho:gC R.all):∀ j k,k+j=R.all.length→oZ (bE R) R.next j ⟨(dA (fY R) (R.all.take k)).size,0,R.all.take k⟩=⟨(bE R).size,0,R.all⟩
 | 0,k,h=>by
  obtain rfl:k=R.all.length:=aA
  rw [List.take_length]
  rfl
 | j+1,k,h=>by
  rw [oZ,if_pos rfl,aKr wf ho aA]
  exact aDg wf ho j (k+1) aA
theorem xQ (wf:tS R) (ho:gC R.all):paE (bE R)=0∧paX (bE R)=R.next∧(xO (bE R)).l=R.all:=by
 have hnx:=wf.next
 have hl:=wf.len
 have e1:bE R=⟨#[]⟩++putB R.next++(putB (R.all.length:Int)++dA ⟨#[]⟩ R.all):=by
  rw [xU];unfold fY;rw [ByteArray.append_assoc]
  show _=(ByteArray.empty++_)++_
  rw [ByteArray.empty_append]
 have e2:bE R=putB R.next++putB (R.all.length:Int)++dA ⟨#[]⟩ R.all:=by rw [xU];rfl
 obtain ⟨g1,g2,g3⟩:=qN ⟨#[]⟩ (putB (R.all.length:Int)++dA ⟨#[]⟩ R.all) (n:=R.next) ⟨by omega,by omega⟩
 rw [← e1] at g1 g2 g3
 obtain ⟨f1,f2,f3⟩:=qN (putB R.next) (dA ⟨#[]⟩ R.all) (n:=(R.all.length:Int)) ⟨by omega,by omega⟩
 rw [← e2] at f1 f2 f3
 have z0:(((⟨#[]⟩:ByteArray).size:Nat):Int)=0:=rfl
 rw [z0] at g1 g2 g3
 rw [Int.zero_add] at g3
 have hX:paX (bE R)=R.next:=by unfold paX xN;rw [if_pos rfl,g2]
 have hT:vO (bE R) 0 0=(putB R.next).size:=by unfold vO;rw [if_pos rfl,g3]
 have h1E:aRc (bE R)=0:=by
  unfold aRc nuE
  rw [if_pos rfl,g1,g2,decide_eq_true hnx.1,decide_eq_true hnx.2]
  rfl
 have hC:paC (bE R)=R.all.length:=by unfold paC xN;rw [h1E,if_pos rfl,hT,f2]
 have hP:paP (bE R)=⟨(dA (fY R) (R.all.take 0)).size,0,R.all.take 0⟩:=by
  unfold paP vO nuE
  rw [h1E,if_pos rfl,if_pos rfl]
  rw [if_pos rfl,g3,f1,f2,f3,decide_eq_true aA,decide_eq_true aA]
  show (⟨_,_,_⟩:pE)=⟨((putB R.next++putB (R.all.length:Int)).size:Nat),_,_⟩
  rw [ByteArray.size_append]
  rfl
 have hF:xO (bE R)=⟨(bE R).size,0,R.all⟩:=by
  unfold xO
  rw [hX,hC,hP,Int.toNat_natCast]
  exact aDg wf ho _ 0 aA
 refine ⟨?_,hX,by rw [hF]⟩
 unfold paE
 rw [hF,hC]
 show wE 0 (decide (((bE R).size:Int)=(bE R).size)&&decide (((iG R.all).length:Int)=R.all.length))=0
 rw [(aG5 R.all).2 wf.ids_nodup,decide_eq_true rfl,decide_eq_true rfl]
 rfl
end
end Go.Proofs.YteapahcklcldkaaGreatDoor.Tpc
