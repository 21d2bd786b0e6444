/-
  The statement is proved: all that it reaches, in parts.
-/
import Derived.Test.YteapahcklcldkaaGreatDoorW28
set_option maxRecDepth 100000
set_option maxHeartbeats 16000000
namespace Go.Proofs.YteapahcklcldkaaGreatDoor
open Go.RowKit Fx
structure aPg where
 b:aR
 a:Option Addr
 cap:Nat
def qL (x:aPg):List Value:=[.int .i64 x.b.base,.int .i64 x.b.span,.int .i64 x.b.prod,.int .i64 x.b.epoch,.int .i64 x.b.seq,.slice x.a x.b.recs.length x.cap]
theorem uR:(Tryz.prog.info? 39).map (fun i=>(i.zero,i.size,i.bytes))=some (some (.agg #[.int .i64 0,.int .i64 0,.int .i64 0,.int .i64 0,.int .i64 0,.slice none 0 0]),6,64):=by kernel_rfl
structure vS (w:World) (Bs:List aR) (v:Value) (wr:World) (xs:List aPg) (D:Nat→Prop):Prop where
 own:wr.ownsRow w.heap.size 39 6 v Bs.length (xs.flatMap qL)
 bs:xs.map (·.b)=Bs
 data:∀ x∈xs,dN D wr x.b x.a x.cap∧oC x.b x.a x.cap
 dlt:∀ j,D j→w.heap.size≤j∧j<wr.heap.size∧v.ownBlock≠some j
 k0:K0 w wr
def iY (w:World) (Bs:List aR) (v:Value) (wr:World):Prop:=∃ xs D,vS w Bs v wr xs D
theorem vS.kept {w wr wx:World} {Bs:List aR} {v:Value} {xs:List aPg} {D:Nat→Prop} (h:vS w Bs v wr xs D) (k:K0 wr wx):vS w Bs v wx xs D:=
 ⟨fS h.own k (fun _ _ e=>e),h.bs,fun x hx=>⟨(h.data x hx).1.keep0 k,(h.data x hx).2⟩,fun j e=>⟨(h.dlt j e).1,Nat.lt_of_lt_of_le (h.dlt j e).2.1 k.size,(h.dlt j e).2.2⟩,K0.tr h.k0 k⟩
theorem vS.zero (w:World):vS w [] (.slice none 0 0) w [] (fun _=>False):=
 ⟨World.ownsRow_nil _ _ _ _,rfl,fun x hx=>(by cases hx),fun j e=>e.elim,aD.refl _ _⟩
theorem vS.app {w wr wx wy w2:World} {Bs:List aR} {v:Value} {xs:List aPg} {D:Nat→Prop} (h:vS w Bs v wr xs D) (k:K0 wr wx) {x:aPg} (hx:dN (fun j=>wr.heap.size≤j∧j<wx.heap.size) wx x.b x.a x.cap) (hf:oC x.b x.a x.cap) (k2:K0 wx wy) {g cap:Nat}
  (hA:pL wy w.heap.size 39 6 v Bs.length (xs.flatMap qL++qL x) g cap w2):vS w (Bs++[x.b]) (.slice (some ⟨g,0,none⟩) (Bs.length+1) cap) w2 (xs++[x]) (fun j=>D j∨(wr.heap.size≤j∧j<wx.heap.size)):=by
 have k3:K0 wr wy:=K0.tr k k2
 have hkA:aD (fun j=>v.ownBlock=some j) wy w2:=(aD.refl _ _).grown hA.grown (fun j e _=>e)
 have hvlt:∀ j,v.ownBlock=some j→w.heap.size≤j∧j<wr.heap.size:=fun j e=>h.own.lt _ e
 refine ⟨?_,by rw [List.map_append,h.bs];rfl,?_,?_,?_⟩
 ·rw [List.length_append,List.flatMap_append]
  have:[x].flatMap qL=qL x:=aK
  rw [this]
  exact hA.own
 ·intro y hy
  rcases List.mem_append.1 hy with hy | hy
  ·refine ⟨((h.data y hy).1.keep0 k3).keep hkA (fun j e q=>(h.dlt j e).2.2 q) (fun j e=>.inl e),(h.data y hy).2⟩
  ·have:=List.mem_singleton.1 hy
   subst this
   exact ⟨(hx.keep0 k2).keep hkA (fun j e q=>by have:=(hvlt j q).2;omega) (fun j e=>.inr e),hf⟩
 ·intro j e
  have hj:j<wx.heap.size∧w.heap.size≤j:=by
   rcases e with e | e
   ·exact ⟨Nat.lt_of_lt_of_le (h.dlt j e).2.1 k.size,(h.dlt j e).1⟩
   ·exact ⟨e.2,Nat.le_trans h.k0.size e.1⟩
  have z2:=k2.size
  have zA:=hkA.size
  refine ⟨hj.2,by omega,fun q=>?_⟩
  have hg:g=j:=Option.some.inj q
  subst hg
  rcases hA.at_ with q | q
  ·rcases e with e | e
   ·exact (h.dlt _ e).2.2 q
   ·have:=(hvlt _ q).2;omega
  ·omega
 ·exact (h.k0.trans k3 (fun _ _ e=>e)).trans hkA (fun j hj e=>by have:=(hvlt j e).1;omega)
theorem aKl (L:List cK) (k:Nat):cH (L.take k)≤cH L:=by
 have:cH L=cH (L.take k)+cH (L.drop k):=by
  have h1:cH (L.take k++L.drop k)=cH (L.take k)+cH (L.drop k):=by unfold cH;rw [List.map_append,List.sum_append]
  rwa [List.take_append_drop] at h1
 omega
theorem aNk {L:List cK} {k:Nat} (h:k<L.length):(L.take (k+1)).map (·.b)=(L.take k).map (·.b)++[L[k].b]:=by
 rw [List.take_succ_eq_append_getElem h,List.map_append]
 rfl
theorem aBl {w:World} {F:Nat→Prop} {sb db:Nat} {nm:ByteArray} {base ev:Int} {L:List cK} (h:dT w F sb db nm base ev L) (hl:0<L.length) (hf:L.length≤1000) (hfew:∀ k∈L,oC k.b k.a k.cap) (hsp:∀ k∈L,1≤k.b.span∧k.b.span≤50) (hsz:cH L≤1000000) :
  Calls Tryz.prog 263 #[.pointer (some ⟨sb,0,none⟩),.int .i64 0,.int .i64 1099511627776] w fun e w'=>∃ v,e=.returned v∧iY w (L.map (·.b)) v w':=by
 have HFR:Hid (∀ wx,K0 w wx→Calls Tryz.prog 333 #[.pointer (some ⟨sb,0,none⟩),.int .i64 0] wx fun e w'=>e=.returned (.int .i64 0)∧K0 wx w'):=fun wx k=>aIe (h.k0 k) hl hf
 obtain ⟨ib,v,D,FI,hx⟩:=h
 obtain ⟨g,cap,rfl⟩:∃ g cap,v=.slice (some ⟨g,0,none⟩) L.length cap:=by
  rcases hx.row.2 with ⟨h1,h2⟩ | ⟨g,cap,cur,rfl,_⟩
  ·omega
  ·exact ⟨g,cap,rfl⟩
 have HKR:Hid (aMb w g L):=aLt hx.row rfl
 have HFI:Hid (∀ wx,K0 w wx→Calls Tryz.prog 334 #[.pointer (some ⟨ib,0,none⟩),.int .i64 0] wx fun e w'=>e=.returned (.int .i64 0)∧K0 wx w'):=fun wx k=>by
  have hix:=hx.ix.keep k (fun _ _ e=>e)
  cases L with
  | nil=>exact absurd hl (Nat.lt_irrefl _)
  | cons k0 r=>
   obtain ⟨s2,t2,h1,_⟩:=hix
   have hb:=hx.small k0 (List.mem_cons_self)
   rcases Int.lt_or_le 0 k0.b.base with hb0 | hb0
   ·exact aJp h1 ⟨hb0,hb.2.1⟩
   ·have e0:k0.b.base=0:=by omega
    rw [e0] at h1
    exact aHa h1
 have c5:w.cell? ⟨sb,5,none⟩=some (.slice (some ⟨g,0,none⟩) L.length cap):=aB hx.blk 5
 have c6:w.cell? ⟨sb,6,none⟩=some (.pointer (some ⟨ib,0,none⟩)):=aB hx.blk 6
 have lt:=aC hx.blk
 have HDT:Hid (∀ k∈L,dN D w k.b k.a k.cap):=hx.data
 have HSM:Hid (∀ k∈L,0≤k.b.base∧k.b.base≤1000∧k.pos≤1000):=hx.small
 have HFEW:=Lib.hid hfew
 have HSP:=Lib.hid hsp
 have HSZ:=Lib.hid hsz
 clear hx hfew hsp hsz
 go_enter Tryz.func263,Tryz.ntmps263
 go_upto_region 5 with fail
 go_region_held3 (fun w':World=>K0 w w'∧w'.cell? ⟨sb,5,none⟩=some (.slice (some ⟨g,0,none⟩) L.length cap)∧w'.cell? ⟨sb,6,none⟩=some (.pointer (some ⟨ib,0,none⟩)))
  (first | exact ⟨(aD.refl _ _).drew,by first | assumption | go_simp,by first | assumption | go_simp⟩ | (go_split_ands;exact ⟨K0.tr aG kk,kk.cell' aG (fun e=>e),kk.cell' aG (fun e=>e)⟩))
  (first
   | (go_at_call 334;go_split_ands;refine (HFI.out _ aG).mono ?_;rintro e w' ⟨rfl,kk⟩)
   | (go_at_call 333;go_split_ands;refine (HFR.out _ (by assumption)).mono ?_;rintro e w' ⟨rfl,kk⟩))
 go_wp2_with fail
 clear c5 c6 lt HFI HFR
 go_split_ands
 go_loopw [7,8,27] (fun v n i wr=>∃ (k:Nat) (va:Option Addr) (vc:Nat),v=.slice va k vc∧n=.int .i64 (cH (L.take k))∧i=.int .i64 k∧k≤L.length∧Hid (iY w ((L.take k).map (·.b)) (.slice va k vc) wr)) (fun _ _ i _=>L.length - (intOf i).toNat)
 case atStart=>exact ⟨0,none,0,rfl,rfl,rfl,by omega,⟨[],fun _=>False,(vS.zero w).kept aG⟩⟩
 case round=>
  obtain ⟨k,va,vc,rfl,rfl,rfl,hkl,HO⟩:=hrel
  obtain ⟨xs,D',hO⟩:=HO.out
  have hlen:((L.take k).map (·.b)).length=k:=by simp;omega
  have i0:(0:Int)≤k:=aA
  have HOX:=Lib.hid hO
  clear hO HO
  by_cases hk:k<L.length
  ·have i1:(k:Int)<L.length:=by omega
   have hrow:=(HKR.out.k0 HOX.out.k0) k hk
   have c0:=hrow 0 aA
   have c1:=hrow 1 aA
   have c2:=hrow 2 aA
   have c3:=hrow 3 aA
   have c4:=hrow 4 aA
   have c5:=hrow 5 aA
   have c6:=hrow 6 aA
   have c7:=hrow 7 aA
   simp only [qK,List.getElem?_cons_zero,List.getElem?_cons_succ,Nat.add_zero] at c0 c1 c2 c3 c4 c5 c6 c7
   have hmem:=List.getElem_mem hk
   have hsm:=HSM.out _ hmem
   have hsp:=HSP.out _ hmem
   have HD1:Hid (dN D wr L[k].b L[k].a L[k].cap):=(HDT.out _ hmem).keep0 HOX.out.k0
   have HF1:Hid (oC L[k].b L[k].a L[k].cap):=HFEW.out _ hmem
   have HT:Hid ((L.take (k+1)).map (·.b)=(L.take k).map (·.b)++[L[k].b]):=aNk hk
   have hsk:cH (L.take (k+1))=cH (L.take k)+L[k].size:=by rw [List.take_succ_eq_append_getElem hk];exact tL _ _
   have hsk2:cH (L.take (k+1))≤cH L:=aKl _ _
   have HSK:=Lib.hid hsk
   have hsz:=HSZ.out
   generalize L[k]=q at c0 c1 c2 c3 c4 c5 c6 c7 HD1 HF1 HT hsk hsm hsp HSK
   obtain ⟨z,hz⟩:∃ z,z=cH (L.take k):=⟨_,rfl⟩
   rw [← hz] at hsk HSK ⊢
   have HZ:=Lib.hid hz
   have hzq:z+q.size≤1000000:=aA
   clear hz hrow hmem hsk hsk2 hsz
   obtain ⟨s1,s2,s3⟩:=hsm
   obtain ⟨s4,s5⟩:=hsp
   have HEND:Hid (∀ wx,Calls Tryz.prog 335 #[.agg #[.int .i64 q.b.base,.int .i64 q.b.span,.int .i64 q.b.prod,.int .i64 q.b.epoch,.int .i64 q.b.seq,.slice q.a q.b.recs.length q.cap,.int .i64 q.pos,.int .i64 q.size]] wx fun e w'=>e=.returned (.int .i64 (q.b.base+q.b.span))∧K0 wx w'):=fun wx=>aQk q wx ⟨by omega,by omega⟩ ⟨by omega,by omega⟩
   have e1:¬ q.b.base+q.b.span≤0:=aA
   have e2:decide (q.b.base+q.b.span≤0)=false:=decide_eq_false e1
   have e3:¬ (1099511627776:Int)<(z:Int)+q.size:=aA
   have e4:decide ((1099511627776:Int)<(z:Int)+q.size)=false:=decide_eq_false e3
   go_wp2_with fail
   refine (HEND.out _).mono ?_
   rintro e w2 ⟨rfl,k2⟩
   have bq:w2.heap[wr.heap.size]?=some (.cells #[.int .i64 q.b.base,.int .i64 q.b.span,.int .i64 q.b.prod,.int .i64 q.b.epoch,.int .i64 q.b.seq,.slice q.a q.b.recs.length q.cap,.int .i64 q.pos,.int .i64 q.size] 475 (0,0)):=(k2.block _ aK (fun e=>e)).trans (aI wr _ _ rfl)
   have K02:K0 wr w2:=K0.tr ((aD.refl (fun _=>False) wr).alloc _) k2
   have d0:w2.cell? ⟨wr.heap.size,0,none⟩=some (.int .i64 q.b.base):=aB bq 0
   have d1:w2.cell? ⟨wr.heap.size,1,none⟩=some (.int .i64 q.b.span):=aB bq 1
   have d2:w2.cell? ⟨wr.heap.size,2,none⟩=some (.int .i64 q.b.prod):=aB bq 2
   have d3:w2.cell? ⟨wr.heap.size,3,none⟩=some (.int .i64 q.b.epoch):=aB bq 3
   have d4:w2.cell? ⟨wr.heap.size,4,none⟩=some (.int .i64 q.b.seq):=aB bq 4
   have d5:w2.cell? ⟨wr.heap.size,5,none⟩=some (.slice q.a q.b.recs.length q.cap):=aB bq 5
   have d7:w2.cell? ⟨wr.heap.size,7,none⟩=some (.int .i64 q.size):=aB bq 7
   have dl:wr.heap.size<w2.heap.size:=aC bq
   have HO2:Hid (vS w ((L.take k).map (·.b)) (.slice va k vc) w2 xs D'):=HOX.out.kept K02
   have HCP:Hid (Calls Tryz.prog 276 #[.agg #[.int .i64 q.b.base,.int .i64 q.b.span,.int .i64 q.b.prod,.int .i64 q.b.epoch,.int .i64 q.b.seq,.slice q.a q.b.recs.length q.cap]] w2 fun e w'=>∃ a' cap',e=.returned (.agg #[.int .i64 q.b.base,.int .i64 q.b.span,.int .i64 q.b.prod,.int .i64 q.b.epoch,.int .i64 q.b.seq,.slice a' q.b.recs.length cap'])∧dN (fun j=>w2.heap.size≤j∧j<w'.heap.size) w' q.b a' cap'∧oC q.b a' cap'∧K0 w2 w'):=aAg (HD1.out.keep0 K02) HF1.out
   have HK0:Hid (w.heap.size≤w2.heap.size):=HO2.out.k0.size
   clear bq k2 K02 c0 c1 c2 c3 c4 c5 c6 c7 HEND HOX HD1 HF1
   have wz:IntKind.i64.wrap ((z:Int)+q.size)=(z:Int)+q.size:=IntWalk.i64_in _ aA
   have HLEN:=Lib.hid hlen
   clear hlen
   rcases Nat.eq_zero_or_pos k with hk0 | hk0
   ·have p1:¬ (0:Int)<k:=by omega
    have p2:decide ((0:Int)<k)=false:=decide_eq_false p1
    have HKZ:=Lib.hid hk0
    clear hk0
    go_wp2_with fail
    refine HCP.out.mono ?_
    rintro e w3 ⟨a',cap',rfl,hb3,hf3,k3⟩
    have HOWN:Hid (w3.ownsRow w.heap.size 39 6 (.slice va k vc) k (xs.flatMap qL)):=by
     have h1:=(HO2.out.kept k3).own
     rwa [HLEN.out] at h1
    have HZ3:Hid (w2.heap.size≤w3.heap.size):=k3.size
    have HAP:Hid (∀ o g5 c5 w5,pL (w3.alloc o) w.heap.size 39 6 (.slice va k vc) k (xs.flatMap qL++[.int .i64 q.b.base,.int .i64 q.b.span,.int .i64 q.b.prod,.int .i64 q.b.epoch,.int .i64 q.b.seq,.slice a' q.b.recs.length cap']) g5 c5 w5→iY w ((L.take (k+1)).map (·.b)) (.slice (some ⟨g5,0,none⟩) (k+1) c5) w5):=fun o g5 c5 w5 hA=>by
     have h1:=HO2.out.app (x:=⟨q.b,a',cap'⟩) k3 hb3 hf3 ((aD.refl (fun _=>False) w3).alloc o) (g:=g5) (cap:=c5) (w2:=w5) (by rw [HLEN.out];exact hA)
     rw [HLEN.out] at h1
     rw [HT.out]
     exact ⟨_,_,h1⟩
    clear hb3 hf3 k3 d0 d1 d2 d3 d4 d5 d7 dl HCP HO2
    go_wp2_with (at_builtin;refine bW (v:=.slice va k vc) rfl rfl Tryz.underlying30 uR rfl aE rfl (HOWN.out.alloc _) rfl (aI _ _ _ rfl) rfl rfl ⟨by omega,by decide⟩ (by have:=HK0.out;have:=HZ3.out;simp;omega) ?_;intro g5 c5 w5 hA5;have HFIN:=Lib.hid (HAP.out _ _ _ _ hA5);clear hA5)
    go_roundw
    case rel=>exact ⟨k+1,_,_,rfl,by rw [HSK.out];go_num,by go_num,by omega,HFIN.out⟩
    case measure=>simp [intOf];omega
   ·have p1:(0:Int)<k:=by omega
    have p2:decide ((0:Int)<k)=true:=decide_eq_true p1
    have HKZ:=Lib.hid hk0
    clear hk0
    go_wp2_with fail
    refine HCP.out.mono ?_
    rintro e w3 ⟨a',cap',rfl,hb3,hf3,k3⟩
    have HOWN:Hid (w3.ownsRow w.heap.size 39 6 (.slice va k vc) k (xs.flatMap qL)):=by
     have h1:=(HO2.out.kept k3).own
     rwa [HLEN.out] at h1
    have HZ3:Hid (w2.heap.size≤w3.heap.size):=k3.size
    have HAP:Hid (∀ o g5 c5 w5,pL (w3.alloc o) w.heap.size 39 6 (.slice va k vc) k (xs.flatMap qL++[.int .i64 q.b.base,.int .i64 q.b.span,.int .i64 q.b.prod,.int .i64 q.b.epoch,.int .i64 q.b.seq,.slice a' q.b.recs.length cap']) g5 c5 w5→iY w ((L.take (k+1)).map (·.b)) (.slice (some ⟨g5,0,none⟩) (k+1) c5) w5):=fun o g5 c5 w5 hA=>by
     have h1:=HO2.out.app (x:=⟨q.b,a',cap'⟩) k3 hb3 hf3 ((aD.refl (fun _=>False) w3).alloc o) (g:=g5) (cap:=c5) (w2:=w5) (by rw [HLEN.out];exact hA)
     rw [HLEN.out] at h1
     rw [HT.out]
     exact ⟨_,_,h1⟩
    clear hb3 hf3 k3 d0 d1 d2 d3 d4 d5 d7 dl HCP HO2
    go_wp2_with (at_builtin;refine bW (v:=.slice va k vc) rfl rfl Tryz.underlying30 uR rfl aE rfl (HOWN.out.alloc _) rfl (aI _ _ _ rfl) rfl rfl ⟨by omega,by decide⟩ (by have:=HK0.out;have:=HZ3.out;simp;omega) ?_;intro g5 c5 w5 hA5;have HFIN:=Lib.hid (HAP.out _ _ _ _ hA5);clear hA5)
    go_roundw
    case rel=>exact ⟨k+1,_,_,rfl,by rw [HSK.out];go_num,by go_num,by omega,HFIN.out⟩
    case measure=>simp [intOf];omega
  ·obtain rfl:k=L.length:=by omega
   have hn:¬ (L.length:Int)<L.length:=aA
   have ht:L.take L.length=L:=List.take_length
   clear i0
   go_wp2_with fail
   go_ret
   rw [ht] at HOX
   exact ⟨_,rfl,xs,D',HOX.out⟩
structure aIr (L:List cK):Prop where
 few:∀ k∈L,Few k.b
 span:∀ k∈L,1≤k.b.span∧k.b.span≤50
 len:L.length≤1000
 size:cH L≤1000000
theorem dN.fewA {D:Nat→Prop} {w:World} {b:aR} {a:Option Addr} {cap:Nat} (h:dN D w b a cap) (hf:Few b):oC b a cap:=by
 cases hf with
 | none hn=>obtain ⟨h1,h2⟩:=h.nil hn;exact .none hn h1 h2
 | one r hr p=>exact .one r hr p
theorem dT.fewA {w:World} {F:Nat→Prop} {sb db:Nat} {nm:ByteArray} {base ev:Int} {L:List cK} (h:dT w F sb db nm base ev L) (hf:∀ k∈L,Few k.b):∀ k∈L,oC k.b k.a k.cap:=fun k hk=>by
 obtain ⟨ib,v,D,FI,hx⟩:=h
 exact (hx.data k hk).fewA (hf k hk)
theorem aHp {w:World} {F:Nat→Prop} {lb db:Nat} {pre:ByteArray} {lim ev:Int} {Ss:List fO} {v:Value} {FS:Nat→Nat→Prop} (h:fJ w F lb db pre lim ev Ss v FS) (i:Nat) (hi:i<Ss.length) {L:List cK} (hs:dT w (FS i) Ss[i].sb db Ss[i].nm Ss[i].base ev L) (hl:gJ L Ss[i].Bs) (h0:0<Ss[i].Bs.length) (hk:aIr L) :
  Calls Tryz.prog 190 #[.pointer (some ⟨lb,0,none⟩),.int .i64 i] w fun e w'=>∃ u,e=.returned (.tuple #[u,.bool true])∧iY w Ss[i].Bs u w':=by
 have HR:Hid (Calls Tryz.prog 263 #[.pointer (some ⟨Ss[i].sb,0,none⟩),.int .i64 0,.int .i64 1099511627776] w fun e w'=>∃ u,e=.returned u∧iY w Ss[i].Bs u w'):=by
  have h1:=aBl hs (by rw [hl.len];exact h0) hk.len (hs.fewA hk.few) hk.span hk.size
  rw [hl.bs] at h1
  exact h1
 obtain ⟨a,c,rfl,hr⟩:=h.slice
 obtain ⟨g,rfl,hc⟩:=hr i hi
 obtain ⟨_,_,_,_,_,c5,lt⟩:=h.cells
 have i0:(0:Int)≤i:=aA
 have i1:(i:Int)<Ss.length:=aA
 have i2:¬ (Ss.length:Int)≤i:=aA
 have i3:decide ((Ss.length:Int)≤i)=false:=decide_eq_false i2
 have i4:¬ (i:Int)<0:=aA
 have i5:decide ((i:Int)<0)=false:=decide_eq_false i4
 clear h hs hl h0 hk hr
 unfold mM at hc
 generalize Ss[i].sb=sb at hc HR
 generalize Ss[i].Bs=Bs at HR ⊢
 go_enter Tryz.func190,Tryz.ntmps190
 go_wp2_with fail
 refine HR.out.mono ?_
 rintro e w1 ⟨u,rfl,hu⟩
 have HU:=Lib.hid hu
 clear hu
 go_wp2_with fail
 go_ret2
 exact ⟨u,rfl,HU.out⟩
theorem iY.one {w wr:World} {b:aR} {v:Value} (h:iY w [b] v wr):∃ g c a cap,v=.slice (some ⟨g,0,none⟩) 1 c∧dN (fun j=>w.heap.size≤j∧j<wr.heap.size) wr b a cap∧oC b a cap∧K0 w wr∧wr.cell? ⟨g,0,none⟩=some (.int .i64 b.base)∧wr.cell? ⟨g,1,none⟩=some (.int .i64 b.span)∧wr.cell? ⟨g,2,none⟩=some (.int .i64 b.prod)∧wr.cell? ⟨g,3,none⟩=some (.int .i64 b.epoch)∧
  wr.cell? ⟨g,4,none⟩=some (.int .i64 b.seq)∧wr.cell? ⟨g,5,none⟩=some (.slice a b.recs.length cap)∧w.heap.size≤g:=by
 obtain ⟨xs,D,hx⟩:=h
 match xs,hx with
 | [],hx=>exact absurd hx.bs aK
 | _::_::_,hx=>exact absurd hx.bs aK
 | [x],hx=>
  have hb:x.b=b:=by have:=hx.bs;simpa using this
  have hr:wr.ownsRow w.heap.size 39 6 v 1 ([x].flatMap qL):=hx.own
  rcases hr.2 with ⟨h1,h2⟩ | ⟨g,cap,cur,rfl,hg,_⟩
  ·cases h2
  ·have hd:=hx.data x (List.mem_singleton.2 rfl)
   rw [hb] at hd
   have c0:=hr.cellAt 0 aA
   have c1:=hr.cellAt 1 aA
   have c2:=hr.cellAt 2 aA
   have c3:=hr.cellAt 3 aA
   have c4:=hr.cellAt 4 aA
   have c5:=hr.cellAt 5 aA
   simp only [List.flatMap_cons,List.flatMap_nil,List.append_nil,qL,List.getElem?_cons_zero,List.getElem?_cons_succ,hb] at c0 c1 c2 c3 c4 c5
   exact ⟨g,cap,x.a,x.cap,rfl,hd.1.keep (S:=fun _=>False) (aD.refl _ _) (fun _ _ e=>e) (fun j e=>⟨(hx.dlt j e).1,(hx.dlt j e).2.1⟩),hd.2,hx.k0,c0,c1,c2,c3,c4,c5,(hr.lt g rfl).1⟩
theorem aN3 {w:World} {F:Nat→Prop} {lb db:Nat} {pre:ByteArray} {lim ev:Int} {s:fO} {v:Value} {FS:Nat→Nat→Prop} (h:fJ w F lb db pre lim ev [s] v FS) {b:aR} (hb:s.Bs=[b]) {L:List cK} (hs:dT w (FS 0) s.sb db s.nm s.base ev L) (hl:gJ L s.Bs) (hk:aIr L) (ho:dH b) (hst:bF w) :
  Calls Tryz.prog 219 #[.pointer (some ⟨lb,0,none⟩),.int .i64 0,.int .i64 0] w fun e w'=>∃ u,e=.returned (.tuple #[u,.int .i64 0])∧iY w [b] u w':=by
 have HR:Hid (∀ wx,K0 w wx→Calls Tryz.prog 263 #[.pointer (some ⟨s.sb,0,none⟩),.int .i64 0,.int .i64 1099511627776] wx fun e w'=>∃ u,e=.returned u∧iY wx [b] u w'):=fun wx k=>by
  have h1:=aBl (hs.k0 k) (by rw [hl.len,hb];exact Nat.one_pos) hk.len (hs.fewA hk.few) hk.span hk.size
  rw [hl.bs,hb] at h1
  exact h1
 have HEN:Hid (∀ wx,K0 w wx→Calls Tryz.prog 142 #[.pointer (some ⟨lb,0,none⟩)] wx fun e w'=>e=.returned (.int .i64 (b.base+b.span))∧K0 wx w'):=fun wx k=>by
  have h1:=mK (h.keep k (fun _ _ e=>e)) 0 rfl
  have e1:fL ([s][0]).base ([s][0]).Bs=b.base+b.span:=by show fL s.base s.Bs=_;rw [hb];rfl
  rw [e1] at h1
  exact h1
 have HENC:Hid (∀ D0 a cap wx,K0 w wx→gB D0 wx b a cap→Calls Tryz.prog 92 #[.agg #[.int .i64 b.base,.int .i64 b.span,.int .i64 b.prod,.int .i64 b.epoch,.int .i64 b.seq,.slice a b.recs.length cap]] wx fun e w'=>e=.returned (.tuple #[.string (aZ b),.int .i64 0])∧K0 wx w'):=fun D0 a cap wx k hq=>mE D0 b a cap wx hq ho (hst.keep0 k)
 obtain ⟨a0,c0,rfl,hr⟩:=h.slice
 obtain ⟨g0,rfl,hc⟩:=hr 0 aK
 obtain ⟨_,_,_,_,c4,c5,lt⟩:=h.cells
 have hc':w.cell? ⟨g0,0,none⟩=some (.pointer (some ⟨s.sb,0,none⟩)):=hc
 have hen:¬ b.base+b.span<0:=by have:=ho.base;have:=ho.span;omega
 have hen2:decide (b.base+b.span<0)=false:=decide_eq_false hen
 have hez:0<(aZ b).size∧(aZ b).size≤60008:=(by rw [dX];have:=ho.size;omega)
 obtain ⟨z1,z2⟩:=hez
 have z3:decide ((0:Int)<(aZ b).size)=true:=decide_eq_true aA
 have z4:(0:Int)<(aZ b).size:=aA
 have z5:IntKind.i64.wrap ((aZ b).size:Int)=(aZ b).size:=IntWalk.i64_in _ aA
 generalize s.sb=sb at HR hc'
 have HST:=Lib.hid hst
 have HL:Hid (([s]:List fO).length=1):=(rfl:([s]:List fO).length=1)
 rw [HL.out] at c5
 clear h hb hs hl hk ho hst hr hc HL
 go_enter Tryz.func219,Tryz.ntmps219
 go_wp2_with fail
 refine (HEN.out _ (by first | exact aD.refl _ _ | exact (aD.refl _ _).drew)).mono ?_
 rintro e w1 ⟨rfl,k1⟩
 have HK1:=Lib.hid k1
 have d5:=k1.cell' c5 (fun e=>e)
 have dc:=k1.cell' hc' (fun e=>e)
 have dl:lb<w1.heap.size:=Nat.lt_of_lt_of_le lt k1.size
 clear k1 c4 c5 hc' lt
 go_wp2_with fail
 refine wp_loop_rounds 2 ?_
 rw [rounds_succ]
 go_wp2_with fail
 refine (HR.out _ HK1.out).mono ?_
 rintro e w2 ⟨u,rfl,ho2⟩
 obtain ⟨g,c,a,cap,rfl,hbp,hfa,k2,q0,q1,q2,q3,q4,q5,hg⟩:=ho2.one
 have HBP:=Lib.hid hbp
 have HFA:=Lib.hid hfa
 have HK2:Hid (K0 w w2):=K0.tr HK1.out k2
 have HZ2:Hid (w.heap.size≤w1.heap.size∧w1.heap.size≤w2.heap.size):=⟨HK1.out.size,k2.size⟩
 clear ho2 hbp hfa k2 d5 dc dl hg
 go_wp2_with fail
 refine wp_loop_rounds 2 ?_
 rw [rounds_succ]
 go_wp2_with fail
 refine (HENC.out _ a cap _ (HK2.out.alloc _) (HBP.out.keep0 ((aD.refl _ _).alloc _)).at_).mono ?_
 rintro e w3 ⟨rfl,k3⟩
 have bq:w3.heap[w2.heap.size]?=some (.cells #[.int .i64 b.base,.int .i64 b.span,.int .i64 b.prod,.int .i64 b.epoch,.int .i64 b.seq,.slice a b.recs.length cap] 39 (0,0)):=(k3.block _ aK (fun e=>e)).trans (aI w2 _ _ rfl)
 have e0:w3.cell? ⟨w2.heap.size,0,none⟩=some (.int .i64 b.base):=aB bq 0
 have e1:w3.cell? ⟨w2.heap.size,1,none⟩=some (.int .i64 b.span):=aB bq 1
 have e2:w3.cell? ⟨w2.heap.size,2,none⟩=some (.int .i64 b.prod):=aB bq 2
 have e3:w3.cell? ⟨w2.heap.size,3,none⟩=some (.int .i64 b.epoch):=aB bq 3
 have e4:w3.cell? ⟨w2.heap.size,4,none⟩=some (.int .i64 b.seq):=aB bq 4
 have e5:w3.cell? ⟨w2.heap.size,5,none⟩=some (.slice a b.recs.length cap):=aB bq 5
 have K23:K0 w2 w3:=K0.tr ((aD.refl (fun _=>False) w2).alloc _) k3
 have HZ3:Hid (w2.heap.size≤w3.heap.size):=K23.size
 have HX:Hid (vS w [] (.slice none 0 0) w [] (fun _=>False)):=vS.zero w
 have HAP:Hid (∀ o g5 c5 w5,pL (w3.alloc o) w.heap.size 39 6 (.slice none 0 0) 0 ([]++[.int .i64 b.base,.int .i64 b.span,.int .i64 b.prod,.int .i64 b.epoch,.int .i64 b.seq,.slice a b.recs.length cap]) g5 c5 w5→iY w [b] (.slice (some ⟨g5,0,none⟩) (0+1) c5) w5):=fun o g5 c5 w5 hA=>by
  refine ⟨_,_,HX.out.app (x:=⟨b,a,cap⟩) (wx:=w3) (K0.tr HK2.out K23) ((HBP.out.keep0 K23).keep (S:=fun _=>False) (aD.refl _ _) (fun _ _ e=>e) (fun j e=>?_)) HFA.out ((aD.refl (fun _=>False) w3).alloc o) hA⟩
  have:=HZ2.out
  have:=HZ3.out
  exact ⟨by omega,by omega⟩
 clear bq k3 K23 q0 q1 q2 q3 q4 q5 HENC HR HEN
 go_wp2_with (at_builtin;refine bW (v:=.slice none 0 0) (n:=0) (xs:=[]) rfl rfl Tryz.underlying30 uR rfl aE rfl (World.ownsRow_nil _ w.heap.size _ _) rfl (aI _ _ _ rfl) rfl rfl ⟨by decide,by decide⟩ (by have:=HZ2.out;have:=HZ3.out;simp;omega) ?_;intro g5 c5 w5 hA5;have HFIN:=Lib.hid (HAP.out _ _ _ _ hA5);clear hA5)
 rw [rounds_succ]
 go_wp2_with fail
 rw [rounds_succ]
 go_wp2_with fail
 go_ret2
 exact ⟨_,rfl,HFIN.out⟩
structure rV (w:World) (tb mb:Nat) (room:Int):Prop where
 blk:w.heap[tb]?=some (.cells #[.int .i64 room,.map (some mb)] 274 (0,0))
 mp:w.heap[mb]?=some (.map #[] 0)
theorem rV.keep {w w':World} {tb mb:Nat} {room:Int} {S:Nat→Prop} (h:rV w tb mb room) (k:aD S w w') (h1:¬ S tb) (h2:¬ S mb):rV w' tb mb room:=
 ⟨(k.block _ (aC h.blk) h1).trans h.blk,(k.block _ (aC h.mp) h2).trans h.mp⟩
theorem rP (room:Int) (hr:1≤room∧room≤10000) (w:World):Calls Tryz.prog 85 #[.int .i64 room] w fun e w'=>∃ tb mb,e=.returned (.tuple #[.pointer (some ⟨tb,0,none⟩),.int .i64 0])∧rV w' tb mb room∧w.heap.size≤tb∧w.heap.size≤mb∧K0 w w':=by
 obtain ⟨h1,h2⟩:=hr
 have j1:¬ room<1:=aA
 have j2:¬ (10000:Int)<room:=aA
 have j3:decide (room<1)=false:=decide_eq_false j1
 have j4:decide ((10000:Int)<room)=false:=decide_eq_false j2
 have hmm:=@run_makeMap Tryz.prog
 go_enter Tryz.func85,Tryz.ntmps85
 go_wp2
 go_ret2
 exact ⟨_,rfl,w.heap.size,⟨aI _ _ _ aK,aL (aI w _ _ rfl) _⟩,by simp,Nat.le_refl _,((aD.refl _ _).alloc _).alloc _⟩
end Go.Proofs.YteapahcklcldkaaGreatDoor
namespace Go.Proofs.YteapahcklcldkaaGreatDoor.Tpc
open Go.RowKit Fx
structure gG where
 next:Int
 all:List (ByteArray×(Int×Int))
def gG.vals (l:List (ByteArray×(Int×Int))):List (ByteArray×Value):=l.map fun p=>(p.1,.agg #[.int .i64 p.2.1,.int .i64 p.2.2])
theorem rD (l:List (ByteArray×(Int×Int))) (s:ByteArray):aQ (gG.vals l) s=(aQ l s).map fun p=>.agg #[.int .i64 p.1,.int .i64 p.2]:=by
 induction l with
 | nil=>rfl
 | cons p l ih=>
  obtain ⟨k,x,y⟩:=p
  simp only [gG.vals,List.map_cons,aQ] at ih ⊢
  by_cases h:k=s
  ·simp [h]
  ·exact (by simp only [h,if_false];exact ih)
theorem aCo (l:List (ByteArray×(Int×Int))) (s:ByteArray) (x y:Int):bD (gG.vals l) s (.agg #[.int .i64 x,.int .i64 y])=gG.vals (bD l s (x,y)):=by
 induction l with
 | nil=>rfl
 | cons p l ih=>
  obtain ⟨k,u,v⟩:=p
  simp only [gG.vals,List.map_cons,bD] at ih ⊢
  by_cases h:k=s
  ·simp [h]
  ·exact (by simp only [h,if_false,List.map_cons];rw [ih])
structure cP (w:World) (b m:Nat) (t:gG):Prop where
 ne:b≠m
 rcd:w.heap[b]?=some (.cells #[.int .i64 t.next,.map (some m)] 182 (0,0))
 map:bM .string w m (gG.vals t.all)
theorem cP.lt {w:World} {b m:Nat} {t:gG} (h:cP w b m t):b<w.heap.size:=(Array.getElem?_eq_some_iff.1 h.rcd).1
theorem cP.cell0 {w:World} {b m:Nat} {t:gG} (h:cP w b m t):w.cell? ⟨b,0,none⟩=some (.int .i64 t.next):=by simp [World.cell?,h.rcd]
theorem cP.cell1 {w:World} {b m:Nat} {t:gG} (h:cP w b m t):w.cell? ⟨b,1,none⟩=some (.map (some m)):=by simp [World.cell?,h.rcd]
theorem cP.free {w:World} {b m:Nat} {t:gG} (h:cP w b m t) (i:Nat):w.frozen? ⟨b,i,none⟩=false:=by simp [World.frozen?,h.rcd]
def aW7 (b m:Nat) (k:Nat):Prop:=k=b∨k=m
theorem cP.keep {w w':World} {b m:Nat} {t:gG} {S:Nat→Prop} (h:cP w b m t) (hk:aD S w w') (hb:¬ S b) (hm:¬ S m):cP w' b m t:=
 ⟨h.ne,(hk.block b h.lt hb).trans h.rcd,h.map.keep hk hm⟩
theorem aT1 (w:World) :
  Calls Tryz.prog 33 #[] w fun e w'=>e=.returned (.pointer (some ⟨w.heap.size+1,0,none⟩))∧w'=(w.alloc (.map #[] 0)).alloc (.cells #[.int .i64 0,.map (some w.heap.size)] 182):=by
 have hmm:=@run_makeMap Tryz.prog
 go_enter Tryz.func33,Tryz.ntmps33
 go_wp2
 go_ret
 exact ⟨rfl,rfl⟩
def aK6 (w:World) (e:Ending) (w':World):Prop:=
 e=.returned (.pointer (some ⟨w.heap.size+1,0,none⟩))∧cP w' (w.heap.size+1) w.heap.size ⟨0,[]⟩∧aD (fun _=>False) w w'∧w'.heap.size=w.heap.size+2
theorem wJ (w:World):Calls Tryz.prog 33 #[] w (aK6 w):=by
 refine (aT1 w).mono ?_
 rintro e w' ⟨rfl,rfl⟩
 refine ⟨rfl,⟨by omega,?_,?_⟩,((aD.refl _ _).alloc _).alloc _,by simp⟩
 ·have:w.heap.size+1=(w.alloc (.map #[] 0)).heap.size:=by simp
  rw [this];exact (MapKept.heap_alloc _ _).1
 ·exact (kF w).of_block (Below.heap_alloc _ _ _ aK)
theorem pD (w:World):(zeroValue 193).run Tryz.prog w=.ok (.agg #[.int .i64 0,.int .i64 0]) w:=by kernel_rfl
def gG.find (t:gG) (s:ByteArray):Int×Int×Int:=match aQ t.all s with
 | none=>(0,0,6)
 | some p=>(p.1,p.2,0)
def fH (w:World) (e:Ending) (v:Value) (w':World):Prop:=e=.returned v∧aD (fun _=>False) w w'
theorem aEe (b m:Nat) (t:gG) (s:ByteArray) (w:World) (h:cP w b m t) :
  Calls Tryz.prog 87 #[.pointer (some ⟨b,0,none⟩),.string s] w fun e w'=>fH w e (.tuple #[.int .i64 (t.find s).1,.int .i64 (t.find s).2.1,.int .i64 (t.find s).2.2]) w':=by
 have h1:=h.cell1
 have hm:=h.map
 have hv:=rD t.all s
 unfold gG.find
 generalize gG.vals t.all=L at hm hv
 cases hg:aQ t.all s with
 | none=>
  rw [hg] at hv
  have HV:=Lib.hid hv
  clear hv hg h
  go_enter Tryz.func87,Tryz.ntmps87
  go_wp2_with (at_lookup;refine cI (eG Tryz.underlying9) rfl rfl Tryz.underlying180 pD rfl s rfl hm _ HV.out ?_)
  go_ret3
  exact ⟨rfl,(aD.refl _ _).alloc _⟩
 | some p=>
  obtain ⟨x,y⟩:=p
  rw [hg] at hv
  have HV:=Lib.hid hv
  clear hv hg h
  go_enter Tryz.func87,Tryz.ntmps87
  go_wp2_with (at_lookup;refine cI (eG Tryz.underlying9) rfl rfl Tryz.underlying180 pD rfl s rfl hm _ HV.out ?_)
  go_quiet (fail)
  go_wp2
  go_ret3
  exact ⟨rfl,((aD.refl _ _).alloc _).drewN _⟩
def aW8 (w:World) (b m:Nat) (e:Ending) (v:Value) (t':gG) (w':World):Prop:=e=.returned v∧cP w' b m t'∧aD (aW7 b m) w w'
def gG.create (t:gG) (s:ByteArray) (p:Int):Int×Int×gG:=
 if s.size=0∨100<s.size∨p<1∨16<p then (0,1,t)
 else match aQ t.all s with
  | some _=>(0,14,t)
  | none=>if 20≤t.all.length∨1073741824≤t.next then (0,5,t) else (t.next,0,⟨t.next+1,bD t.all s (t.next,p)⟩)
theorem aCz (s:ByteArray):s.toList=[]↔s.size=0:=by
 rw [ByteArray.toList_eq]
 show s.data.toList=[]↔s.data.size=0
 rw [← List.length_eq_zero_iff,Array.length_toList]
theorem aJg (b:Nat) (s:ByteArray) (p:Int) (w:World) (h:s.size=0∨100<s.size∨p<1∨16<p) :
  Calls Tryz.prog 88 #[.pointer (some ⟨b,0,none⟩),.string s,.int .i64 p] w fun e w'=>e=.returned (.tuple #[.int .i64 0,.int .i64 1])∧w=w':=by
 have hs:=aCz s
 by_cases h0:s.size=0
 ·have h1:s.toList.isEmpty=true:=by rw [List.isEmpty_iff];exact hs.2 h0
  clear h hs h0
  go_enter Tryz.func88,Tryz.ntmps88
  go_wp2
  go_ret2
  exact ⟨rfl,rfl⟩
 ·have h1:s.toList.isEmpty=false:=by
   cases hq:s.toList.isEmpty
   ·rfl
   ·exact absurd (hs.1 (List.isEmpty_iff.1 hq)) h0
  by_cases h2:100<s.size
  ·clear h hs h0
   go_enter Tryz.func88,Tryz.ntmps88
   go_wp2
   go_ret2
   exact ⟨rfl,rfl⟩
  ·by_cases h3:p<1
   ·clear h hs h0
    go_enter Tryz.func88,Tryz.ntmps88
    go_wp2
    go_ret2
    exact ⟨rfl,rfl⟩
   ·have h4:16<p:=by omega
    clear h hs h0
    go_enter Tryz.func88,Tryz.ntmps88
    go_wp2
    go_ret2
    exact ⟨rfl,rfl⟩
theorem aD8 (b m:Nat) (s:ByteArray) (p:Int) (w:World) (L:List (ByteArray×Value)) (h0:s.toList.isEmpty=false) (h2:s.size≤100) (h3:1≤p) (h4:p≤16)
  (h1:w.cell? ⟨b,1,none⟩=some (.map (some m))) (hm:bM .string w m L) (x y:Int) (hv:Hid (aQ L s=some (.agg #[.int .i64 x,.int .i64 y]))) :
  Calls Tryz.prog 88 #[.pointer (some ⟨b,0,none⟩),.string s,.int .i64 p] w fun e w'=>e=.returned (.tuple #[.int .i64 0,.int .i64 14])∧aD (fun _=>False) w w':=by
 go_enter Tryz.func88,Tryz.ntmps88
 go_wp2_with (at_lookup;refine cI (eG Tryz.underlying9) rfl rfl Tryz.underlying180 pD rfl s rfl hm _ hv.out ?_)
 go_ret2
 exact ⟨rfl,(aD.refl _ _).alloc _⟩
theorem aGo (b m:Nat) (s:ByteArray) (p:Int) (nx:Int) (w:World) (L:List (ByteArray×Value)) (h0:s.toList.isEmpty=false) (h2:s.size≤100) (h3:1≤p) (h4:p≤16)
  (c0:w.cell? ⟨b,0,none⟩=some (.int .i64 nx)) (h1:w.cell? ⟨b,1,none⟩=some (.map (some m))) (hm:bM .string w m L) (hv:Hid (aQ L s=none)) (hb:b<w.heap.size) (hf:20≤L.length∨1073741824≤nx) :
  Calls Tryz.prog 88 #[.pointer (some ⟨b,0,none⟩),.string s,.int .i64 p] w fun e w'=>e=.returned (.tuple #[.int .i64 0,.int .i64 5])∧aD (fun _=>False) w w':=by
 have hM1:=fun o=>hm.of_block (Below.heap_alloc w o m hm.lt)
 by_cases h5:20≤L.length
 ·clear hf
  go_enter Tryz.func88,Tryz.ntmps88
  go_wp2_with (first | (at_lookup;refine cI (eG Tryz.underlying9) rfl rfl Tryz.underlying180 pD rfl s rfl hm _ hv.out ?_) | (at_len;refine tR rfl rfl Tryz.underlying180 rfl (hM1 _) ?_))
  go_ret2
  exact ⟨rfl,(aD.refl _ _).alloc _⟩
 ·have h6:1073741824≤nx:=by omega
  clear hf
  go_enter Tryz.func88,Tryz.ntmps88
  go_wp2_with (first | (at_lookup;refine cI (eG Tryz.underlying9) rfl rfl Tryz.underlying180 pD rfl s rfl hm _ hv.out ?_) | (at_len;refine tR rfl rfl Tryz.underlying180 rfl (hM1 _) ?_))
  go_ret2
  exact ⟨rfl,(aD.refl _ _).alloc _⟩
theorem aJh (b m:Nat) (s:ByteArray) (p:Int) (nx:Int) (w:World) (L:List (ByteArray×Value)) (h0:s.toList.isEmpty=false) (h2:s.size≤100) (h3:1≤p) (h4:p≤16) (hne:b≠m) (hb:b<w.heap.size)
  (c0:w.cell? ⟨b,0,none⟩=some (.int .i64 nx)) (h1:w.cell? ⟨b,1,none⟩=some (.map (some m))) (f0:w.frozen? ⟨b,0,none⟩=false) (hm:bM .string w m L) (hv:Hid (aQ L s=none)) (h5:L.length<20) (hn:0≤nx) (h6:nx<1073741824) :
  Calls Tryz.prog 88 #[.pointer (some ⟨b,0,none⟩),.string s,.int .i64 p] w fun e w'=>e=.returned (.tuple #[.int .i64 nx,.int .i64 0])∧∃ o ob,bM .string (aO (w.alloc o) m ob) m (bD L s (.agg #[.int .i64 nx,.int .i64 p]))∧w'=(aO (w.alloc o) m ob).setCell ⟨b,0,none⟩ (.int .i64 (nx+1)):=by
 have hM1:=fun o=>hm.of_block (Below.heap_alloc w o m hm.lt)
 go_enter Tryz.func88,Tryz.ntmps88
 go_wp2_with (first | (at_lookup;refine cI (eG Tryz.underlying9) rfl rfl Tryz.underlying180 pD rfl s rfl hm _ hv.out ?_) | (at_len;refine tR rfl rfl Tryz.underlying180 rfl (hM1 _) ?_) | (at_mapUpdate;refine mN (eG Tryz.underlying9) rfl rfl Tryz.underlying180 rfl s rfl (hM1 _) _ rfl ?_;intro ob hM2))
 go_ret2
 exact ⟨rfl,_,_,by assumption,rfl⟩
theorem aM2 (b m:Nat) (t:gG) (s:ByteArray) (p:Int) (w:World) (h:cP w b m t) (hn:0≤t.next) :
  Calls Tryz.prog 88 #[.pointer (some ⟨b,0,none⟩),.string s,.int .i64 p] w fun e w'=>
   aW8 w b m e (.tuple #[.int .i64 (t.create s p).1,.int .i64 (t.create s p).2.1]) (t.create s p).2.2 w':=by
 have hsame:∀ {w':World},aD (fun _=>False) w w'→cP w' b m t∧aD (aW7 b m) w w':=fun hk=>⟨h.keep hk aK aK,hk.mono aK⟩
 unfold gG.create
 split
 ·rename_i h1
  refine (aJg b s p w h1).mono ?_
  rintro e w' ⟨rfl,rfl⟩
  exact ⟨rfl,hsame (aD.refl _ _)⟩
 ·rename_i h1
  have h0:s.toList.isEmpty=false:=by
   cases hq:s.toList.isEmpty
   ·rfl
   ·exact absurd (.inl ((aCz s).1 (List.isEmpty_iff.1 hq))) h1
  have h2:s.size≤100:=aA
  have h3:1≤p:=aA
  have h4:p≤16:=aA
  have hv:=rD t.all s
  cases hg:aQ t.all s with
  | some q=>
   rw [hg] at hv
   refine (aD8 b m s p w _ h0 h2 h3 h4 h.cell1 h.map q.1 q.2 hv).mono ?_
   rintro e w' ⟨rfl,hk⟩
   exact ⟨rfl,hsame hk⟩
  | none=>
   rw [hg] at hv
   have hl:(gG.vals t.all).length=t.all.length:=by simp [gG.vals]
   dsimp only
   split
   ·rename_i h5
    refine (aGo b m s p t.next w _ h0 h2 h3 h4 h.cell0 h.cell1 h.map hv h.lt (by rw [hl];exact h5)).mono ?_
    rintro e w' ⟨rfl,hk⟩
    exact ⟨rfl,hsame hk⟩
   ·rename_i h5
    refine (aJh b m s p t.next w _ h0 h2 h3 h4 h.ne h.lt h.cell0 h.cell1 (h.free 0) h.map hv (by rw [hl];omega) hn aA).mono ?_
    rintro e w' ⟨rfl,o,ob,hM,rfl⟩
    refine ⟨rfl,⟨h.ne,?_,?_⟩,?_⟩
    ·have e1:(aO (w.alloc o) m ob).heap[b]?=some (.cells #[.int .i64 t.next,.map (some m)] 182 (0,0)):=
      (cT _ ob h.ne).trans ((Below.heap_alloc w o b h.lt).trans h.rcd)
     exact aM e1 0 _
    ·rw [← aCo]
     exact hM.of_block (Below.heap_setCell _ _ _ _ (fun e=>h.ne e.symm))
    ·exact (((aD.refl _ _).alloc _).setObj (fun _=>.inr rfl) _).setCell (fun _=>.inl rfl) _
structure qE (w:World) (b:Nat) (s:ByteArray) (i e:Int):Prop where
 rcd:w.heap[b]?=some (.cells #[.string s,.int .i64 i,.int .i64 e] 413 (0,0))
theorem qE.lt {w:World} {b:Nat} {s:ByteArray} {i e:Int} (h:qE w b s i e):b<w.heap.size:=(Array.getElem?_eq_some_iff.1 h.rcd).1
theorem qE.cell0 {w:World} {b:Nat} {s:ByteArray} {i e:Int} (h:qE w b s i e):w.cell? ⟨b,0,none⟩=some (.string s):=by simp [World.cell?,h.rcd]
theorem qE.cell1 {w:World} {b:Nat} {s:ByteArray} {i e:Int} (h:qE w b s i e):w.cell? ⟨b,1,none⟩=some (.int .i64 i):=by simp [World.cell?,h.rcd]
theorem qE.free {w:World} {b:Nat} {s:ByteArray} {i e:Int} (h:qE w b s i e) (j:Nat):w.frozen? ⟨b,j,none⟩=false:=by simp [World.frozen?,h.rcd]
theorem qE.keep {w w':World} {b:Nat} {s:ByteArray} {i e:Int} {S:Nat→Prop} (h:qE w b s i e) (hk:aD S w w') (hb:¬ S b):qE w' b s i e:=⟨(hk.block b h.lt hb).trans h.rcd⟩
end Go.Proofs.YteapahcklcldkaaGreatDoor.Tpc
