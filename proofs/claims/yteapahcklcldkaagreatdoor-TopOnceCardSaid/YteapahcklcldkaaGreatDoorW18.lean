/-
  The statement is proved: all that it reaches, in parts.
-/
import Derived.Test.YteapahcklcldkaaGreatDoorW03
import Derived.Test.YteapahcklcldkaaGreatDoorRows
import Derived.WalkSpells
import Derived.WalkLawsBesides
import Derived.Deep.QuietTactic
import Derived.BigQuiet
import Derived.Outline
import Derived.Lib.Hide
set_option maxRecDepth 100000
set_option maxHeartbeats 16000000
namespace Go.Proofs.YteapahcklcldkaaGreatDoor.Dsk
open Go.RowKit Fx
def fH (w:World) (e:Ending) (v:Value) (w':World):Prop:=e=.returned v∧aD (fun _=>False) w w'
structure cN where
 bytes:ByteArray
 safe:Int
structure aS where
 room:Int
 used:Int
 fuse:Int
 files:List (ByteArray×cN)
def mH (p:Nat×cN):Value:=.pointer (some ⟨p.1,0,none⟩)
structure iC (w0:iW) (w:World) (db:Nat) (D:aS) (mb:Nat) (L:List (ByteArray×(Nat×cN))):Prop where
 k0:aD (fun k=>¬ w0.O k) w0.w w
 blk:w.heap[db]?=some (.cells #[.int .i64 D.room,.int .i64 D.used,.int .i64 D.fuse,.map (some mb)] 139 (0,0))
 core:amap (·.2) L=D.files
 map:bM .string w mb (dM mH L)
 fil:∀ s p,aQ L s=some p→w.heap[p.1]?=some (.cells #[.string p.2.bytes,.int .i64 p.2.safe] 167 (0,0))
 apart:∀ s t p q,aQ L s=some p→aQ L t=some q→s≠t→p.1≠q.1
 ne:db≠mb
 new:w0.out db∧w0.out mb
 fnew:∀ s p,aQ L s=some p→w0.out p.1∧p.1≠db∧p.1≠mb
 keys:KD L
def DSt (w0:iW) (w:World) (db:Nat) (D:aS):Prop:=∃ mb L,iC w0 w db D mb L
section
variable {w0:iW} {w w':World} {db mb:Nat} {D:aS} {L:List (ByteArray×(Nat×cN))}
theorem iC.keep (h:iC w0 w db D mb L) (hk:K0 w w'):iC w0 w' db D mb L:=
 ⟨h.k0.trans hk (fun _ _ e=>e.elim),(hk.block db (aC h.blk) (fun e=>e)).trans h.blk,h.core,h.map.keep hk (fun e=>e),fun s p e=>(hk.block _ (aC (h.fil s p e)) (fun e=>e)).trans (h.fil s p e),h.apart,h.ne,h.new,h.fnew,h.keys⟩
theorem DSt.keep (h:DSt w0 w db D) (hk:K0 w w'):DSt w0 w' db D:=by
 obtain ⟨mb,L,h⟩:=h
 exact ⟨mb,L,h.keep hk⟩
theorem DSt.k0 (h:DSt w0 w db D):aD (fun k=>¬ w0.O k) w0.w w:=by
 obtain ⟨_,_,h⟩:=h
 exact h.k0
theorem iC.agetL (h:iC w0 w db D mb L) (s:ByteArray):aQ D.files s=(aQ L s).map (·.2):=by rw [← h.core,aCk]
theorem iC.some (h:iC w0 w db D mb L) {s:ByteArray} {x:cN} (e:aQ D.files s=Option.some x):∃ b,aQ L s=Option.some (b,x):=by
 rw [h.agetL] at e
 cases h1:aQ L s with
 | none=>rw [h1] at e;cases e
 | some p=>
  rw [h1] at e
  obtain ⟨b,x1⟩:=p
  cases e
  exact ⟨b,rfl⟩
theorem iC.none (h:iC w0 w db D mb L) {s:ByteArray} (e:aQ D.files s=Option.none):aQ L s=Option.none:=by
 rw [h.agetL] at e
 cases h1:aQ L s with
 | none=>rfl
 | some p=>rw [h1] at e;cases e
theorem aMl {s:ByteArray} {b:Nat} {x:cN} (h:aQ L s=Option.some (b,x)) (x':cN):dM mH (bD L s (b,x'))=dM mH L:=by
 induction L with
 | nil=>simp [aQ] at h
 | cons p L ih=>
  obtain ⟨k,u⟩:=p
  simp only [aQ] at h
  by_cases hk:k=s
  ·rw [if_pos hk] at h
   cases h
   simp [dM,bD,hk,mH]
  ·rw [if_neg hk] at h
   have:=ih h
   simp only [dM,bD,if_neg hk,List.map_cons] at this ⊢
   rw [this]
theorem iC.own (h:iC w0 w db D mb L) (hk:aD (fun k=>k=db) w w') {r u f:Int} (hb:w'.heap[db]?=Option.some (.cells #[.int .i64 r,.int .i64 u,.int .i64 f,.map (Option.some mb)] 139 (0,0))):iC w0 w' db ⟨r,u,f,D.files⟩ mb L:=
 ⟨h.k0.trans hk (fun k kl e o=>by subst e;exact h.new.1 ⟨kl,o⟩),hb,h.core,h.map.keep hk (fun e=>h.ne e.symm),fun s p e=>(hk.block _ (aC (h.fil s p e)) (h.fnew s p e).2.1).trans (h.fil s p e),h.apart,h.ne,h.new,h.fnew,h.keys⟩
theorem iC.set (h:iC w0 w db D mb L) {s:ByteArray} {b:Nat} {x x':cN} (e:aQ L s=Option.some (b,x)) (hk:aD (fun k=>k=b∨k=db) w w') {r u f:Int}
  (hb:w'.heap[db]?=Option.some (.cells #[.int .i64 r,.int .i64 u,.int .i64 f,.map (Option.some mb)] 139 (0,0)))
  (hf:w'.heap[b]?=Option.some (.cells #[.string x'.bytes,.int .i64 x'.safe] 167 (0,0))):iC w0 w' db ⟨r,u,f,bD D.files s x'⟩ mb (bD L s (b,x')):=by
 have hn:=h.fnew s _ e
 refine ⟨h.k0.trans hk (fun k kl e2 o=>by rcases e2 with rfl | rfl;exact hn.1 ⟨kl,o⟩;exact h.new.1 ⟨kl,o⟩),hb,?_,?_,fun t p e2=>?_,fun t1 t2 p q e1 e2 hne=>?_,h.ne,h.new,fun t p e2=>?_,h.keys.put _ _⟩
 ·rw [← nN (fun p:Nat×cN=>p.2) L s (b,x'),h.core]
 ·rw [aMl e]
  exact h.map.keep hk (fun e2=>e2.elim hn.2.2.symm h.ne.symm)
 ·rw [bX] at e2
  split at e2
  ·cases e2;exact hf
  ·rename_i hst
   exact (hk.block _ (aC (h.fil t p e2)) (fun e3=>e3.elim (fun e4=>h.apart s t _ _ e e2 hst e4.symm) (h.fnew t p e2).2.1)).trans (h.fil t p e2)
 ·rw [bX] at e1 e2
  split at e1
  ·split at e2
   ·exact cG
   ·rename_i h1 h2
    cases e1
    exact h.apart s t2 (b,x) _ e e2 h2
  ·split at e2
   ·rename_i h1 h2
    cases e2
    exact h.apart t1 s _ (b,x) e1 e (Ne.symm h1)
   ·exact h.apart t1 t2 _ _ e1 e2 hne
 ·rw [bX] at e2
  split at e2
  ·cases e2;exact hn
  ·exact h.fnew t p e2
theorem iC.remap (h:iC w0 w db D mb L) (hk:aD (fun k=>k=mb) w w') {L':List (ByteArray×(Nat×cN))} (hm:bM .string w' mb (dM mH L')) (hd:KD L') (hin:∀ s p,aQ L' s=Option.some p→∃ t,aQ L t=Option.some p)
  (ha:∀ s t p q,aQ L' s=Option.some p→aQ L' t=Option.some q→s≠t→p.1≠q.1):iC w0 w' db ⟨D.room,D.used,D.fuse,amap (·.2) L'⟩ mb L':=
 ⟨h.k0.trans hk (fun k kl e o=>by subst e;exact h.new.2 ⟨kl,o⟩),(hk.block _ (aC h.blk) h.ne).trans h.blk,rfl,hm,fun s p e=>by
  obtain ⟨t,e2⟩:=hin s p e
  exact (hk.block _ (aC (h.fil t p e2)) (h.fnew t p e2).2.2).trans (h.fil t p e2),ha,h.ne,h.new,fun s p e=>by
  obtain ⟨t,e2⟩:=hin s p e
  exact h.fnew t p e2,hd⟩
theorem iC.del (h:iC w0 w db D mb L) (hk:aD (fun k=>k=mb) w w') (s:ByteArray) (hm:bM .string w' mb (dQ (dM mH L) s)):iC w0 w' db ⟨D.room,D.used,D.fuse,dQ D.files s⟩ mb (dQ L s):=by
 have:=h.remap hk (L':=dQ L s) (by rw [← zV];exact hm) (h.keys.del s) (fun t p e=>⟨t,by
  rw [kB h.keys] at e
  split at e
  ·cases e
  ·exact e⟩) (fun t1 t2 p q e1 e2 hne=>by
  rw [kB h.keys] at e1 e2
  split at e1
  ·cases e1
  ·split at e2
   ·cases e2
   ·exact h.apart t1 t2 p q e1 e2 hne)
 rw [← aCj,h.core] at this
 exact this
theorem iC.move (h:iC w0 w db D mb L) (hk:aD (fun k=>k=mb) w w') {s:ByteArray} {b:Nat} {x:cN} (e:aQ L s=Option.some (b,x)) (t:ByteArray) (hm:bM .string w' mb (bD (dQ (dM mH L) s) t (mH (b,x)))) :
  iC w0 w' db ⟨D.room,D.used,D.fuse,bD (dQ D.files s) t x⟩ mb (bD (dQ L s) t (b,x)):=by
 have hag:∀ u p,aQ (bD (dQ L s) t (b,x)) u=Option.some p→(u=t∧p=(b,x))∨(u≠s∧u≠t∧aQ L u=Option.some p):=fun u p e1=>by
  rw [bX,kB h.keys] at e1
  split at e1
  ·rename_i h1;cases e1;exact .inl ⟨h1.symm,rfl⟩
  ·split at e1
   ·cases e1
   ·rename_i h1 h2
    exact .inr ⟨Ne.symm h2,Ne.symm h1,e1⟩
 have:=h.remap hk (L':=bD (dQ L s) t (b,x)) (by rw [← sK,← zV];exact hm) ((h.keys.del s).put _ _) (fun u p e1=>by
  rcases hag u p e1 with ⟨_,rfl⟩ | ⟨_,_,e2⟩
  ·exact ⟨s,e⟩
  ·exact ⟨u,e2⟩) (fun u1 u2 p q e1 e2 hne=>by
  rcases hag u1 p e1 with ⟨h1,rfl⟩ | ⟨h1,h1',e1'⟩
  ·rcases hag u2 q e2 with ⟨h2,rfl⟩ | ⟨h2,_,e2'⟩
   ·exact absurd (h1.trans h2.symm) hne
   ·exact h.apart s u2 _ _ e e2' (Ne.symm h2)
  ·rcases hag u2 q e2 with ⟨h2,rfl⟩ | ⟨h2,_,e2'⟩
   ·exact h.apart u1 s _ _ e1' e h1
   ·exact h.apart u1 u2 _ _ e1' e2' hne)
 rw [← nN (fun p:Nat×cN=>p.2) (dQ L s) t (b,x),← aCj,h.core] at this
 exact this
theorem iC.add (h:iC w0 w db D mb L) {w1:World} {s:ByteArray} {b:Nat} {x:cN} (_e:aQ L s=Option.none) (hk:K0 w w1) (hb:w.heap.size≤b) (hf:w1.heap[b]?=Option.some (.cells #[.string x.bytes,.int .i64 x.safe] 167 (0,0)))
  {o:Obj} (hm:bM .string (aO w1 mb o) mb (bD (dM mH L) s (mH (b,x)))):iC w0 (aO w1 mb o) db ⟨D.room,D.used,D.fuse,bD D.files s x⟩ mb (bD L s (b,x)):=by
 have hp:aD (fun k=>k=mb) w (aO w1 mb o):=aD.setObj (S:=fun k=>k=mb) (hk.mono (fun _ _ e=>absurd e id)) (fun _=>rfl) _
 have h1:=aC h.blk
 have h2:=h.map.lt
 have h3:=h.k0.size
 have hlt:∀ t p,aQ L t=Option.some p→p.1<w.heap.size:=fun t p e=>aC (h.fil t p e)
 refine ⟨h.k0.trans hp (fun k kl e o=>by subst e;exact h.new.2 ⟨kl,o⟩),(hp.block _ h1 h.ne).trans h.blk,?_,?_,fun t p e2=>?_,fun t1 t2 p q e1 e2 hne=>?_,h.ne,h.new,fun t p e2=>?_,h.keys.put _ _⟩
 ·rw [← nN (fun p:Nat×cN=>p.2) L s (b,x),h.core]
 ·rw [← sK]
  exact hm
 ·rw [bX] at e2
  split at e2
  ·cases e2
   exact (cT _ _ (by show b≠mb;omega)).trans hf
  ·exact (hp.block _ (hlt t p e2) (h.fnew t p e2).2.2).trans (h.fil t p e2)
 ·rw [bX] at e1 e2
  split at e1
  ·split at e2
   ·exact cG
   ·cases e1
    have:=hlt t2 q e2
    show b≠q.1
    omega
  ·split at e2
   ·cases e2
    have:=hlt t1 p e1
    show p.1≠b
    omega
   ·exact h.apart t1 t2 _ _ e1 e2 hne
 ·rw [bX] at e2
  split at e2
  ·cases e2
   exact ⟨fun q=>by have:=q.1;dsimp only at this;omega,by show b≠db;omega,by show b≠mb;omega⟩
  ·exact h.fnew t p e2
def inD (db mb:Nat) (L:List (ByteArray×(Nat×cN))) (k:Nat):Prop:=k=db∨k=mb∨∃ s p,aQ L s=some p∧p.1=k
theorem iC.lt (h:iC w0 w db D mb L):∀ k,inD db mb L k→k<w.heap.size:=fun k e=>by
 rcases e with rfl | rfl | ⟨s,p,e,rfl⟩
 ·exact aC h.blk
 ·exact h.map.lt
 ·exact aC (h.fil s p e)
theorem iC.base (h:iC w0 w db D mb L):iC ⟨w,fun k=>¬ inD db mb L k⟩ w db D mb L:=
 ⟨aD.refl _ _,h.blk,h.core,h.map,h.fil,h.apart,h.ne,⟨fun q=>q.2 (.inl rfl),fun q=>q.2 (.inr (.inl rfl))⟩,fun s p e=>⟨fun q=>q.2 (.inr (.inr ⟨s,p,e,rfl⟩)),(h.fnew s p e).2⟩,h.keys⟩
theorem iC.inD_out (h:iC w0 w db D mb L):∀ k,inD db mb L k→w0.out k:=fun k e=>by
 rcases e with rfl | rfl | ⟨s,p,e,rfl⟩
 ·exact h.new.1
 ·exact h.new.2
 ·exact (h.fnew s p e).1
end
def aIz (D:aS):Int:=if D.fuse=0 then 7 else 0
def burn (D:aS):aS:=⟨D.room,D.used,if 0<D.fuse then D.fuse - 1 else D.fuse,D.files⟩
def gF (s:ByteArray):Bool:=decide (s.size≠0)&&decide (s.size≤40)
def bJ (D:aS) (s:ByteArray):Int:=if D.fuse=0 then 7 else if (aQ D.files s).isSome then 0 else 6
def iT:cN:=⟨⟨#[]⟩,0⟩
def dI (D:aS) (s:ByteArray):cN:=(aQ D.files s).getD iT
def fQ (D:aS) (s t:ByteArray):Int:=if D.fuse=0 then 7 else if gF s=true then (if D.room<D.used+t.size then 5 else 0) else 1
def cL (D:aS) (s t:ByteArray):aS:=if fQ D s t=0 then burn ⟨D.room,D.used+t.size,D.fuse,bD D.files s ⟨(dI D s).bytes++t,(dI D s).safe⟩⟩ else D
def dJ (D:aS) (s:ByteArray):aS:=if bJ D s=0 then burn ⟨D.room,D.used,D.fuse,bD D.files s ⟨(dI D s).bytes,(dI D s).bytes.size⟩⟩ else D
def jM (D:aS) (s:ByteArray):ByteArray:=if bJ D s=0 then (dI D s).bytes else ⟨#[]⟩
def pH (x:cN) (n:Nat):cN:=⟨x.bytes.extract 0 n,if x.safe≤n then x.safe else n⟩
def keepD (D:aS) (s:ByteArray) (n:Nat):aS:=⟨D.room,D.used - ((dI D s).bytes.size - n),D.fuse,bD D.files s (pH (dI D s) n)⟩
def sP (D:aS) (s:ByteArray):aS:=if bJ D s=0 then burn ⟨D.room,D.used - (dI D s).bytes.size,D.fuse,dQ D.files s⟩ else D
def rY (D:aS) (s t:ByteArray):Int:=if bJ D s=0 then (if gF t=true then 0 else 1) else bJ D s
def qI (D:aS) (s t:ByteArray):aS:=if s≠t∧(aQ D.files t).isSome then keepD D t 0 else D
def xH (D:aS) (s t:ByteArray):aS:=if rY D s t=0 then burn ⟨(qI D s t).room,(qI D s t).used,(qI D s t).fuse,bD (dQ (qI D s t).files s) t (dI D s)⟩ else D
def jS (r:Int):aS:=⟨r,0,-1,[]⟩
theorem kY:iT.bytes.size=0:=rfl
def szF (l:List (ByteArray×cN)):Nat:=(l.map fun p=>p.2.bytes.size).sum
theorem aFk (l:List (ByteArray×cN)) (s:ByteArray) (x:cN):szF (bD l s x)+((aQ l s).getD iT).bytes.size=szF l+x.bytes.size:=by
 induction l with
 | nil=>simp [bD,aQ,szF,kY]
 | cons p l ih=>
  obtain ⟨k,u⟩:=p
  simp only [bD,aQ]
  by_cases h:k=s
  ·simp [h,szF];omega
  ·simp only [h,if_false]
   simp only [szF,List.map_cons,List.sum_cons] at ih ⊢
   omega
theorem aL5 (l:List (ByteArray×cN)) (s:ByteArray):szF (dQ l s)+((aQ l s).getD iT).bytes.size=szF l:=by
 induction l with
 | nil=>simp [dQ,aQ,szF,kY]
 | cons p l ih=>
  obtain ⟨k,u⟩:=p
  simp only [dQ,aQ]
  by_cases h:k=s
  ·simp [h,szF];omega
  ·simp only [h,if_false]
   simp only [szF,List.map_cons,List.sum_cons] at ih ⊢
   omega
theorem aFj {l:List (ByteArray×cN)} {s:ByteArray} {x:cN} (h:aQ l s=some x):x.bytes.size≤szF l:=by
 have:=aL5 l s
 rw [h] at this
 simp only [Option.getD_some] at this
 omega
structure fV (D:aS):Prop where
 room:1≤D.room∧D.room≤4194304
 used:D.used=szF D.files
 most:D.used≤D.room
 safe:∀ s x,aQ D.files s=some x→0≤x.safe∧x.safe≤x.bytes.size
 fuse:-1≤D.fuse∧D.fuse≤9223372036854775807
 keys:KD D.files
 names:∀ s x,aQ D.files s=some x→s.size≤40
theorem fV.new {r:Int} (h:1≤r∧r≤4194304):fV (jS r):=
 ⟨h,rfl,by show (0:Int)≤r;omega,fun s x e=>eL,⟨by show (-1:Int)≤-1;omega,by show (-1:Int)≤_;omega⟩,.nil,fun s x e=>eL⟩
theorem fV.burn {D:aS} (h:fV D):fV (burn D):=
 ⟨h.room,h.used,h.most,h.safe,by have:=h.fuse;unfold Go.Proofs.YteapahcklcldkaaGreatDoor.Dsk.burn;dsimp only;split <;> omega,h.keys,h.names⟩
theorem fV.size {D:aS} (h:fV D) {s:ByteArray} {x:cN} (e:aQ D.files s=some x):x.bytes.size≤4194304:=by
 have h1:=aFj e
 have h2:=h.used
 have h3:=h.most
 have h4:=h.room
 omega
theorem fV.old {D:aS} (h:fV D) (s:ByteArray):(dI D s).bytes.size≤4194304∧0≤(dI D s).safe∧(dI D s).safe≤(dI D s).bytes.size∧((dI D s).bytes.size:Int)≤D.used:=by
 unfold dI
 cases e:aQ D.files s with
 | none=>
  refine ⟨by simp [kY],by simp [iT],by simp [iT],?_⟩
  have:=h.used
  simp [kY]
  omega
 | some x=>
  have h1:=h.size e
  have h2:=h.safe s x e
  have h3:=aFj e
  have h4:=h.used
  exact ⟨h1,h2.1,h2.2,by simp;omega⟩
theorem nM {P:ByteArray→cN→Prop} {l:List (ByteArray×cN)} {s:ByteArray} {x:cN} (h:∀ t y,aQ l t=some y→P t y) (h1:P s x):∀ t y,aQ (bD l s x) t=some y→P t y:=fun t y e=>by
 rw [bX] at e
 split at e
 ·rename_i h2;cases e;rw [← h2];exact h1
 ·exact h t y e
theorem aF1 {P:ByteArray→cN→Prop} {l:List (ByteArray×cN)} (hd:KD l) {s:ByteArray} (h:∀ t y,aQ l t=some y→P t y):∀ t y,aQ (dQ l s) t=some y→P t y:=fun t y e=>by
 rw [kB hd] at e
 split at e
 ·cases e
 ·exact h t y e
theorem sR {D:aS} {s:ByteArray} (h:bJ D s=0):∃ x,aQ D.files s=some x:=by
 unfold bJ at h
 split at h
 ·cases h
 ·split at h
  ·rename_i h2;exact Option.isSome_iff_exists.1 h2
  ·cases h
theorem fV.app {D:aS} (h:fV D) (s t:ByteArray):fV (cL D s t):=by
 unfold cL
 split
 ·rename_i he
  have hn:gF s=true∧D.used+t.size≤D.room:=by
   unfold fQ at he
   split at he
   ·cases he
   ·split at he
    ·rename_i h1
     split at he
     ·cases he
     ·exact ⟨h1,by omega⟩
    ·cases he
  have hs:s.size≤40:=by have:=hn.1;unfold gF at this;simp at this;exact this.2
  have hz:=aFk D.files s ⟨(dI D s).bytes++t,(dI D s).safe⟩
  have hb:((dI D s).bytes++t).size=(dI D s).bytes.size+t.size:=aK
  have ho:=h.old s
  have hu:=h.used
  refine fV.burn ⟨h.room,?_,hn.2,nM h.safe ⟨ho.2.1,?_⟩,h.fuse,h.keys.put _ _,nM h.names hs⟩
  ·show D.used+(t.size:Int)=(szF (bD D.files s ⟨(dI D s).bytes++t,(dI D s).safe⟩):Int)
   unfold dI at hz hb ho ⊢
   simp only at hz
   rw [hb] at hz
   omega
  ·show (dI D s).safe≤(((dI D s).bytes++t).size:Int)
   omega
 ·exact h
theorem fV.sync {D:aS} (h:fV D) (s:ByteArray):fV (dJ D s):=by
 unfold dJ
 split
 ·rename_i he
  obtain ⟨x,hx⟩:=sR he
  have hz:=aFk D.files s ⟨(dI D s).bytes,(dI D s).bytes.size⟩
  have hu:=h.used
  refine fV.burn ⟨h.room,?_,h.most,nM h.safe ⟨by simp,by simp⟩,h.fuse,h.keys.put _ _,nM h.names (h.names s x hx)⟩
  show D.used=(szF (bD D.files s ⟨(dI D s).bytes,(dI D s).bytes.size⟩):Int)
  unfold dI at hz ⊢
  simp only at hz
  omega
 ·exact h
theorem aAv {x:cN} {n:Nat} (h:n≤x.bytes.size):(pH x n).bytes.size=n:=by
 simp [pH];omega
theorem fV.keepD {D:aS} (h:fV D) {s:ByteArray} {x:cN} (e:aQ D.files s=some x) {n:Nat} (hn:n≤x.bytes.size):fV (keepD D s n):=by
 have ho:dI D s=x:=by simp [dI,e]
 have hz:=aFk D.files s (pH x n)
 rw [e] at hz
 simp only [Option.getD_some] at hz
 rw [aAv hn] at hz
 have hu:=h.used
 have hm:=h.most
 have hs:=h.safe s x e
 unfold Go.Proofs.YteapahcklcldkaaGreatDoor.Dsk.keepD
 rw [ho]
 refine ⟨h.room,?_,?_,nM h.safe ?_,h.fuse,h.keys.put _ _,nM h.names (h.names s x e)⟩
 ·show D.used - ((x.bytes.size:Int) - n)=(szF (bD D.files s (pH x n)):Int)
  omega
 ·show D.used - ((x.bytes.size:Int) - n)≤D.room
  omega
 ·rw [aAv hn]
  show 0≤(if x.safe≤n then x.safe else (n:Int))∧(if x.safe≤n then x.safe else (n:Int))≤n
  split <;> omega
theorem fV.drop {D:aS} (h:fV D) (s:ByteArray):fV (sP D s):=by
 unfold sP
 split
 ·have hz:=aL5 D.files s
  have hu:=h.used
  have hm:=h.most
  refine fV.burn ⟨h.room,?_,?_,aF1 h.keys h.safe,h.fuse,h.keys.del _,aF1 h.keys h.names⟩
  ·show D.used - (((aQ D.files s).getD iT).bytes.size:Int)=szF (dQ D.files s)
   omega
  ·show D.used - _≤D.room
   omega
 ·exact h
theorem lD (w:World):(zeroValue 165).run Tryz.prog w=.ok (.pointer none) w:=by kernel_rfl
theorem aNq (s:ByteArray) (w:World):Calls Tryz.prog 270 #[.string s] w fun e w'=>fH w e (.bool (gF s)) w':=by
 unfold gF
 by_cases h0:s.size=0
 ·have h1:=aF9 h0
  have hd:decide (s.size≠0)=false:=by simp [h0]
  rw [hd]
  clear h0 hd
  go_enter Tryz.func270,Tryz.ntmps270
  go_wp2
  go_ret
  exact ⟨rfl,aD.refl _ _⟩
 ·have h1:=aI4 h0
  have hd:decide (s.size≠0)=true:=by simp [h0]
  rw [hd]
  by_cases h2:s.size≤40
  ·have hd2:decide (s.size≤40)=true:=by simp [h2]
   have h3:(s.size:Int)≤40:=aA
   rw [hd2]
   clear h0 hd hd2 h2
   go_enter Tryz.func270,Tryz.ntmps270
   go_wp2
   go_ret
   exact ⟨rfl,aD.refl _ _⟩
  ·have hd2:decide (s.size≤40)=false:=by simp [h2]
   have h3:¬ (s.size:Int)≤40:=aA
   rw [hd2]
   clear h0 hd hd2 h2
   go_enter Tryz.func270,Tryz.ntmps270
   go_wp2
   go_ret
   exact ⟨rfl,aD.refl _ _⟩
section
variable {w0:iW} {w:World} {db mb:Nat} {D:aS} {L:List (ByteArray×(Nat×cN))}
theorem qG (h:iC w0 w db D mb L):Calls Tryz.prog 258 #[.pointer (some ⟨db,0,none⟩)] w fun e w'=>fH w e (.int .i64 (aIz D)) w':=by
 unfold aIz
 have c2:w.cell? ⟨db,2,none⟩=some (.int .i64 D.fuse):=aB h.blk 2
 have hlt:=aC h.blk
 clear h
 by_cases h1:D.fuse=0
 ·rw [if_pos h1]
  rw [h1] at c2
  go_enter Tryz.func258,Tryz.ntmps258
  go_wp2
  go_ret
  exact ⟨rfl,aD.refl _ _⟩
 ·rw [if_neg h1]
  go_enter Tryz.func258,Tryz.ntmps258
  go_wp2
  go_ret
  exact ⟨rfl,aD.refl _ _⟩
theorem uN (h:iC w0 w db D mb L) (s:ByteArray) (he:bJ D s≠0):Calls Tryz.prog 253 #[.pointer (some ⟨db,0,none⟩),.string s] w fun e w'=>fH w e (.tuple #[.pointer none,.int .i64 (bJ D s)]) w':=by
 have c3:w.cell? ⟨db,3,none⟩=some (.map (some mb)):=aB h.blk 3
 have hlt:=aC h.blk
 have HA:=Lib.hid (qG h)
 have HH:=Lib.hid h
 unfold bJ aIz at *
 by_cases h1:D.fuse=0
 ·rw [if_pos h1]
  rw [if_pos h1] at HA
  clear h
  go_enter Tryz.func253,Tryz.ntmps253
  go_wp2_with fail
  refine HA.out.mono ?_
  rintro e w1 ⟨rfl,k1⟩
  go_wp2
  go_ret2
  exact ⟨rfl,k1⟩
 ·rw [if_neg h1] at he ⊢
  rw [if_neg h1] at HA
  cases hg:aQ D.files s with
  | some x=>rw [hg] at he;exact absurd rfl he
  | none=>
   have hn:=h.none hg
   have HV:Hid (aQ (dM mH L) s=none):=by show _=_;rw [fW,hn];rfl
   clear h he hn hg
   go_enter Tryz.func253,Tryz.ntmps253
   go_wp2_with fail
   refine HA.out.mono ?_
   rintro e w1 ⟨rfl,k1⟩
   have d3:=k1.cell' c3 (fun e=>e)
   have hlt1:db<w1.heap.size:=Nat.lt_of_lt_of_le hlt k1.size
   have hm:=Lib.hid (HH.out.map.keep k1 (fun e=>e))
   have HK:=Lib.hid k1
   clear k1 c3 hlt
   go_wp2_with (at_lookup;refine cI (eG Tryz.underlying9) rfl rfl Tryz.underlying137 lD rfl s rfl hm.out _ HV.out ?_)
   go_ret2
   exact ⟨rfl,HK.out⟩
theorem oL (h:iC w0 w db D mb L) (s:ByteArray) (he:bJ D s=0):∃ b,aQ L s=some (b,dI D s)∧Calls Tryz.prog 253 #[.pointer (some ⟨db,0,none⟩),.string s] w fun e w'=>fH w e (.tuple #[.pointer (some ⟨b,0,none⟩),.int .i64 0]) w':=by
 obtain ⟨x,hx⟩:=sR he
 obtain ⟨b,hb⟩:=h.some hx
 have ho:dI D s=x:=pZ
 refine ⟨b,by rw [ho];exact hb,?_⟩
 have c3:w.cell? ⟨db,3,none⟩=some (.map (some mb)):=aB h.blk 3
 have hlt:=aC h.blk
 have hf:¬ D.fuse=0:=fun e=>by unfold bJ at he;rw [if_pos e] at he;cases he
 have HA:=qG h
 unfold aIz at HA
 rw [if_neg hf] at HA
 have HA:=Lib.hid HA
 have HH:=Lib.hid h
 have HV:Hid (aQ (dM mH L) s=some (.pointer (some ⟨b,0,none⟩))):=pY
 clear h he hb hx ho hf
 go_enter Tryz.func253,Tryz.ntmps253
 go_wp2_with fail
 refine HA.out.mono ?_
 rintro e w1 ⟨rfl,k1⟩
 have d3:=k1.cell' c3 (fun e=>e)
 have hlt1:db<w1.heap.size:=Nat.lt_of_lt_of_le hlt k1.size
 have hm:=Lib.hid (HH.out.map.keep k1 (fun e=>e))
 have HK:=Lib.hid k1
 clear k1 c3 hlt
 go_wp2_with (at_lookup;refine cI (eG Tryz.underlying9) rfl rfl Tryz.underlying137 lD rfl s rfl hm.out _ HV.out ?_)
 go_ret2
 exact ⟨rfl,HK.out⟩
def xB (w0:iW) (db:Nat) (D:aS) (mb:Nat) (L:List (ByteArray×(Nat×cN))) (w:World) (e:Ending) (w':World):Prop:=
 e=.returned (.int .i64 0)∧iC w0 w' db (burn D) mb L∧aD (fun k=>k=db) w w'
theorem iS (h:iC w0 w db D mb L) (hf:-1≤D.fuse∧D.fuse≤9223372036854775807):Calls Tryz.prog 257 #[.pointer (some ⟨db,0,none⟩)] w fun e w'=>xB w0 db D mb L w e w':=by
 have c2:w.cell? ⟨db,2,none⟩=some (.int .i64 D.fuse):=aB h.blk 2
 have f2:=aH h.blk 2
 have hlt:=aC h.blk
 unfold xB burn
 by_cases h1:0<D.fuse
 ·rw [if_pos h1]
  have HF:=Lib.hid (h.own (((aD.refl (fun k=>k=db) w).setC 2 (.int .i64 (D.fuse - 1)) (fun _=>rfl))) (aM h.blk 2 (.int .i64 (D.fuse - 1))))
  clear h
  go_enter Tryz.func257,Tryz.ntmps257
  go_wp2
  go_ret
  exact ⟨rfl,HF.out,(aD.refl (fun k=>k=db) w).setC 2 _ (fun _=>rfl)⟩
 ·rw [if_neg h1]
  have HF:=Lib.hid h
  clear h
  go_enter Tryz.func257,Tryz.ntmps257
  go_wp2
  go_ret
  exact ⟨rfl,HF.out,aD.refl _ _⟩
theorem aUg (h:iC w0 w db D mb L) (s:ByteArray):Calls Tryz.prog 180 #[.pointer (some ⟨db,0,none⟩),.string s] w fun e w'=>fH w e (.tuple #[.string (jM D s),.int .i64 (bJ D s)]) w':=by
 unfold jM
 by_cases he:bJ D s=0
 ·obtain ⟨b,hb,hc⟩:=oL h s he
  have HC:=Lib.hid hc
  have HB:=Lib.hid (h.fil s _ hb)
  rw [if_pos he,he]
  clear h hb hc he
  go_enter Tryz.func180,Tryz.ntmps180
  go_wp2_with fail
  refine HC.out.mono ?_
  rintro e w1 ⟨rfl,k1⟩
  have b1:=(k1.block _ (aC HB.out) (fun e=>e)).trans HB.out
  have d0:=aB b1 0
  have hlt1:=aC b1
  have HK:=Lib.hid k1
  clear k1 b1
  go_wp2
  go_ret2
  exact ⟨rfl,HK.out⟩
 ·have HC:=Lib.hid (uN h s he)
  rw [if_neg he]
  clear h
  go_enter Tryz.func180,Tryz.ntmps180
  go_wp2_with fail
  refine HC.out.mono ?_
  rintro e w1 ⟨rfl,k1⟩
  go_wp2
  go_ret2
  exact ⟨rfl,k1⟩
end
theorem aGs (r:Int) (w:World) (h:1≤r∧r≤4194304):Calls Tryz.prog 26 #[.int .i64 r] w fun e w'=>∃ db,e=.returned (.tuple #[.pointer (some ⟨db,0,none⟩),.int .i64 0])∧DSt ⟨w,fun _=>True⟩ w' db (jS r):=by
 have hmm:=@run_makeMap Tryz.prog
 obtain ⟨h1,h2⟩:=h
 go_enter Tryz.func26,Tryz.ntmps26
 go_wp2
 go_ret2
 refine ⟨_,rfl,w.heap.size,[],?_⟩
 exact ⟨((aD.refl _ _).alloc _).alloc _,aI _ _ _ aK,rfl,(kF w).of_block (Below.heap_alloc _ _ _ aK),fun s p e=>eL,fun s t p q e=>eL,by simp,⟨fun q=>absurd q.1 aK,fun q=>absurd q.1 aK⟩,fun s p e=>eL,.nil⟩
section
variable {w0:iW} {w:World} {db mb:Nat} {D:aS} {L:List (ByteArray×(Nat×cN))}
theorem iC.fne (h:iC w0 w db D mb L) {s:ByteArray} {p:Nat×cN} (e:aQ L s=Option.some p):p.1≠db:=(h.fnew s p e).2.1
theorem aOp (h:iC w0 w db D mb L) {s:ByteArray} {b:Nat} {x x':cN} (e:aQ L s=some (b,x)) (u:Int) :
  iC w0 (((w.setCell ⟨db,1,none⟩ (.int .i64 u)).setCell ⟨b,0,none⟩ (.string x'.bytes)).setCell ⟨b,1,none⟩ (.int .i64 x'.safe)) db ⟨D.room,u,D.fuse,bD D.files s x'⟩ mb (bD L s (b,x'))∧
   aD (fun k=>k=b∨k=db) w (((w.setCell ⟨db,1,none⟩ (.int .i64 u)).setCell ⟨b,0,none⟩ (.string x'.bytes)).setCell ⟨b,1,none⟩ (.int .i64 x'.safe)):=by
 have hne:b≠db:=h.fne e
 have hf:=h.fil s _ e
 have k1:aD (fun k=>k=db) w (w.setCell ⟨db,1,none⟩ (.int .i64 u)):=(aD.refl (fun k=>k=db) w).setC 1 _ (fun _=>rfl)
 have b1:(w.setCell ⟨db,1,none⟩ (.int .i64 u)).heap[db]?=some (.cells #[.int .i64 D.room,.int .i64 u,.int .i64 D.fuse,.map (some mb)] 139 (0,0)):=aM h.blk 1 _
 have f1:=(k1.block b (aC hf) hne).trans hf
 have k2:aD (fun k=>k=b) (w.setCell ⟨db,1,none⟩ (.int .i64 u)) (((w.setCell ⟨db,1,none⟩ (.int .i64 u)).setCell ⟨b,0,none⟩ (.string x'.bytes)).setCell ⟨b,1,none⟩ (.int .i64 x'.safe)):=
  ((aD.refl (fun k=>k=b) _).setC 0 _ (fun _=>rfl)).setC 1 _ (fun _=>rfl)
 have f2:(((w.setCell ⟨db,1,none⟩ (.int .i64 u)).setCell ⟨b,0,none⟩ (.string x'.bytes)).setCell ⟨b,1,none⟩ (.int .i64 x'.safe)).heap[b]?=some (.cells #[.string x'.bytes,.int .i64 x'.safe] 167 (0,0)):=aM (aM f1 0 _) 1 _
 have k3:aD (fun k=>k=b∨k=db) w _:=(k1.mono (fun _ _ e=>.inr e)).trans k2 (fun _ _ e=>.inl e)
 exact ⟨h.set e k3 ((k2.block db (aC b1) (fun e=>hne e.symm)).trans b1) f2,k3⟩
def tW (w0:iW) (db:Nat) (D:aS) (mb:Nat) (L:List (ByteArray×(Nat×cN))) (s:ByteArray) (b:Nat) (x:cN) (n:Nat) (w:World) (e:Ending) (w':World):Prop:=
 e=.returned (.tuple #[])∧iC w0 w' db (keepD D s n) mb (bD L s (b,pH x n))∧aD (fun k=>k=b∨k=db) w w'
theorem aLs (h:iC w0 w db D mb L) (wf:fV D) {s:ByteArray} {b:Nat} {x:cN} (e:aQ L s=some (b,x)) {n:Nat} (hn:n≤x.bytes.size) :
  Calls Tryz.prog 81 #[.pointer (some ⟨db,0,none⟩),.pointer (some ⟨b,0,none⟩),.int .i64 n] w fun e w'=>tW w0 db D mb L s b x n w e w':=by
 have hx:aQ D.files s=some x:=aSn
 have ho:dI D s=x:=pZ
 have hf:=h.fil s _ e
 have hS:=Lib.hid (aOp h e (x':=pH x n) (D.used - (x.bytes.size - n)))
 unfold tW keepD
 rw [ho]
 have c1:=aB h.blk 1
 have g1:=aH h.blk 1
 have d0:=aB hf 0
 have d1:=aB hf 1
 have e0:=aH hf 0
 have e1:=aH hf 1
 have hlt:=aC h.blk
 have hltb:=aC hf
 have hne:b≠db:=h.fne e
 have hne2:db≠b:=fun e=>hne e.symm
 have hu:=h.core
 have z1:=wf.size hx
 have z6:(x.bytes.size:Int)≤D.used∧D.used≤4194304:=by
  have:=wf.used
  have:=wf.most
  have:=wf.room
  have:=aFj hx
  omega
 have z5:=wf.safe s x hx
 clear h e hx ho hf wf hu
 by_cases hs:x.safe≤n
 ·have HF:Hid (pH x n=⟨x.bytes.extract 0 n,x.safe⟩):=by show _=_;unfold pH;rw [if_pos hs]
  rw [HF.out] at hS ⊢
  go_enter Tryz.func81,Tryz.ntmps81
  go_wp2
  go_region
  all_goals go_wp2
  all_goals go_region
  all_goals go_wp2
  all_goals go_end0
  all_goals exact ⟨rfl,hS.out.1.keep (aD.refl _ _).drew.drew,hS.out.2.drew.drew⟩
 ·have HF:Hid (pH x n=⟨x.bytes.extract 0 n,n⟩):=by show _=_;unfold pH;rw [if_neg hs]
  rw [HF.out] at hS ⊢
  go_enter Tryz.func81,Tryz.ntmps81
  go_wp2
  go_region
  all_goals go_wp2
  all_goals go_region
  all_goals go_wp2
  all_goals go_end0
  all_goals exact ⟨rfl,hS.out.1.keep (aD.refl _ _).drew.drew,hS.out.2.drew.drew⟩
theorem aUx (h:iC w0 w db D mb L) (wf:fV D) (s:ByteArray):Calls Tryz.prog 205 #[.pointer (some ⟨db,0,none⟩),.string s] w fun e w'=>e=.returned (.int .i64 (bJ D s))∧DSt w0 w' db (dJ D s):=by
 unfold dJ
 by_cases he:bJ D s=0
 ·obtain ⟨b,hb,hc⟩:=oL h s he
  have HC:=Lib.hid hc
  have HH:=Lib.hid h
  have HE:=Lib.hid hb
  have HF:=Lib.hid wf.fuse
  have hne:b≠db:=h.fne hb
  have HS:Hid (∀ w1,K0 w w1→iC w0 (w1.setCell ⟨b,1,none⟩ (.int .i64 (dI D s).bytes.size)) db ⟨D.room,D.used,D.fuse,bD D.files s ⟨(dI D s).bytes,(dI D s).bytes.size⟩⟩ mb (bD L s (b,⟨(dI D s).bytes,(dI D s).bytes.size⟩))):=by
   show ∀ w1,_→_
   intro w1 k1
   have h1:=h.keep k1
   have k2:aD (fun k=>k=b) w1 (w1.setCell ⟨b,1,none⟩ (.int .i64 (dI D s).bytes.size)):=(aD.refl (fun k=>k=b) w1).setC 1 _ (fun _=>rfl)
   exact h1.set hb (x':=⟨(dI D s).bytes,(dI D s).bytes.size⟩) (k2.mono fun _ _ e=>.inl e) ((k2.block db (aC h1.blk) (fun e=>hne e.symm)).trans h1.blk) (aM (h1.fil s _ hb) 1 _)
  rw [if_pos he,he]
  clear h hb hc he wf
  go_enter Tryz.func205,Tryz.ntmps205
  go_wp2_with fail
  refine HC.out.mono ?_
  rintro e w1 ⟨rfl,k1⟩
  have b1:=(HH.out.keep k1).fil s _ HE.out
  have d0:=aB b1 0
  have d1:=aB b1 1
  have e1:=aH b1 1
  have hlt1:=aC b1
  have HX:=Lib.hid (HS.out w1 k1)
  clear k1 b1
  go_wp2_with fail
  refine (iS HX.out HF.out).mono ?_
  rintro e w2 ⟨rfl,h2,_⟩
  have HR:=Lib.hid h2
  clear h2
  go_wp2
  go_ret
  exact ⟨rfl,_,_,HR.out⟩
 ·have HC:=Lib.hid (uN h s he)
  have HH:=Lib.hid h
  rw [if_neg he]
  clear h
  go_enter Tryz.func205,Tryz.ntmps205
  go_wp2_with fail
  refine HC.out.mono ?_
  rintro e w1 ⟨rfl,k1⟩
  have HK:=Lib.hid k1
  clear k1
  go_wp2
  go_ret
  exact ⟨rfl,_,_,HH.out.keep HK.out⟩
theorem aMg {κ α:Type} [DecidableEq κ] {L:List (κ×α)} {s:κ} {u:α} (h:aQ L s=some u) (v:α):dQ (bD L s v) s=dQ L s:=by
 induction L with
 | nil=>cases h
 | cons p L ih=>
  obtain ⟨k,x⟩:=p
  simp only [aQ] at h
  simp only [bD,dQ]
  by_cases hk:k=s
  ·simp [hk,dQ]
  ·rw [if_neg hk] at h
   simp [hk,dQ,ih h]
theorem iF (w:World) (b:Nat) (o:Obj):aD (fun k=>k=b) w (aO w b o):=aD.setObj (S:=fun k=>k=b) (aD.refl _ _) (fun _=>rfl) o
theorem aTk (h:iC w0 w db D mb L) (wf:fV D) (s:ByteArray):Calls Tryz.prog 182 #[.pointer (some ⟨db,0,none⟩),.string s] w fun e w'=>e=.returned (.int .i64 (bJ D s))∧DSt w0 w' db (sP D s):=by
 unfold sP
 by_cases he:bJ D s=0
 ·obtain ⟨b,hb,hc⟩:=oL h s he
  obtain ⟨x,hx⟩:=sR he
  have ho:dI D s=x:=pZ
  have HC:=Lib.hid hc
  have HH:=Lib.hid h
  have HE:=Lib.hid hb
  have HF:=Lib.hid wf.fuse
  have HW:=Lib.hid wf
  have HD:Hid ((⟨(keepD D s 0).room,(keepD D s 0).used,(keepD D s 0).fuse,dQ (keepD D s 0).files s⟩:aS)=⟨D.room,D.used - (dI D s).bytes.size,D.fuse,dQ D.files s⟩):=by
   show _=_
   simp [keepD,aMg hx]
  rw [if_pos he,he]
  clear h hb hc he wf hx ho
  go_enter Tryz.func182,Tryz.ntmps182
  go_wp2_with fail
  refine HC.out.mono ?_
  rintro e w1 ⟨rfl,k1⟩
  have HK:Hid (Calls Tryz.prog 81 #[.pointer (some ⟨db,0,none⟩),.pointer (some ⟨b,0,none⟩),.int .i64 0] w1 fun e w'=>tW w0 db D mb L s b (dI D s) 0 w1 e w'):=aLs (HH.out.keep k1) HW.out HE.out (n:=0) (Nat.zero_le _)
  clear k1
  go_wp2_with fail
  refine HK.out.mono ?_
  rintro e w2 ⟨rfl,h2,_⟩
  have c3:=aB h2.blk 3
  have hlt:=aC h2.blk
  have hm:=Lib.hid h2.map
  have H2:=Lib.hid h2
  clear h2
  go_wp2_with (at_delete;refine pC (eG Tryz.underlying9) rfl rfl Tryz.underlying137 rfl s rfl hm.out ?_;intro ob hM)
  have h3:=H2.out.del (iF _ _ ob) s hM
  rw [HD.out] at h3
  have HC2:=Lib.hid (iS h3 HF.out)
  clear h3 hM
  refine HC2.out.mono ?_
  rintro e w3 ⟨rfl,h4,_⟩
  have HR:=Lib.hid h4
  clear h4
  go_wp2
  go_ret
  exact ⟨rfl,_,_,HR.out⟩
 ·have HC:=Lib.hid (uN h s he)
  have HH:=Lib.hid h
  rw [if_neg he]
  clear h
  go_enter Tryz.func182,Tryz.ntmps182
  go_wp2_with fail
  refine HC.out.mono ?_
  rintro e w1 ⟨rfl,k1⟩
  have HK:=Lib.hid k1
  clear k1
  go_wp2
  go_ret
  exact ⟨rfl,_,_,HH.out.keep HK.out⟩
end
section
variable {w0:iW} {w:World} {db mb:Nat} {D:aS} {L:List (ByteArray×(Nat×cN))}
theorem aCm (h:iC w0 w db D mb L) {s:ByteArray} {b:Nat} {x:cN} (e:aQ L s=some (b,x)) (t:ByteArray) (u:Int) :
  iC w0 ((w.setCell ⟨b,0,none⟩ (.string t)).setCell ⟨db,1,none⟩ (.int .i64 u)) db ⟨D.room,u,D.fuse,bD D.files s ⟨t,x.safe⟩⟩ mb (bD L s (b,⟨t,x.safe⟩)):=by
 have hne:b≠db:=h.fne e
 have hf:=h.fil s _ e
 have k1:aD (fun k=>k=b) w (w.setCell ⟨b,0,none⟩ (.string t)):=(aD.refl (fun k=>k=b) w).setC 0 _ (fun _=>rfl)
 have f1:(w.setCell ⟨b,0,none⟩ (.string t)).heap[b]?=some (.cells #[.string t,.int .i64 x.safe] 167 (0,0)):=aM hf 0 _
 have b1:=(k1.block db (aC h.blk) (fun e=>hne e.symm)).trans h.blk
 have k2:aD (fun k=>k=db) (w.setCell ⟨b,0,none⟩ (.string t)) ((w.setCell ⟨b,0,none⟩ (.string t)).setCell ⟨db,1,none⟩ (.int .i64 u)):=(aD.refl (fun k=>k=db) _).setC 1 _ (fun _=>rfl)
 exact h.set e (x':=⟨t,x.safe⟩) ((k1.mono (fun _ _ e=>.inl e)).trans k2 (fun _ _ e=>.inr e)) (aM b1 1 _) ((k2.block b (aC f1) hne).trans f1)
theorem vW {κ α:Type} [DecidableEq κ] (L:List (κ×α)) (s:κ) (u v:α):bD (bD L s u) s v=bD L s v:=by
 induction L with
 | nil=>simp [bD]
 | cons p L ih=>
  obtain ⟨k,x⟩:=p
  by_cases hk:k=s
  ·simp [bD,hk]
  ·simp [bD,hk,ih]
theorem aGp {s t:ByteArray} (he:fQ D s t=0):D.fuse≠0∧gF s=true∧D.used+t.size≤D.room:=by
 unfold fQ at he
 split at he
 ·cases he
 ·rename_i h1
  split at he
  ·rename_i h2
   split at he
   ·cases he
   ·exact ⟨h1,h2,by omega⟩
  ·cases he
theorem zX (h:iC w0 w db D mb L) (hf:D.fuse≠0):Calls Tryz.prog 258 #[.pointer (some ⟨db,0,none⟩)] w fun e w'=>fH w e (.int .i64 0) w':=by
 have:=qG h
 unfold aIz at this
 rw [if_neg hf] at this
 exact this
theorem kU {s:ByteArray} {v:Bool} (hn:gF s=v) (w:World):Calls Tryz.prog 270 #[.string s] w fun e w'=>fH w e (.bool v) w':=by
 have:=aNq s w
 rw [hn] at this
 exact this
theorem aIx (h:iC w0 w db D mb L) (wf:fV D) (s t:ByteArray) (ht:t.size≤1000000) (he:fQ D s t≠0):Calls Tryz.prog 203 #[.pointer (some ⟨db,0,none⟩),.string s,.string t] w fun e w'=>fH w e (.int .i64 (fQ D s t)) w':=by
 unfold fQ at he ⊢
 have HH:=Lib.hid h
 have z2:0≤D.used∧D.used≤4194304∧D.room≤4194304:=by
  have:=wf.used
  have:=wf.most
  have:=wf.room
  omega
 by_cases h1:D.fuse=0
 ·rw [if_pos h1]
  have HA:=qG h
  unfold aIz at HA
  rw [if_pos h1] at HA
  have HA:=Lib.hid HA
  clear h wf h1 he
  go_enter Tryz.func203,Tryz.ntmps203
  go_wp2_with fail
  refine HA.out.mono ?_
  rintro e w1 ⟨rfl,k1⟩
  go_wp2
  go_ret
  exact ⟨rfl,k1⟩
 ·rw [if_neg h1] at he ⊢
  have HA:=Lib.hid (zX h h1)
  cases hn:gF s with
  | false=>
   have HN:=Lib.hid (kU hn)
   rw [if_neg aE]
   clear h wf h1 he hn
   go_enter Tryz.func203,Tryz.ntmps203
   go_wp2_with fail
   refine HA.out.mono ?_
   rintro e w1 ⟨rfl,k1⟩
   have K1:=Lib.hid k1
   clear k1
   go_wp2_with fail
   refine (HN.out w1).mono ?_
   rintro e w2 ⟨rfl,k2⟩
   go_wp2
   go_ret
   exact ⟨rfl,K0.tr K1.out k2⟩
  | true=>
   have HN:=Lib.hid (kU hn)
   rw [hn,if_pos rfl] at he
   rw [if_pos rfl]
   have h2:D.room<D.used+t.size:=by
    by_cases h2:D.room<D.used+t.size
    ·exact h2
    ·rw [if_neg h2] at he;exact absurd rfl he
   rw [if_pos h2]
   clear h wf h1 he hn
   go_enter Tryz.func203,Tryz.ntmps203
   go_wp2_with fail
   refine HA.out.mono ?_
   rintro e w1 ⟨rfl,k1⟩
   have K1:=Lib.hid k1
   clear k1
   go_wp2_with fail
   refine (HN.out w1).mono ?_
   rintro e w2 ⟨rfl,k2⟩
   have b2:=(HH.out.keep (K0.tr K1.out k2)).blk
   have c0:=aB b2 0
   have c1:=aB b2 1
   have hlt:=aC b2
   have K2:=Lib.hid (K0.tr K1.out k2)
   clear k2 b2
   go_wp2
   go_quiet (fail)
   go_wp2
   go_ret
   exact ⟨rfl,K2.out.drewN _⟩
theorem aD1 (h:iC w0 w db D mb L) (wf:fV D) (s t:ByteArray) (he:fQ D s t=0) {b:Nat} {x:cN} (e:aQ L s=some (b,x)) :
  Calls Tryz.prog 203 #[.pointer (some ⟨db,0,none⟩),.string s,.string t] w fun e w'=>e=.returned (.int .i64 0)∧DSt w0 w' db (cL D s t):=by
 have hx:aQ D.files s=some x:=aSn
 have ho:dI D s=x:=pZ
 obtain ⟨q1,q2,q3⟩:=aGp he
 unfold cL
 rw [if_pos he,ho]
 have HH:=Lib.hid h
 have HA:=Lib.hid (zX h q1)
 have HN:=Lib.hid (kU q2)
 have HE:=Lib.hid e
 have HF:=Lib.hid wf.fuse
 have z2:0≤D.used∧D.used≤4194304∧D.room≤4194304:=by
  have:=wf.used
  have:=wf.most
  have:=wf.room
  omega
 have z3:x.bytes.size≤4194304:=wf.size hx
 have z4:t.size≤4194304:=aA
 have hne:b≠db:=h.fne e
 have hne2:db≠b:=fun e=>hne e.symm
 have HV:Hid (aQ (dM mH L) s=some (.pointer (some ⟨b,0,none⟩))):=iI
 have q4:¬ D.room<D.used+t.size:=aA
 clear h wf he e hx ho q1 q2
 go_enter Tryz.func203,Tryz.ntmps203
 go_wp2_with fail
 refine HA.out.mono ?_
 rintro e w1 ⟨rfl,k1⟩
 have K1:=Lib.hid k1
 clear k1
 go_wp2_with fail
 refine (HN.out w1).mono ?_
 rintro e w2 ⟨rfl,k2⟩
 have h2:=HH.out.keep (K0.tr K1.out k2)
 have b2:=h2.blk
 have c0:=aB b2 0
 have c1:=aB b2 1
 have c3:=aB b2 3
 have g1:=aH b2 1
 have hlt:=aC b2
 have f2:=h2.fil s _ HE.out
 have d0:=aB f2 0
 have e0:=aH f2 0
 have hltb:=aC f2
 have H2:=Lib.hid h2
 clear k2 b2 h2 f2
 go_wp2
 go_quiet (fail)
 have hm:=Lib.hid (H2.out.keep ((aD.refl (fun _=>False) w2).drewN 1)).map
 have HX:Hid (∀ n,iC w0 (((w2.drewN n).setCell ⟨b,0,none⟩ (.string (x.bytes++t))).setCell ⟨db,1,none⟩ (.int .i64 (D.used+t.size))) db ⟨D.room,D.used+t.size,D.fuse,bD D.files s ⟨x.bytes++t,x.safe⟩⟩ mb (bD L s (b,⟨x.bytes++t,x.safe⟩))):=
  fun n=>aCm (H2.out.keep ((aD.refl (fun _=>False) w2).drewN n)) HE.out _ _
 go_wp2_with (at_lookup;refine cI (eG Tryz.underlying9) rfl rfl Tryz.underlying137 lD rfl s rfl (H2.out.keep ((aD.refl (fun _=>False) w2).drewN _)).map _ HV.out ?_)
 refine (iS (HX.out _) HF.out).mono ?_
 rintro e w3 ⟨rfl,h3,_⟩
 have HR:=Lib.hid h3
 clear h3
 go_wp2
 go_ret
 exact ⟨rfl,_,_,HR.out⟩
theorem aIy (h:iC w0 w db D mb L) (wf:fV D) (s t:ByteArray) (he:fQ D s t=0) (e:aQ L s=none) :
  Calls Tryz.prog 203 #[.pointer (some ⟨db,0,none⟩),.string s,.string t] w fun e w'=>e=.returned (.int .i64 0)∧DSt w0 w' db (cL D s t):=by
 have hx:aQ D.files s=none:=aSn
 have ho:dI D s=iT:=pZ
 obtain ⟨q1,q2,q3⟩:=aGp he
 unfold cL
 rw [if_pos he,ho]
 have HH:=Lib.hid h
 have HA:=Lib.hid (zX h q1)
 have HN:=Lib.hid (kU q2)
 have HE:=Lib.hid e
 have HF:=Lib.hid wf.fuse
 have z2:0≤D.used∧D.used≤4194304∧D.room≤4194304:=by
  have:=wf.used
  have:=wf.most
  have:=wf.room
  omega
 have z4:t.size≤4194304:=aA
 have HV:Hid (aQ (dM mH L) s=none):=iI
 have q4:¬ D.room<D.used+t.size:=aA
 clear h wf he e hx ho q1 q2
 go_enter Tryz.func203,Tryz.ntmps203
 go_wp2_with fail
 refine HA.out.mono ?_
 rintro e w1 ⟨rfl,k1⟩
 have K1:=Lib.hid k1
 clear k1
 go_wp2_with fail
 refine (HN.out w1).mono ?_
 rintro e w2 ⟨rfl,k2⟩
 have h2:=HH.out.keep (K0.tr K1.out k2)
 have b2:=h2.blk
 have c0:=aB b2 0
 have c1:=aB b2 1
 have c3:=aB b2 3
 have g1:=aH b2 1
 have hlt:=aC b2
 have H2:=Lib.hid h2
 clear k2 b2 h2
 go_wp2
 go_quiet (fail)
 rename_i nq
 have H3:Hid (iC w0 (w2.drewN nq) db D mb L):=H2.out.keep ((aD.refl (fun _=>False) w2).drewN nq)
 clear c0 c1 c3 g1 hlt H2
 generalize w2.drewN nq=w3 at H3 ⊢
 have b3:=H3.out.blk
 have c1:=aB b3 1
 have c3:=aB b3 3
 have hlt:=aC b3
 have hltm:=H3.out.map.lt
 have hnb:¬ w3.heap.size=db:=aA
 have hnb2:¬ db=w3.heap.size:=aA
 have HK:Hid (K0 w3 (w3.alloc (.cells #[.string ⟨#[]⟩,.int .i64 0] 167))):=(aD.refl (fun _=>False) w3).alloc _
 have hm0:=Lib.hid (H3.out.map.keep HK.out (fun e=>e))
 have HB:Hid ((w3.alloc (.cells #[.string ⟨#[]⟩,.int .i64 0] 167)).heap[w3.heap.size]?=some (.cells #[.string ⟨#[]⟩,.int .i64 0] 167 (0,0))):=aI _ _ _ rfl
 have hbo:∀ o,(aO (w3.alloc (.cells #[.string ⟨#[]⟩,.int .i64 0] 167)) mb o).heap[w3.heap.size]?=some (.cells #[.string ⟨#[]⟩,.int .i64 0] 167 (0,0)):=fun o=>(cT _ _ aA).trans HB.out
 have hdo:∀ o,(aO (w3.alloc (.cells #[.string ⟨#[]⟩,.int .i64 0] 167)) mb o).heap[db]?=some (.cells #[.int .i64 D.room,.int .i64 D.used,.int .i64 D.fuse,.map (some mb)] 139 (0,0)):=fun o=>(cT _ _ H3.out.ne).trans ((HK.out.block db hlt (fun e=>e)).trans b3)
 have q1:∀ o,(aO (w3.alloc (.cells #[.string ⟨#[]⟩,.int .i64 0] 167)) mb o).cell? ⟨w3.heap.size,0,none⟩=some (.string ⟨#[]⟩):=fun o=>aB (hbo o) 0
 have q2:∀ o,(aO (w3.alloc (.cells #[.string ⟨#[]⟩,.int .i64 0] 167)) mb o).frozen? ⟨w3.heap.size,0,none⟩=false:=fun o=>aH (hbo o) 0
 have q5:∀ o,(aO (w3.alloc (.cells #[.string ⟨#[]⟩,.int .i64 0] 167)) mb o).cell? ⟨db,1,none⟩=some (.int .i64 D.used):=fun o=>aB (hdo o) 1
 have q6:∀ o,(aO (w3.alloc (.cells #[.string ⟨#[]⟩,.int .i64 0] 167)) mb o).frozen? ⟨db,1,none⟩=false:=fun o=>aH (hdo o) 1
 have HX:Hid (∀ o,bM .string (aO (w3.alloc (.cells #[.string ⟨#[]⟩,.int .i64 0] 167)) mb o) mb (bD (dM mH L) s (.pointer (some ⟨w3.heap.size,0,none⟩)))→
   iC w0 (((aO (w3.alloc (.cells #[.string ⟨#[]⟩,.int .i64 0] 167)) mb o).setCell ⟨w3.heap.size,0,none⟩ (.string (⟨#[]⟩++t))).setCell ⟨db,1,none⟩ (.int .i64 (D.used+t.size))) db ⟨D.room,D.used+t.size,D.fuse,bD D.files s ⟨iT.bytes++t,iT.safe⟩⟩ mb (bD (bD L s (w3.heap.size,iT)) s (w3.heap.size,⟨⟨#[]⟩++t,0⟩))):=by
  show ∀ o,_→_
  intro o hmo
  have h5:=H3.out.add (x:=iT) HE.out HK.out (Nat.le_refl _) HB.out hmo
  have h6:=aCm h5 (s:=s) (b:=w3.heap.size) (x:=iT) zH (⟨#[]⟩++t) (D.used+t.size)
  rw [vW] at h6
  exact h6
 clear b3 hbo hdo
 go_wp2_with (first | (at_lookup;refine cI (eG Tryz.underlying9) rfl rfl Tryz.underlying137 lD rfl s rfl H3.out.map _ HV.out ?_) | (at_mapUpdate;refine mN (eG Tryz.underlying9) rfl rfl Tryz.underlying137 rfl s rfl hm0.out (.pointer (some ⟨w3.heap.size,0,none⟩)) rfl ?_;intro ob hM))
 have HY:=HX.out ob hM
 have HZ:=Lib.hid (iS HY HF.out)
 clear HY hM
 refine HZ.out.mono ?_
 rintro e w5 ⟨rfl,h5,_⟩
 have HR:=Lib.hid h5
 clear h5
 go_wp2
 go_ret
 exact ⟨rfl,_,_,HR.out⟩
theorem aMk (h:iC w0 w db D mb L) (wf:fV D) (s t:ByteArray) (ht:t.size≤1000000):Calls Tryz.prog 203 #[.pointer (some ⟨db,0,none⟩),.string s,.string t] w fun e w'=>e=.returned (.int .i64 (fQ D s t))∧DSt w0 w' db (cL D s t):=by
 by_cases he:fQ D s t=0
 ·rw [he]
  cases hg:aQ L s with
  | none=>exact aIy h wf s t he hg
  | some p=>exact aD1 h wf s t he hg
 ·have:cL D s t=D:=by unfold cL;rw [if_neg he]
  rw [this]
  exact (aIx h wf s t ht he).mono fun e w' hq=>⟨hq.1,_,_,h.keep hq.2⟩
end
end Go.Proofs.YteapahcklcldkaaGreatDoor.Dsk
namespace Go.Proofs.YteapahcklcldkaaGreatDoor.Idm
open Go.RowKit Fx
def fH (w:World) (e:Ending) (v:Value) (w':World):Prop:=e=.returned v∧aD (fun _=>False) w w'
structure iZ where
 seq:Int
 base:Int
 span:Int
structure aW where
 epoch:Int
 ring:Nat→iZ
 first:Nat
 count:Nat
def i64 (n:Int):Value:=.int .i64 n
def wG (H:aW):Array Value:=
 #[.int .i64 H.epoch,.int .i64 (H.ring 0).seq,.int .i64 (H.ring 0).base,.int .i64 (H.ring 0).span,.int .i64 (H.ring 1).seq,.int .i64 (H.ring 1).base,.int .i64 (H.ring 1).span,.int .i64 (H.ring 2).seq,.int .i64 (H.ring 2).base,.int .i64 (H.ring 2).span,
  .int .i64 (H.ring 3).seq,.int .i64 (H.ring 3).base,.int .i64 (H.ring 3).span,.int .i64 (H.ring 4).seq,.int .i64 (H.ring 4).base,.int .i64 (H.ring 4).span,.int .i64 H.first,.int .i64 H.count]
def jG (H:aW) (i:Nat):Nat:=(H.first+i) % 5
def zE (H:aW) (i:Nat):iZ:=H.ring (jG H i)
structure HOk (H:aW):Prop where
 f:H.first<5
 c:H.count≤5
def vQ (w:World) (b:Nat) (H:aW):Prop:=w.heap[b]?=some (.cells (wG H) 312 (0,0))
theorem rI (H:aW) {j:Nat} (h:j<5):(wG H)[1+j*3]?=some (.int .i64 (H.ring j).seq)∧(wG H)[1+j*3+1]?=some (.int .i64 (H.ring j).base)∧(wG H)[1+j*3+2]?=some (.int .i64 (H.ring j).span):=by
 match j,h with
 | 0,_=>exact ⟨rfl,rfl,rfl⟩
 | 1,_=>exact ⟨rfl,rfl,rfl⟩
 | 2,_=>exact ⟨rfl,rfl,rfl⟩
 | 3,_=>exact ⟨rfl,rfl,rfl⟩
 | 4,_=>exact ⟨rfl,rfl,rfl⟩
theorem vF (H:aW) (i:Nat):jG H i<5:=Nat.mod_lt _ aA
theorem zZ {w:World} {b:Nat} {H:aW} (h:vQ w b H) (ok:HOk H) (i:Nat) (hi:i≤5) :
  Calls Tryz.prog 156 #[.pointer (some ⟨b,0,none⟩),.int .i64 i] w fun e w'=>fH w e (.pointer (some ⟨b,1+jG H i*3,none⟩)) w':=by
 have c16:w.cell? ⟨b,16,none⟩=some (.int .i64 H.first):=aB h 16
 have hlt:=aC h
 have hf:=ok.f
 have hs:=vF H i
 go_enter Tryz.func156,Tryz.ntmps156
 go_wp2
 go_quiet (fail)
 go_wp2
 go_ret
 exact ⟨rfl,(aD.refl _ _).drewN _⟩
def pI (H:aW):Int:=if H.count=0 then 0 else wrap64 ((zE H (H.count - 1)).seq+(zE H (H.count - 1)).span)
theorem uW {w:World} {b:Nat} {H:aW} (h:vQ w b H) (ok:HOk H) :
  Calls Tryz.prog 157 #[.pointer (some ⟨b,0,none⟩)] w fun e w'=>fH w e (.int .i64 (pI H)) w':=by
 have c17:w.cell? ⟨b,17,none⟩=some (.int .i64 H.count):=aB h 17
 have hlt:=aC h
 unfold pI
 by_cases h0:H.count=0
 ·rw [if_pos h0]
  rw [h0] at c17
  go_enter Tryz.func157,Tryz.ntmps157
  go_wp2
  go_ret
  exact ⟨rfl,aD.refl _ _⟩
 ·rw [if_neg h0]
  have hc:=ok.c
  have A:=zZ h ok (H.count - 1) aA
  rw [show ((H.count - 1:Nat):Int)=(H.count:Int) - 1 by omega] at A
  have HA:=Lib.hid A
  have hs:=vF H (H.count - 1)
  have cs:=rI H hs
  have c1:w.cell? ⟨b,1+jG H (H.count - 1)*3,none⟩=some (.int .i64 (zE H (H.count - 1)).seq):=(aB h _).trans cs.1
  have c3:w.cell? ⟨b,1+jG H (H.count - 1)*3+2,none⟩=some (.int .i64 (zE H (H.count - 1)).span):=(aB h _).trans cs.2.2
  clear A cs
  go_enter Tryz.func157,Tryz.ntmps157
  go_wp2_with fail
  refine HA.out.mono ?_
  rintro e w1 ⟨rfl,k1⟩
  have d1:=k1.cell' c1 (fun e=>e)
  have d3:=k1.cell' c3 (fun e=>e)
  have hlt1:b<w1.heap.size:=Nat.lt_of_lt_of_le hlt k1.size
  clear c1 c3 c17
  go_wp2
  go_quiet (fail)
  go_wp2
  go_ret
  exact ⟨rfl,k1.drewN _⟩
def upd (r:Nat→iZ) (j:Nat) (s:iZ):Nat→iZ:=fun k=>if k=j then s else r k
def shed (H:aW):aW:=if H.count=5 then ⟨H.epoch,H.ring,(H.first+1) % 5,4⟩ else H
def zU (H:aW) (s:iZ):aW:=⟨H.epoch,upd H.ring (jG (shed H) (shed H).count) s,(shed H).first,(shed H).count+1⟩
theorem zI {H:aW} (ok:HOk H):HOk (shed H)∧(shed H).count≤4:=by
 unfold shed
 have h1:=ok.f
 have h2:=ok.c
 by_cases h:H.count=5
 ·rw [if_pos h];exact ⟨⟨Nat.mod_lt _ aA,by show 4≤5;omega⟩,Nat.le_refl _⟩
 ·rw [if_neg h];exact ⟨ok,by omega⟩
theorem yS {H:aW} (ok:HOk H) (s:iZ):HOk (zU H s):=⟨(zI ok).1.f,by have:=(zI ok).2;show (shed H).count+1≤5;omega⟩
end Go.Proofs.YteapahcklcldkaaGreatDoor.Idm
