/-
  The statement is proved: all that it reaches, in parts.
-/
import Derived.Test.YteapahcklcldkaaGreatDoorW12
import Derived.Test.YteapahcklcldkaaGreatDoorW16
import Derived.Test.YteapahcklcldkaaGreatDoorW23
import Derived.Deep.MidRow
set_option maxRecDepth 100000
set_option maxHeartbeats 16000000
namespace Go.Proofs.YteapahcklcldkaaGreatDoor
open Go.RowKit Fx
structure cK where
 b:aR
 a:Option Addr
 cap:Nat
 pos:Nat
 size:Nat
def qK (k:cK):List Value:=[.int .i64 k.b.base,.int .i64 k.b.span,.int .i64 k.b.prod,.int .i64 k.b.epoch,.int .i64 k.b.seq,.slice k.a k.b.recs.length k.cap,.int .i64 k.pos,.int .i64 k.size]
def cH (L:List cK):Nat:=(L.map (·.size)).sum
def qM (base:Int) (L:List cK):Int:=match L.getLast? with | none=>base | some k=>k.b.base+k.b.span
def gW (L:List cK) (k0:cK):cK:=L.getLastD k0
theorem tL (L:List cK) (k:cK):cH (L++[k])=cH L+k.size:=by simp [cH]
theorem aC0 (base:Int) (L:List cK) (k:cK):qM base (L++[k])=k.b.base+k.b.span:=by simp [qM]
theorem aGu (k:cK):(qK k).length=8:=rfl
theorem aM5 (L:List cK) (k:cK):(L++[k]).flatMap qK=L.flatMap qK++qK k:=by simp
def yF (w:World) (FI:Nat→Prop) (ib:Nat) (ev:Int):List cK→Prop
 | []=>zP w ib ev∧∀ k,FI k↔k=ib
 | k0::r=>∃ sb tb,iX w ib sb tb ev k0.b.base (gW r k0).b.base (gW r k0).pos∧∀ k,FI k↔k=ib∨k=sb
theorem yF.self {w:World} {FI:Nat→Prop} {ib:Nat} {ev:Int} {L:List cK} (h:yF w FI ib ev L):FI ib:=by
 cases L with
 | nil=>exact (h.2 ib).2 rfl
 | cons k r=>obtain ⟨sb,tb,_,h⟩:=h;exact (h ib).2 (.inl rfl)
theorem yF.keep {w w':World} {FI S:Nat→Prop} {ib:Nat} {ev:Int} {L:List cK} (h:yF w FI ib ev L) (k:aD S w w') (hS:∀ k,FI k→¬ S k):yF w' FI ib ev L:=by
 cases L with
 | nil=>exact ⟨(k.block ib (aC h.1) (hS _ ((h.2 ib).2 rfl))).trans h.1,h.2⟩
 | cons k0 r=>
  obtain ⟨sb,tb,h1,h4⟩:=h
  exact ⟨sb,tb,h1.keep k (hS _ ((h4 ib).2 (.inl rfl))) (hS _ ((h4 sb).2 (.inr rfl))),h4⟩
theorem yF.lt {w:World} {FI:Nat→Prop} {ib:Nat} {ev:Int} {L:List cK} (h:yF w FI ib ev L):∀ k,FI k→k<w.heap.size:=by
 cases L with
 | nil=>intro k hk;rw [(h.2 k).1 hk];exact aC h.1
 | cons k0 r=>
  obtain ⟨sb,tb,h1,h4⟩:=h
  intro k hk
  obtain ⟨_,_,_,hb,hs⟩:=h1.cells
  rcases (h4 k).1 hk with e | e
  ·rw [e];exact aC hb
  ·rw [e];exact World.block_lt_of_cell? w _ hs
structure zR (w:World) (F:Nat→Prop) (sb db:Nat) (nm:ByteArray) (base ev:Int) (L:List cK) (ib:Nat) (v:Value) (D FI:Nat→Prop):Prop where
 blk:w.heap[sb]?=some (.cells #[.pointer (some ⟨db,0,none⟩),.string nm,.int .i64 base,.int .i64 (qM base L),.int .i64 (cH L),v,.pointer (some ⟨ib,0,none⟩)] 426 (0,0))
 row:w.ownsRow 0 475 8 v L.length (L.flatMap qK)
 data:∀ k∈L,dN D w k.b k.a k.cap
 ix:yF w FI ib ev L
 own:F sb∧(∀ k,v.ownBlock=some k→F k)∧(∀ k,D k→F k)∧∀ k,FI k→F k
 ne1:¬ FI sb∧¬ D sb∧v.ownBlock≠some sb
 ne2:∀ k,v.ownBlock=some k→¬ FI k∧¬ D k
 ne3:∀ k,FI k→¬ D k
 lt:∀ k,F k→k<w.heap.size
 small:∀ k∈L,0≤k.b.base∧k.b.base≤1000∧k.pos≤1000
def dT (w:World) (F:Nat→Prop) (sb db:Nat) (nm:ByteArray) (base ev:Int) (L:List cK):Prop:=∃ ib v D FI,zR w F sb db nm base ev L ib v D FI
theorem fS {w w':World} {S:Nat→Prop} {B:Nat} {e:TypeId} {n:Nat} {v:Value} {k:Nat} {xs:List Value} (h:w.ownsRow B e n v k xs) (hk:aD S w w') (hS:∀ g,v.ownBlock=some g→¬ S g):w'.ownsRow B e n v k xs:=by
 rcases h with ⟨h1,h2⟩
 refine ⟨h1,?_⟩
 rcases h2 with h2 | ⟨g,cap,cur,rfl,hb,hg,hc,hm,hs,ht⟩
 ·exact .inl h2
 ·exact .inr ⟨g,cap,cur,rfl,hb,(hk.block g (Array.getElem?_eq_some_iff.1 hg).1 (hS g rfl)).trans hg,hc,hm,hs,ht⟩
section
variable {w w':World} {F F' S:Nat→Prop} {sb db:Nat} {nm:ByteArray} {base ev:Int} {L:List cK} {ib:Nat} {v:Value} {D FI:Nat→Prop}
theorem zR.keep (h:zR w F sb db nm base ev L ib v D FI) (k:aD S w w') (hS:∀ k,F k→¬ S k):zR w' F sb db nm base ev L ib v D FI:=
 ⟨(k.block sb (aC h.blk) (hS _ h.own.1)).trans h.blk,fS h.row k (fun g e=>hS g (h.own.2.1 g e)),fun x hx=>(h.data x hx).keep k (fun j e=>hS j (h.own.2.2.1 j e)) (fun _ e=>e),h.ix.keep k (fun j e=>hS j (h.own.2.2.2 j e)),h.own,h.ne1,h.ne2,h.ne3,fun j e=>Nat.lt_of_lt_of_le (h.lt j e) k.size,h.small⟩
theorem zR.more (h:zR w F sb db nm base ev L ib v D FI) (hF:∀ k,F k→F' k) (hl:∀ k,F' k→k<w.heap.size):zR w F' sb db nm base ev L ib v D FI:=
 ⟨h.blk,h.row,h.data,h.ix,⟨hF _ h.own.1,fun k e=>hF k (h.own.2.1 k e),fun k e=>hF k (h.own.2.2.1 k e),fun k e=>hF k (h.own.2.2.2 k e)⟩,h.ne1,h.ne2,h.ne3,hl,h.small⟩
theorem dT.keep (h:dT w F sb db nm base ev L) (k:aD S w w') (hS:∀ k,F k→¬ S k):dT w' F sb db nm base ev L:=by
 obtain ⟨ib,v,D,FI,h⟩:=h
 exact ⟨ib,v,D,FI,h.keep k hS⟩
theorem dT.k0 (h:dT w F sb db nm base ev L) (k:K0 w w'):dT w' F sb db nm base ev L:=h.keep k (fun _ _ e=>e)
theorem dT.more (h:dT w F sb db nm base ev L) (hF:∀ k,F k→F' k) (hl:∀ k,F' k→k<w.heap.size):dT w F' sb db nm base ev L:=by
 obtain ⟨ib,v,D,FI,h⟩:=h
 exact ⟨ib,v,D,FI,h.more hF hl⟩
theorem dT.self (h:dT w F sb db nm base ev L):F sb:=by
 obtain ⟨ib,v,D,FI,h⟩:=h
 exact h.own.1
theorem dT.lt (h:dT w F sb db nm base ev L):∀ k,F k→k<w.heap.size:=by
 obtain ⟨ib,v,D,FI,h⟩:=h
 exact h.lt
theorem dT.cells (h:dT w F sb db nm base ev L):w.cell? ⟨sb,0,none⟩=some (.pointer (some ⟨db,0,none⟩))∧w.cell? ⟨sb,1,none⟩=some (.string nm)∧w.cell? ⟨sb,2,none⟩=some (.int .i64 base)∧w.cell? ⟨sb,3,none⟩=some (.int .i64 (qM base L))∧w.cell? ⟨sb,4,none⟩=some (.int .i64 (cH L))∧sb<w.heap.size:=by
 obtain ⟨ib,v,D,FI,h⟩:=h
 exact ⟨aB h.blk 0,aB h.blk 1,aB h.blk 2,aB h.blk 3,aB h.blk 4,aC h.blk⟩
theorem wS (h:dT w F sb db nm base ev L):Calls Tryz.prog 211 #[.pointer (some ⟨sb,0,none⟩)] w fun e w'=>e=.returned (.int .i64 (qM base L))∧w'=w:=by
 obtain ⟨c0,c1,c2,c3,c4,lt⟩:=h.cells
 clear h
 go_enter Tryz.func211,Tryz.ntmps211
 go_wp2
 go_ret
 exact ⟨rfl,rfl⟩
theorem aBm (h:dT w F sb db nm base ev L):Calls Tryz.prog 213 #[.pointer (some ⟨sb,0,none⟩)] w fun e w'=>e=.returned (.int .i64 (cH L))∧w'=w:=by
 obtain ⟨c0,c1,c2,c3,c4,lt⟩:=h.cells
 clear h
 go_enter Tryz.func213,Tryz.ntmps213
 go_wp2
 go_ret
 exact ⟨rfl,rfl⟩
end
theorem aQk (k:cK) (w:World) (h:-1000000000000000≤k.b.base∧k.b.base≤1000000000000000) (h':-1000000000000000≤k.b.span∧k.b.span≤1000000000000000):Calls Tryz.prog 335 #[.agg #[.int .i64 k.b.base,.int .i64 k.b.span,.int .i64 k.b.prod,.int .i64 k.b.epoch,.int .i64 k.b.seq,.slice k.a k.b.recs.length k.cap,.int .i64 k.pos,.int .i64 k.size]] w fun e w'=>e=.returned (.int .i64 (k.b.base+k.b.span))∧K0 w w':=by
 obtain ⟨h1,h2⟩:=h
 obtain ⟨h3,h4⟩:=h'
 go_enter Tryz.func335,Tryz.ntmps335
 go_wp2
 go_ret
 exact ⟨rfl,(aD.refl _ _).alloc _⟩
theorem aJa (w:World):Calls Tryz.prog 347 #[.slice none 0 0] w fun e w'=>e=.returned (.slice none 0 0)∧K0 w w':=by
 have q1:∀ w:World,(binOp .eql 37 (.slice none 0 0) (.slice none 0 0)).run Tryz.prog w=.ok (.bool true) w:=fun w=>Lib.run_eql_slice_nil w 37 98 none 0 0 0 0 Tryz.underlying37
 go_enter Tryz.func347,Tryz.ntmps347
 go_wp2
 go_ret
 exact ⟨rfl,aD.refl _ _⟩
theorem aAe (w:World):Calls Tryz.prog 162 #[.slice none 0 0] w fun e w'=>e=.returned (.slice none 0 0)∧K0 w w':=by
 have q1:∀ w:World,(binOp .eql 96 (.slice none 0 0) (.slice none 0 0)).run Tryz.prog w=.ok (.bool true) w:=fun w=>Lib.run_eql_slice_nil w 96 232 none 0 0 0 0 Tryz.underlying96
 go_enter Tryz.func162,Tryz.ntmps162
 go_wp2
 go_ret
 exact ⟨rfl,aD.refl _ _⟩
theorem aJb (w:World) (g off cap:Nat) (r:dY) (hc:∀ j,j<7→w.cell? ⟨g,off+j,none⟩=(bA r)[j]?) :
  Calls Tryz.prog 347 #[.slice (some ⟨g,off,none⟩) 1 cap] w fun e w'=>∃ g' cap',e=.returned (.slice (some ⟨g',0,none⟩) 1 cap')∧w'.ownsRow w.heap.size 98 7 (.slice (some ⟨g',0,none⟩) 1 cap') 1 (bA r)∧K0 w w':=by
 have q1:∀ w:World,(binOp .eql 37 (.slice (some ⟨g,off,none⟩) 1 cap) (.slice none 0 0)).run Tryz.prog w=.ok (.bool false) w:=fun w=>Lib.run_eql_slice_nil w 37 98 (some ⟨g,off,none⟩) 1 cap 0 0 Tryz.underlying37
 have hnews:∀ j u,(bA r)[j]?=some u→(w.alloc (.cells #[] 98)).cell? ((⟨g,off,none⟩:Addr).add j)=some u:=fun j u hu=>by
  have hj:j<7:=(List.getElem?_eq_some_iff.1 hu).1
  have:=hc j hj
  rw [hu] at this
  rw [Addr.add_mid]
  exact ((aD.refl (fun _=>False) w).alloc _).cell' this (fun e=>e)
 have hone:∀ u∈bA r,u.oneCell'=true:=by
  intro u hu
  simp only [bA,List.mem_cons,List.mem_nil_iff,or_false] at hu
  rcases hu with rfl | rfl | rfl | rfl | rfl | rfl | rfl <;> rfl
 have hown:(w.alloc (.cells #[] 98)).ownsRow w.heap.size 98 7 (.slice (some ⟨w.heap.size,0,none⟩) 0 0) 0 []:=World.ownsRow_made w #[] 0 (Nat.le_refl _) jX rfl
 have hen:(bA r).length=1*7:=rfl
 clear hc
 obtain ⟨i,hi,hz,hz1,hz2⟩:=info_parts aEh
 go_enter Tryz.func347,Tryz.ntmps347
 go_wp2_with (at_builtin;refine wpList_append_lies _ rfl _ _ _ rfl w.heap.size _ i _ 7 88 Tryz.underlying37 hi hz hz1 hz2 rfl aE _ 0 [] rfl hown _ 1 _ (bA r) rfl hen hnews hone aE (by unfold maxLen;decide) aE aK _ rfl ?_;intro g' cap' w3 hv1 hv2 hv3 hv4)
 go_ret
 simp only [Nat.zero_add,List.nil_append] at hv1
 exact ⟨g',cap',rfl,hv1,((aD.refl _ _).alloc _).grown hv2 (fun k e hk'=>by cases e;exact absurd hk' (Nat.lt_irrefl _))⟩
theorem aAy (r:List cK) (k k0:cK):gW (r++[k]) k0=k:=by simp [gW]
def yR (L:List cK) (k:cK):Prop:=match L with
 | []=>True
 | k0::r=>(gW r k0).b.base<k.b.base∧(gW r k0).pos<k.pos
theorem aKn {L:List cK} {k0:cK} (h:∀ k∈(k0::L),0≤k.b.base∧k.b.base≤1000∧k.pos≤1000):0≤(gW L k0).b.base∧(gW L k0).b.base≤1000∧(gW L k0).pos≤1000:=by
 exact h _ List.getLastD_mem_cons
theorem aQj {w:World} {FI:Nat→Prop} {ib:Nat} {ev:Int} {L:List cK} (h:yF w FI ib ev L) (k:cK) (t:Int) (hs:∀ k∈L,0≤k.b.base∧k.b.base≤1000∧k.pos≤1000) (hp:k.pos=cH L) (hb:0≤k.b.base∧k.b.base≤1000) (hf:yR L k) (hpe:(k.pos:Int)<ev) (hev:ev≤1000) (ht:0≤t∧t≤1099511627776) :
  Calls Tryz.prog 345 #[.pointer (some ⟨ib,0,none⟩),.int .i64 k.b.base,.int .i64 (cH L),.int .i64 t] w fun e w'=>e=.returned (.int .i64 0)∧∃ FI',yF w' FI' ib ev (L++[k])∧aD (fun j=>j=ib) w w'∧∀ j,FI' j→FI j∨w.heap.size≤j:=by
 cases L with
 | nil=>
  refine (aG7 ib ev k.b.base t w h.1 ⟨hb.1,by omega⟩ ⟨ht.1,ht.2⟩).mono ?_
  rintro e w' ⟨rfl,⟨sb,tb,h1,h2,h3⟩,k1⟩
  refine ⟨rfl,fun j=>j=ib∨j=sb,⟨sb,tb,?_,fun _=>Iff.rfl⟩,k1,?_⟩
  ·show iX w' ib sb tb ev k.b.base k.b.base k.pos
   rw [hp];exact h1
  ·rintro j (rfl | rfl)
   ·exact .inl ((h.2 _).2 rfl)
   ·exact .inr h2
 | cons k0 r=>
  obtain ⟨sb,tb,h1,h4⟩:=h
  obtain ⟨q1,q2,q3⟩:=aKn hs
  obtain ⟨f1,f2⟩:=hf
  rw [← hp]
  refine (aJo k.b.base k.pos t h1 ⟨hb.1,by omega⟩ ⟨by omega,by omega⟩ ⟨ht.1,ht.2⟩ ⟨q1,q2⟩ ⟨by omega,by omega⟩ f1 aA hpe aA).mono ?_
  rintro e w' ⟨rfl,h5,k1⟩
  refine ⟨rfl,FI,⟨sb,tb,?_,h4⟩,k1,fun j e=>.inl e⟩
  show iX w' ib sb tb ev k0.b.base (gW (r++[k]) k0).b.base (gW (r++[k]) k0).pos
  rw [aAy]
  exact h5
theorem eJ {fn:Func} {p:Tmp} {ty:TypeId} (h:fn.results=#[.cell p ty]) (tmps:Array Value) (P:Program) (w:World) :
  (results fn tmps).run P w=((asAddr (tmps.getD p undef)).run P w).andThen fun a w₁=>(loadVar ty a).run P w₁:=by
 simp only [results,h]
 simp [Sem.run_bind,Result.andThen]
inductive Few (b:aR):Prop where
 | none (h:b.recs=[])
 | one (r:dY) (h:b.recs=[r]) (p:bT r)
def aEm (b:aR):Int:=match b.recs with
 | []=>-1
 | r::_=>r.time
theorem Few.lat {b:aR} (h:Few b):-1≤aEm b∧aEm b≤1099511627776:=by
 cases h with
 | none h=>unfold aEm;rw [h];decide
 | one r h p=>
  obtain ⟨q1,_⟩:=fB p.ok
  unfold aEm;rw [h]
  dsimp only
  omega
theorem aHb (b:aR) (a:Option Addr) (cap:Nat) (w:World) :
  Calls Tryz.prog 346 #[.agg #[.int .i64 b.base,.int .i64 b.span,.int .i64 b.prod,.int .i64 b.epoch,.int .i64 b.seq,.slice a 0 cap]] w fun e w'=>e=.returned (.int .i64 (-1))∧K0 w w':=by
 go_enter Tryz.func346,Tryz.ntmps346
 go_wp2
 refine wp_loop_rounds 1 ?_
 rw [rounds_succ]
 go_wp2
 go_ret
 exact ⟨rfl,(aD.refl _ _).alloc _⟩
theorem aJu (b:aR) (g off cap:Nat) (r:dY) (w:World) (hc:∀ j,j<7→w.cell? ⟨g,off+j,none⟩=(bA r)[j]?) (ht:0≤r.time) :
  Calls Tryz.prog 346 #[.agg #[.int .i64 b.base,.int .i64 b.span,.int .i64 b.prod,.int .i64 b.epoch,.int .i64 b.seq,.slice (some ⟨g,off,none⟩) 1 cap]] w fun e w'=>e=.returned (.int .i64 r.time)∧K0 w w':=by
 have c0:w.cell? ⟨g,off,none⟩=some (.int .i64 r.at_):=hc 0 aE
 have c1:w.cell? ⟨g,off+1,none⟩=some (.int .i64 r.time):=hc 1 aE
 have c2:w.cell? ⟨g,off+2,none⟩=some (.bool false):=hc 2 aE
 have c3:w.cell? ⟨g,off+3,none⟩=some (.string r.key):=hc 3 aE
 have c4:w.cell? ⟨g,off+4,none⟩=some (.bool false):=hc 4 aE
 have c5:w.cell? ⟨g,off+5,none⟩=some (.string r.value):=hc 5 aE
 have c6:w.cell? ⟨g,off+6,none⟩=some (.slice none 0 0):=hc 6 aE
 have hl:=World.block_lt_of_cell? w _ c0
 have hm:max (-1) r.time=r.time:=aA
 clear hc
 go_enter Tryz.func346,Tryz.ntmps346
 go_wp2
 refine wp_loop_rounds 2 ?_
 rw [rounds_succ]
 go_wp2
 rw [rounds_succ]
 go_wp2
 go_ret
 refine ⟨rfl,?_⟩
 (repeat (first | with_reducible exact aD.refl _ _ | with_reducible apply aD.drew | with_reducible refine aD.alloc ?_ _ | with_reducible refine aD.setC ?_ _ _ (fun e=>absurd e aN)))
theorem aJt {D:Nat→Prop} {w:World} {b:aR} {a:Option Addr} {cap:Nat} (h:dN D w b a cap) (hf:Few b) :
  Calls Tryz.prog 346 #[.agg #[.int .i64 b.base,.int .i64 b.span,.int .i64 b.prod,.int .i64 b.epoch,.int .i64 b.seq,.slice a b.recs.length cap]] w fun e w'=>e=.returned (.int .i64 (aEm b))∧K0 w w':=by
 cases hf with
 | none hn=>unfold aEm;rw [hn];exact aHb b a cap w
 | one r hn p=>
  obtain ⟨q1,_⟩:=fB p.ok
  obtain ⟨g,off,rfl,hc⟩:=h.rec_ 0 vP
  have e0:b.recs[0]'vP=r:=vP
  rw [e0] at hc
  have:=aJu b g off cap r w (fun j hj=>by have:=hc j hj;rwa [Nat.zero_mul,Nat.add_zero] at this) q1.2.2.1
  unfold aEm;rw [hn];exact this
theorem aGn (b:aR) (w:World) :
  Calls Tryz.prog 276 #[.agg #[.int .i64 b.base,.int .i64 b.span,.int .i64 b.prod,.int .i64 b.epoch,.int .i64 b.seq,.slice none 0 0]] w fun e w'=>e=.returned (.agg #[.int .i64 b.base,.int .i64 b.span,.int .i64 b.prod,.int .i64 b.epoch,.int .i64 b.seq,.slice none 0 0])∧K0 w w':=by
 have HB:Hid (((w.alloc (.cells #[.int .i64 b.base,.int .i64 b.span,.int .i64 b.prod,.int .i64 b.epoch,.int .i64 b.seq,.slice none 0 0] 39)).alloc (.cells #[.int .i64 0,.int .i64 0,.int .i64 0,.int .i64 0,.int .i64 0,.slice none 0 0] 39)).heap[w.heap.size]?=some (.cells #[.int .i64 b.base,.int .i64 b.span,.int .i64 b.prod,.int .i64 b.epoch,.int .i64 b.seq,.slice none 0 0] 39 (0,0))):=aL (aI w _ _ rfl) _
 have HR:Hid (((w.alloc (.cells #[.int .i64 b.base,.int .i64 b.span,.int .i64 b.prod,.int .i64 b.epoch,.int .i64 b.seq,.slice none 0 0] 39)).alloc (.cells #[.int .i64 0,.int .i64 0,.int .i64 0,.int .i64 0,.int .i64 0,.slice none 0 0] 39)).heap[w.heap.size+1]?=some (.cells #[.int .i64 0,.int .i64 0,.int .i64 0,.int .i64 0,.int .i64 0,.slice none 0 0] 39 (0,0))):=aI _ _ _ aK
 have HK:Hid (K0 w ((w.alloc (.cells #[.int .i64 b.base,.int .i64 b.span,.int .i64 b.prod,.int .i64 b.epoch,.int .i64 b.seq,.slice none 0 0] 39)).alloc (.cells #[.int .i64 0,.int .i64 0,.int .i64 0,.int .i64 0,.int .i64 0,.slice none 0 0] 39))):=((aD.refl _ _).alloc _).alloc _
 go_enter Tryz.func276,Tryz.ntmps276
 go_wp2_with fail
 refine (aJa _).mono ?_
 rintro e w1 ⟨rfl,k1⟩
 have hb1:=(k1.block _ (aC HB.out) (fun e=>e)).trans HB.out
 have hr1:=(k1.block _ (aC HR.out) (fun e=>e)).trans HR.out
 have HK1:=Lib.hid (HK.out.tr k1)
 have hn:¬ w.heap.size=w.heap.size+1:=aA
 have hn2:¬ w.heap.size+1=w.heap.size:=aA
 have b0:w1.cell? ⟨w.heap.size,0,none⟩=some (.int .i64 b.base):=aB hb1 0
 have b1:w1.cell? ⟨w.heap.size,1,none⟩=some (.int .i64 b.span):=aB hb1 1
 have b2:w1.cell? ⟨w.heap.size,2,none⟩=some (.int .i64 b.prod):=aB hb1 2
 have b3:w1.cell? ⟨w.heap.size,3,none⟩=some (.int .i64 b.epoch):=aB hb1 3
 have b4:w1.cell? ⟨w.heap.size,4,none⟩=some (.int .i64 b.seq):=aB hb1 4
 have b5:w1.cell? ⟨w.heap.size,5,none⟩=some (.slice none 0 0):=aB hb1 5
 have f5:=aH hb1 5
 have r0:w1.cell? ⟨w.heap.size+1,0,none⟩=some (.int .i64 0):=aB hr1 0
 have r1:w1.cell? ⟨w.heap.size+1,1,none⟩=some (.int .i64 0):=aB hr1 1
 have r2:w1.cell? ⟨w.heap.size+1,2,none⟩=some (.int .i64 0):=aB hr1 2
 have r3:w1.cell? ⟨w.heap.size+1,3,none⟩=some (.int .i64 0):=aB hr1 3
 have r4:w1.cell? ⟨w.heap.size+1,4,none⟩=some (.int .i64 0):=aB hr1 4
 have r5:w1.cell? ⟨w.heap.size+1,5,none⟩=some (.slice none 0 0):=aB hr1 5
 have g0:=aH hr1 0
 have g1:=aH hr1 1
 have g2:=aH hr1 2
 have g3:=aH hr1 3
 have g4:=aH hr1 4
 have g5:=aH hr1 5
 have HHR:=Lib.hid hr1
 clear hb1 hr1 k1
 go_wp2_with fail
 refine wp_loop_rounds 1 ?_
 rw [rounds_succ]
 go_wp2_with fail
 refine bodyPost_ret (v:=.agg #[.int .i64 b.base,.int .i64 b.span,.int .i64 b.prod,.int .i64 b.epoch,.int .i64 b.seq,.slice none 0 0]) ?_ rfl ?_
 ·rw [eJ rfl]
  go_simp
 ·refine ⟨rfl,?_⟩
  (repeat (first | with_reducible exact HK1.out | with_reducible apply aD.drew | with_reducible refine aD.alloc ?_ _ | with_reducible refine aD.setC ?_ _ _ (fun e=>absurd e aN)))
theorem aJc (b:aR) (g off cap:Nat) (r:dY) (w:World) (hc:∀ j,j<7→w.cell? ⟨g,off+j,none⟩=(bA r)[j]?) :
  Calls Tryz.prog 276 #[.agg #[.int .i64 b.base,.int .i64 b.span,.int .i64 b.prod,.int .i64 b.epoch,.int .i64 b.seq,.slice (some ⟨g,off,none⟩) 1 cap]] w fun e w'=>∃ g' cap',e=.returned (.agg #[.int .i64 b.base,.int .i64 b.span,.int .i64 b.prod,.int .i64 b.epoch,.int .i64 b.seq,.slice (some ⟨g',0,none⟩) 1 cap'])∧w.heap.size≤g'∧w'.ownsRow 0 98 7 (.slice (some ⟨g',0,none⟩) 1 cap') 1 (bA r)∧K0 w w':=by
 have HB:Hid (((w.alloc (.cells #[.int .i64 b.base,.int .i64 b.span,.int .i64 b.prod,.int .i64 b.epoch,.int .i64 b.seq,.slice (some ⟨g,off,none⟩) 1 cap] 39)).alloc (.cells #[.int .i64 0,.int .i64 0,.int .i64 0,.int .i64 0,.int .i64 0,.slice none 0 0] 39)).heap[w.heap.size]?=some (.cells #[.int .i64 b.base,.int .i64 b.span,.int .i64 b.prod,.int .i64 b.epoch,.int .i64 b.seq,.slice (some ⟨g,off,none⟩) 1 cap] 39 (0,0))):=aL (aI w _ _ rfl) _
 have HR:Hid (((w.alloc (.cells #[.int .i64 b.base,.int .i64 b.span,.int .i64 b.prod,.int .i64 b.epoch,.int .i64 b.seq,.slice (some ⟨g,off,none⟩) 1 cap] 39)).alloc (.cells #[.int .i64 0,.int .i64 0,.int .i64 0,.int .i64 0,.int .i64 0,.slice none 0 0] 39)).heap[w.heap.size+1]?=some (.cells #[.int .i64 0,.int .i64 0,.int .i64 0,.int .i64 0,.int .i64 0,.slice none 0 0] 39 (0,0))):=aI _ _ _ aK
 have HK:Hid (K0 w ((w.alloc (.cells #[.int .i64 b.base,.int .i64 b.span,.int .i64 b.prod,.int .i64 b.epoch,.int .i64 b.seq,.slice (some ⟨g,off,none⟩) 1 cap] 39)).alloc (.cells #[.int .i64 0,.int .i64 0,.int .i64 0,.int .i64 0,.int .i64 0,.slice none 0 0] 39))):=((aD.refl _ _).alloc _).alloc _
 have HC:Hid (∀ wx,K0 w wx→∀ j,j<7→wx.cell? ⟨g,off+j,none⟩=(bA r)[j]?):=fun wx k j hj=>by
  have h1:=hc j hj
  have h2:(bA r)[j]?=some ((bA r)[j]'(by simpa [bA] using hj)):=List.getElem?_eq_getElem _
  rw [h2] at h1 ⊢
  exact k.cell' h1 (fun e=>e)
 clear hc
 go_enter Tryz.func276,Tryz.ntmps276
 go_wp2_with fail
 refine (aJb _ g off cap r (HC.out _ HK.out)).mono ?_
 rintro e w1 ⟨g',cap',rfl,hrow,k1⟩
 have HW:Hid (((w.alloc (.cells #[.int .i64 b.base,.int .i64 b.span,.int .i64 b.prod,.int .i64 b.epoch,.int .i64 b.seq,.slice (some ⟨g,off,none⟩) 1 cap] 39)).alloc (.cells #[.int .i64 0,.int .i64 0,.int .i64 0,.int .i64 0,.int .i64 0,.slice none 0 0] 39)).heap.size=w.heap.size+1+1):=by show _=_;simp
 have hgl:=hrow.lt g' rfl
 have HGL:Hid (w.heap.size+1+1≤g'∧g'<w1.heap.size):=⟨HW.out▸hgl.1,hgl.2⟩
 have hb1:=(k1.block _ (aC HB.out) (fun e=>e)).trans HB.out
 have hr1:=(k1.block _ (aC HR.out) (fun e=>e)).trans HR.out
 have HK1:=Lib.hid (HK.out.tr k1)
 have b5:w1.cell? ⟨w.heap.size,5,none⟩=some (.slice (some ⟨g,off,none⟩) 1 cap):=aB hb1 5
 have f5:=aH hb1 5
 have HB1:=Lib.hid hb1
 have HR1:=Lib.hid hr1
 have HROW:=Lib.hid hrow
 clear hb1 hr1 k1 hrow hgl
 have hsz1:=HGL.out.1
 have hsz2:=HGL.out.2
 go_upto_region 2 with fail
 obtain ⟨W2,hW2⟩:∃ W2,W2=w1.setCell ⟨w.heap.size,5,none⟩ (.slice (some ⟨g',0,none⟩) 1 cap'):=⟨_,rfl⟩
 rw [← hW2]
 have HK12:Hid (aD (fun j=>j=w.heap.size) w1 W2):=by rw [hW2];exact (aD.refl (fun j=>j=w.heap.size) w1).setC 5 _ (fun _=>rfl)
 have HB2:Hid (W2.heap[w.heap.size]?=some (.cells #[.int .i64 b.base,.int .i64 b.span,.int .i64 b.prod,.int .i64 b.epoch,.int .i64 b.seq,.slice (some ⟨g',0,none⟩) 1 cap'] 39 (0,0))):=by rw [hW2];exact aM HB1.out 5 _
 have HR2:=Lib.hid ((HK12.out.block _ (aC HR1.out) aA).trans HR1.out)
 have HROW2:Hid (W2.ownsRow 0 98 7 (.slice (some ⟨g',0,none⟩) 1 cap') 1 (bA r)):=by
  have h:=fS HROW.out HK12.out (fun j e=>by cases e;show ¬ g'=w.heap.size;omega)
  rcases h with ⟨h1,h2⟩
  refine ⟨h1,?_⟩
  rcases h2 with h2 | ⟨q,c,cur,h3,_,h4⟩
  ·exact .inl h2
  ·exact .inr ⟨q,c,cur,h3,Nat.zero_le _,h4⟩
 have b5:W2.cell? ⟨w.heap.size,5,none⟩=some (.slice (some ⟨g',0,none⟩) 1 cap'):=aB HB2.out 5
 have v0:W2.cell? ⟨g',0,none⟩=some (.int .i64 r.at_):=HROW2.out.cellAt 0 aE
 have v1:W2.cell? ⟨g',1,none⟩=some (.int .i64 r.time):=HROW2.out.cellAt 1 aE
 have v2:W2.cell? ⟨g',2,none⟩=some (.bool false):=HROW2.out.cellAt 2 aE
 have v3:W2.cell? ⟨g',3,none⟩=some (.string r.key):=HROW2.out.cellAt 3 aE
 have v4:W2.cell? ⟨g',4,none⟩=some (.bool false):=HROW2.out.cellAt 4 aE
 have v5:W2.cell? ⟨g',5,none⟩=some (.string r.value):=HROW2.out.cellAt 5 aE
 have v6:W2.cell? ⟨g',6,none⟩=some (.slice none 0 0):=HROW2.out.cellAt 6 aE
 have hgl2:g'<W2.heap.size:=Nat.lt_of_lt_of_le hsz2 HK12.out.size
 have hwl2:w.heap.size<W2.heap.size:=aC HB2.out
 clear hW2 f5
 go_wp2_with fail
 refine wp_loop_rounds 2 ?_
 rw [rounds_succ]
 go_wp2_with fail
 obtain ⟨W3,hW3⟩:∃ W3,W3=W2.alloc (.cells #[.int .i64 r.at_,.int .i64 r.time,.bool false,.string r.key,.bool false,.string r.value,.slice none 0 0] 98):=⟨_,rfl⟩
 rw [← hW3]
 have HK23:Hid (K0 W2 W3):=by rw [hW3];exact (aD.refl _ _).alloc _
 have HE3:Hid (W3.heap[W2.heap.size]?=some (.cells #[.int .i64 r.at_,.int .i64 r.time,.bool false,.string r.key,.bool false,.string r.value,.slice none 0 0] 98 (0,0))):=by rw [hW3];exact aI W2 _ _ rfl
 have hgx:∃ c cur,(W3.heap[g']?=some (.cells cur 98 (0,0)))∧c=cur:=by
  have h:=fS HROW2.out HK23.out (fun _ _ e=>e)
  rcases h.2 with ⟨h2,_⟩ | ⟨q,c,cur,h3,_,h4,_⟩
  ·cases h2
  ·cases h3;exact ⟨_,cur,h4,rfl⟩
 obtain ⟨_,cur,HG3,_⟩:=hgx
 have HG3:=Lib.hid HG3
 have hi6:cur[6]?=some (.slice none 0 0):=by rw [← aB HG3.out 6];exact HK23.out.cell' v6 (fun e=>e)
 have HI6:=Lib.hid hi6
 have q5:W3.cell? ⟨w.heap.size,5,none⟩=some (.slice (some ⟨g',0,none⟩) 1 cap'):=HK23.out.cell' b5 (fun e=>e)
 have e6:W3.cell? ⟨W2.heap.size,6,none⟩=some (.slice none 0 0):=aB HE3.out 6
 have v6:W3.cell? ⟨g',6,none⟩=some (.slice none 0 0):=HK23.out.cell' v6 (fun e=>e)
 clear hW3 b5 v0 v1 v2 v3 v4 v5 hi6
 refine aX 8 (fun w'=>w'.cell? ⟨w.heap.size,5,none⟩=some (.slice (some ⟨g',0,none⟩) 1 cap')∧w'.cell? ⟨W2.heap.size,6,none⟩=some (.slice none 0 0)) (fun _=>True) aF ⟨by go_simp,by go_simp⟩ trivial (fun hS=>?_)
 refine tB 0 hS (fun hS=>?_)
 simp only [Act.put,Sw]
 refine tA 1 hS (fun hS=>?_)
 simp only [Act.put]
 refine tB 2 hS (fun hS=>?_)
 simp only [Act.put]
 refine tB 3 hS (fun hS=>?_)
 simp only [Act.put]
 refine tA 4 hS (fun hS=>?_)
 simp only [Act.put]
 refine tO 5 (fun K hK=>?_)
 go_simp
 refine (aAe _).mono ?_
 rintro e w4 ⟨rfl,k4⟩
 have k34:K0 W3 w4:=K0.tr (aD.drew (aD.refl _ _)) k4
 have HK34:=Lib.hid k34
 have hv6:w4.cell? ⟨g',6,none⟩=some (.slice none 0 0):=k34.cell' v6 (fun e=>e)
 have hf6:w4.frozen? ⟨g',6,none⟩=false:=aH ((k34.block _ (aC HG3.out) (fun e=>e)).trans HG3.out) 6
 clear k4
 go_simp
 refine hK.out _ _ ⟨fun _=>⟨by (first | assumption | (refine aD.cell' (S:=fun _=>False) (w:=W3) ?_ aG (fun e=>e);first | assumption | (repeat (first | with_reducible exact aD.refl _ _ | with_reducible apply aD.drew | with_reducible refine aD.alloc ?_ _ | with_reducible refine aD.setC ?_ _ _ (fun e=>absurd e aN))))),by (first | assumption | (refine aD.cell' (S:=fun _=>False) (w:=W3) ?_ aG (fun e=>e);first | assumption | (repeat (first | with_reducible exact aD.refl _ _ | with_reducible apply aD.drew | with_reducible refine aD.alloc ?_ _ | with_reducible refine aD.setC ?_ _ _ (fun e=>absurd e aN)))))⟩,trivial⟩ (fun hS=>?_)
 clear hK K
 try simp only [Act.put,Sw]
 refine tB 6 hS (fun hS=>?_)
 simp only [Act.put,Sw]
 refine tB 7 hS (fun hS=>?_)
 simp only [Act.put]
 refine tO 8 (fun K hK=>?_)
 go_simp
 refine hK.out _ _ ⟨fun e=>absurd e aE,trivial⟩ (fun hS=>?_)
 clear hK K
 try simp only [Act.put,Sw]
 refine bC aF ?_ _
 skip
 have HK4F:Hid (K0 W3 (w4.setCell ⟨g',6,none⟩ (.slice none 0 0))):=dU HK34.out ((HK34.out.block _ (aC HG3.out) (fun e=>e)).trans HG3.out) HI6.out
 have HK2F:=Lib.hid (HK23.out.tr HK4F.out)
 obtain ⟨W5,hW5⟩:∃ W5,W5=w4.setCell ⟨g',6,none⟩ (.slice none 0 0):=⟨_,rfl⟩
 rw [← hW5] at HK2F ⊢
 have hB5:=(HK2F.out.block _ (aC HB2.out) (fun e=>e)).trans HB2.out
 have hR5:=(HK2F.out.block _ (aC HR2.out) (fun e=>e)).trans HR2.out
 have p0:W5.cell? ⟨w.heap.size,0,none⟩=some (.int .i64 b.base):=aB hB5 0
 have p1:W5.cell? ⟨w.heap.size,1,none⟩=some (.int .i64 b.span):=aB hB5 1
 have p2:W5.cell? ⟨w.heap.size,2,none⟩=some (.int .i64 b.prod):=aB hB5 2
 have p3:W5.cell? ⟨w.heap.size,3,none⟩=some (.int .i64 b.epoch):=aB hB5 3
 have p4:W5.cell? ⟨w.heap.size,4,none⟩=some (.int .i64 b.seq):=aB hB5 4
 have p5:W5.cell? ⟨w.heap.size,5,none⟩=some (.slice (some ⟨g',0,none⟩) 1 cap'):=aB hB5 5
 have r0:W5.cell? ⟨w.heap.size+1,0,none⟩=some (.int .i64 0):=aB hR5 0
 have r1:W5.cell? ⟨w.heap.size+1,1,none⟩=some (.int .i64 0):=aB hR5 1
 have r2:W5.cell? ⟨w.heap.size+1,2,none⟩=some (.int .i64 0):=aB hR5 2
 have r3:W5.cell? ⟨w.heap.size+1,3,none⟩=some (.int .i64 0):=aB hR5 3
 have r4:W5.cell? ⟨w.heap.size+1,4,none⟩=some (.int .i64 0):=aB hR5 4
 have r5:W5.cell? ⟨w.heap.size+1,5,none⟩=some (.slice none 0 0):=aB hR5 5
 have g0:=aH hR5 0
 have g1:=aH hR5 1
 have g2:=aH hR5 2
 have g3:=aH hR5 3
 have g4:=aH hR5 4
 have g5:=aH hR5 5
 clear hW5 hB5 hR5 q5 e6 v6 hv6 hf6 k34 hS
 go_wp2_with fail
 rw [rounds_succ]
 go_wp2_with fail
 have HKS:Hid (K0 w W5):=K0.tr (HK1.out.trans HK12.out (fun j hj e=>by omega)) HK2F.out
 have HRF:Hid (W5.ownsRow 0 98 7 (.slice (some ⟨g',0,none⟩) 1 cap') 1 (bA r)):=fS HROW2.out HK2F.out (fun _ _ e=>e)
 refine bodyPost_ret (v:=.agg #[.int .i64 b.base,.int .i64 b.span,.int .i64 b.prod,.int .i64 b.epoch,.int .i64 b.seq,.slice (some ⟨g',0,none⟩) 1 cap']) ?_ rfl ?_
 ·rw [eJ rfl]
  go_simp
 ·refine ⟨g',cap',rfl,by omega,?_,?_⟩
  ·refine fS (S:=fun j=>j=w.heap.size+1) HRF.out ?_ (fun j e=>by cases e;show ¬ g'=w.heap.size+1;omega)
   exact ((((((aD.refl (fun j=>j=w.heap.size+1) W5).setC 0 _ (fun _=>rfl)).setC 1 _ (fun _=>rfl)).setC 2 _ (fun _=>rfl)).setC 3 _ (fun _=>rfl)).setC 4 _ (fun _=>rfl)).setC 5 _ (fun _=>rfl)
  ·(repeat (first | with_reducible exact HKS.out | with_reducible apply aD.drew | with_reducible refine aD.alloc ?_ _ | with_reducible refine aD.setC ?_ _ _ (fun e=>absurd e aN)))
theorem aQh:(Tryz.prog.info? 475).map (fun i=>(i.zero,i.size,i.bytes))=some (some (.agg #[.int .i64 0,.int .i64 0,.int .i64 0,.int .i64 0,.int .i64 0,.slice none 0 0,.int .i64 0,.int .i64 0]),8,80):=by kernel_rfl
def aUr (db:Nat) (nm:ByteArray) (base end_ size:Int) (v:Value) (ib:Nat):Obj:=.cells #[.pointer (some ⟨db,0,none⟩),.string nm,.int .i64 base,.int .i64 end_,.int .i64 size,v,.pointer (some ⟨ib,0,none⟩)] 426 (0,0)
theorem aQ0 {w w7:World} {F:Nat→Prop} {sb db:Nat} {nm:ByteArray} {base ev:Int} {L:List cK} {ib:Nat} {v:Value} {D FI:Nat→Prop} (h:zR w F sb db nm base ev L ib v D FI) {D0 FI':Nat→Prop} {k:cK} (hb:dN D0 w k.b k.a k.cap) (hD0:∀ j,D0 j→j<w.heap.size∧¬ F j)
  (hs:0≤k.b.base∧k.b.base≤1000∧k.pos≤1000) {g cp M:Nat} (hrow:w7.ownsRow 0 475 8 (.slice (some ⟨g,0,none⟩) (L.length+1) cp) (L.length+1) (L.flatMap qK++qK k)) (hg:v.ownBlock=some g∨w.heap.size≤g) (hgM:g<M) (hM:w.heap.size≤M)
  (hK:aD (fun j=>j=sb∨v.ownBlock=some j∨j=ib) w w7) (hblk:w7.heap[sb]?=some (aUr db nm base (k.b.base+k.b.span) (cH L+k.size:Nat) (.slice (some ⟨g,0,none⟩) (L.length+1) cp) ib)) (hix:yF w7 FI' ib ev (L++[k])) (hFI:∀ j,FI' j→FI j∨M≤j) :
  zR w7 (fun j=>F j∨D0 j∨(w.heap.size≤j∧j<w7.heap.size)) sb db nm base ev (L++[k]) ib (.slice (some ⟨g,0,none⟩) (L.length+1) cp) (fun j=>D j∨D0 j) FI'∧aD F w w7:=by
 have hsb:=aC h.blk
 have hgl:g<w7.heap.size:=(hrow.lt g rfl).2
 have hown:∀ j,v.ownBlock=some j→j<w.heap.size:=fun j e=>h.lt j (h.own.2.1 j e)
 have hib:F ib:=h.own.2.2.2 ib h.ix.self
 have hS:∀ j,(j=sb∨v.ownBlock=some j∨j=ib)→F j:=fun j e=>by
  rcases e with rfl | e | rfl
  ·exact h.own.1
  ·exact h.own.2.1 j e
  ·exact hib
 have hDS:∀ j,D j→¬ (j=sb∨v.ownBlock=some j∨j=ib):=fun j e q=>by
  rcases q with rfl | q | rfl
  ·exact h.ne1.2.1 e
  ·exact (h.ne2 j q).2 e
  ·exact h.ne3 _ h.ix.self e
 have hD0S:∀ j,D0 j→¬ (j=sb∨v.ownBlock=some j∨j=ib):=fun j e q=>(hD0 j e).2 (hS j q)
 have hDl:∀ j,D j→j<w.heap.size:=fun j e=>h.lt j (h.own.2.2.1 j e)
 have hgF:∀ j,FI' j→¬ j=g:=fun j e q=>by
  subst q
  rcases hFI j e with e | e
  ·rcases hg with q | q
   ·exact (h.ne2 j q).1 e
   ·have:=h.ix.lt j e;omega
  ·omega
 have hgD:¬ (D g∨D0 g):=fun q=>by
  rcases hg with e | e
  ·rcases q with q | q
   ·exact (h.ne2 g e).2 q
   ·exact (hD0 g q).2 (h.own.2.1 g e)
  ·rcases q with q | q
   ·have:=hDl g q;omega
   ·have:=(hD0 g q).1;omega
 refine ⟨⟨?_,?_,?_,hix,⟨.inl h.own.1,?_,?_,?_⟩,⟨?_,?_,?_⟩,?_,?_,?_,?_⟩,hK.mono (fun j _ e=>hS j e)⟩
 ·rw [aC0,tL];exact hblk
 ·rw [aM5,List.length_append];exact hrow
 ·intro x hx
  rcases List.mem_append.1 hx with hx | hx
  ·exact (h.data x hx).keep hK hDS (fun _ e=>.inl e)
  ·obtain rfl:=List.mem_singleton.1 hx
   exact hb.keep hK hD0S (fun _ e=>.inr e)
 ·intro j e
  cases e
  rcases hg with e | e
  ·exact .inl (h.own.2.1 _ e)
  ·exact .inr (.inr ⟨e,hgl⟩)
 ·intro j e
  exact e.elim (fun e=>.inl (h.own.2.2.1 j e)) (fun e=>.inr (.inl e))
 ·intro j e
  rcases hFI j e with e' | e'
  ·exact .inl (h.own.2.2.2 j e')
  ·exact .inr (.inr ⟨by omega,hix.lt j e⟩)
 ·intro e
  rcases hFI sb e with e | e
  ·exact h.ne1.1 e
  ·omega
 ·intro e
  exact e.elim h.ne1.2.1 (fun e=>(hD0 sb e).2 h.own.1)
 ·intro e
  have e':g=sb:=Option.some.inj e
  subst e'
  rcases hg with e | e
  ·exact h.ne1.2.2 e
  ·omega
 ·intro j e
  cases e
  exact ⟨fun e=>hgF _ e rfl,hgD⟩
 ·intro j e q
  rcases hFI j e with e' | e'
  ·rcases q with q | q
   ·exact h.ne3 j e' q
   ·exact (hD0 j q).2 (h.own.2.2.2 j e')
  ·rcases q with q | q
   ·have:=hDl j q;omega
   ·have:=(hD0 j q).1;omega
 ·intro j e
  rcases e with e | e | e
  ·exact Nat.lt_of_lt_of_le (h.lt j e) hK.size
  ·exact Nat.lt_of_lt_of_le (hD0 j e).1 hK.size
  ·exact e.2
 ·intro x hx
  rcases List.mem_append.1 hx with hx | hx
  ·exact h.small x hx
  ·obtain rfl:=List.mem_singleton.1 hx
   exact hs
theorem uX {w:World} {F:Nat→Prop} {sb db:Nat} {nm:ByteArray} {base ev:Int} {L:List cK} {ib:Nat} {v:Value} {D FI:Nat→Prop} (h:zR w F sb db nm base ev L ib v D FI) {D0:Nat→Prop} {b:aR} {a:Option Addr} {cap sz:Nat} (hb:dN D0 w b a cap) (hfew:Few b) (hD0:∀ j,D0 j→j<w.heap.size∧¬ F j)
  (hs:0≤b.base∧b.base≤1000) (hsp:0≤b.span∧b.span≤50) (hsz:sz≤100000) (hpos:(cH L:Int)<ev) (hev:ev≤1000) (hf:yR L ⟨b,a,cap,cH L,sz⟩) (hl:L.length≤1000) :
  Calls Tryz.prog 274 #[.pointer (some ⟨sb,0,none⟩),.agg #[.int .i64 b.base,.int .i64 b.span,.int .i64 b.prod,.int .i64 b.epoch,.int .i64 b.seq,.slice a b.recs.length cap],.int .i64 sz] w fun e w'=>e=.returned (.tuple #[])∧
   dT w' (fun j=>F j∨D0 j∨(w.heap.size≤j∧j<w'.heap.size)) sb db nm base ev (L++[⟨b,a,cap,cH L,sz⟩])∧aD F w w':=by
 have HH:=Lib.hid h
 have HBAT:=Lib.hid hb
 have HFEW:=Lib.hid hfew
 have HD0:=Lib.hid hD0
 have HS:=Lib.hid hs
 have HF:=Lib.hid hf
 have HN:Hid (L.length≤1000000):=Nat.le_trans hl aE
 have HPOS:=Lib.hid hpos
 have HEV:=Lib.hid hev
 obtain ⟨s1,s2⟩:=hs
 obtain ⟨s3,s4⟩:=hsp
 have s5:(0:Int)≤cH L:=aA
 have s6:(cH L:Int)≤1000:=aA
 have hsb:=aC h.blk
 have HSB:=Lib.hid hsb
 have hvl:∀ j,v.ownBlock=some j→j<w.heap.size:=fun j e=>h.lt j (h.own.2.1 j e)
 have HVL:=Lib.hid hvl
 clear h hb hfew hD0 hf hl hpos hev hvl
 go_enter Tryz.func274,Tryz.ntmps274
 go_wp2_with fail
 obtain ⟨Wb,hWb⟩:∃ Wb,Wb=w.alloc (.cells #[.int .i64 b.base,.int .i64 b.span,.int .i64 b.prod,.int .i64 b.epoch,.int .i64 b.seq,.slice a b.recs.length cap] 39):=⟨_,rfl⟩
 rw [← hWb]
 have HKb:Hid (K0 w Wb):=by rw [hWb];exact (aD.refl _ _).alloc _
 have HZb:Hid (Wb.heap.size=w.heap.size+1):=by rw [hWb];exact World.size_alloc _ _
 have HBs:Hid (Wb.heap[sb]?=some (aUr db nm base (qM base L) (cH L) v ib)):=(HKb.out.block sb hsb (fun e=>e)).trans HH.out.blk
 have HBx:Hid (Wb.heap[w.heap.size]?=some (.cells #[.int .i64 b.base,.int .i64 b.span,.int .i64 b.prod,.int .i64 b.epoch,.int .i64 b.seq,.slice a b.recs.length cap] 39 (0,0))):=by rw [hWb];exact aI w _ _ rfl
 have HROW:Hid (Wb.ownsRow 0 475 8 v L.length (L.flatMap qK)):=fS HH.out.row HKb.out (fun _ _ e=>e)
 have HNV:Hid (v.ownBlock≠some sb):=HH.out.ne1.2.2
 have HNX:Hid (v.ownBlock≠some w.heap.size):=fun e=>Nat.lt_irrefl _ (HVL.out _ e)
 have q5:Wb.cell? ⟨sb,5,none⟩=some v:=aB HBs.out 5
 have q4:Wb.cell? ⟨sb,4,none⟩=some (.int .i64 (cH L)):=aB HBs.out 4
 have x0:Wb.cell? ⟨w.heap.size,0,none⟩=some (.int .i64 b.base):=aB HBx.out 0
 have x1:Wb.cell? ⟨w.heap.size,1,none⟩=some (.int .i64 b.span):=aB HBx.out 1
 have x2:Wb.cell? ⟨w.heap.size,2,none⟩=some (.int .i64 b.prod):=aB HBx.out 2
 have x3:Wb.cell? ⟨w.heap.size,3,none⟩=some (.int .i64 b.epoch):=aB HBx.out 3
 have x4:Wb.cell? ⟨w.heap.size,4,none⟩=some (.int .i64 b.seq):=aB HBx.out 4
 have x5:Wb.cell? ⟨w.heap.size,5,none⟩=some (.slice a b.recs.length cap):=aB HBx.out 5
 clear hWb
 refine aX 13 (fun w'=>w'.cell? ⟨sb,5,none⟩=some v∧w'.cell? ⟨sb,4,none⟩=some (.int .i64 (cH L))∧w'.cell? ⟨w.heap.size,0,none⟩=some (.int .i64 b.base)∧w'.cell? ⟨w.heap.size,1,none⟩=some (.int .i64 b.span)∧w'.cell? ⟨w.heap.size,2,none⟩=some (.int .i64 b.prod)∧w'.cell? ⟨w.heap.size,3,none⟩=some (.int .i64 b.epoch)∧w'.cell? ⟨w.heap.size,4,none⟩=some (.int .i64 b.seq)∧w'.cell? ⟨w.heap.size,5,none⟩=some (.slice a b.recs.length cap)) (fun _=>True) aF ⟨by go_simp,by go_simp,by go_simp,by go_simp,by go_simp,by go_simp,by go_simp,by go_simp⟩ trivial (fun hS=>?_)
 refine tB 0 hS (fun hS=>?_)
 simp only [Act.put,Sw]
 refine tB 1 hS (fun hS=>?_)
 simp only [Act.put]
 refine tB 2 hS (fun hS=>?_)
 simp only [Act.put]
 refine tB 3 hS (fun hS=>?_)
 simp only [Act.put]
 refine tA 4 hS (fun hS=>?_)
 simp only [Act.put]
 refine tA 5 hS (fun hS=>?_)
 simp only [Act.put]
 refine tB 6 hS (fun hS=>?_)
 simp only [Act.put]
 refine tB 7 hS (fun hS=>?_)
 simp only [Act.put]
 refine tB 8 hS (fun hS=>?_)
 simp only [Act.put]
 refine tA 9 hS (fun hS=>?_)
 simp only [Act.put]
 refine tB 10 hS (fun hS=>?_)
 simp only [Act.put]
 refine tB 11 hS (fun hS=>?_)
 simp only [Act.put]
 refine tO 12 (fun K hK=>?_)
 go_simp
 refine hK.out _ _ ⟨fun _=>⟨by (refine aD.cell' (S:=fun _=>False) (w:=Wb) ?_ aG (fun e=>e);(repeat (first | with_reducible exact aD.refl _ _ | with_reducible apply aD.drew | with_reducible refine aD.alloc ?_ _ | with_reducible refine aD.setC ?_ _ _ (fun e=>absurd e aN)))),by (refine aD.cell' (S:=fun _=>False) (w:=Wb) ?_ aG (fun e=>e);(repeat (first | with_reducible exact aD.refl _ _ | with_reducible apply aD.drew | with_reducible refine aD.alloc ?_ _ | with_reducible refine aD.setC ?_ _ _ (fun e=>absurd e aN)))),by (refine aD.cell' (S:=fun _=>False) (w:=Wb) ?_ aG (fun e=>e);(repeat (first | with_reducible exact aD.refl _ _ | with_reducible apply aD.drew | with_reducible refine aD.alloc ?_ _ | with_reducible refine aD.setC ?_ _ _ (fun e=>absurd e aN)))),by (refine aD.cell' (S:=fun _=>False) (w:=Wb) ?_ aG (fun e=>e);(repeat (first | with_reducible exact aD.refl _ _ | with_reducible apply aD.drew | with_reducible refine aD.alloc ?_ _ | with_reducible refine aD.setC ?_ _ _ (fun e=>absurd e aN)))),by (refine aD.cell' (S:=fun _=>False) (w:=Wb) ?_ aG (fun e=>e);(repeat (first | with_reducible exact aD.refl _ _ | with_reducible apply aD.drew | with_reducible refine aD.alloc ?_ _ | with_reducible refine aD.setC ?_ _ _ (fun e=>absurd e aN)))),by (refine aD.cell' (S:=fun _=>False) (w:=Wb) ?_ aG (fun e=>e);(repeat (first | with_reducible exact aD.refl _ _ | with_reducible apply aD.drew | with_reducible refine aD.alloc ?_ _ | with_reducible refine aD.setC ?_ _ _ (fun e=>absurd e aN)))),by (refine aD.cell' (S:=fun _=>False) (w:=Wb) ?_ aG (fun e=>e);(repeat (first | with_reducible exact aD.refl _ _ | with_reducible apply aD.drew | with_reducible refine aD.alloc ?_ _ | with_reducible refine aD.setC ?_ _ _ (fun e=>absurd e aN)))),by (refine aD.cell' (S:=fun _=>False) (w:=Wb) ?_ aG (fun e=>e);(repeat (first | with_reducible exact aD.refl _ _ | with_reducible apply aD.drew | with_reducible refine aD.alloc ?_ _ | with_reducible refine aD.setC ?_ _ _ (fun e=>absurd e aN))))⟩,trivial⟩ (fun hS=>?_)
 clear hK K
 try simp only [Act.put,Sw]
 refine tO 13 (fun K hK=>?_)
 refine aDj rfl rfl Tryz.underlying423 aQh rfl aE rfl (HROW.out.alloc _) rfl (fA _ _ _ rfl) rfl aBx ⟨HN.out,by decide⟩ (Nat.zero_le _) ?_
 intro g cp w2 hA2
 have HB2:=Lib.hid (hA2.far (aL HBs.out _) HNV.out)
 have HX2:=Lib.hid (hA2.far (aL HBx.out _) HNX.out)
 have y5:=aB HB2.out 5
 have f5:=aH HB2.out 5
 have HA2:=Lib.hid hA2
 clear hA2
 refine hK.out _ _ ⟨fun e=>absurd e aE,trivial⟩ (fun hS=>?_)
 clear hK K
 try simp only [Act.put,Sw]
 refine tB 14 hS (fun hS=>?_)
 simp only [Act.put]
 refine tB 15 hS (fun hS=>?_)
 simp only [Act.put]
 refine tO 16 (fun K hK=>?_)
 go_simp
 refine hK.out _ _ ⟨fun e=>absurd e aE,trivial⟩ (fun hS=>?_)
 clear hK K
 try simp only [Act.put,Sw]
 refine bC aF ?_ _
 skip
 go_wp2_with fail
 obtain ⟨W3,hW3⟩:∃ W3,W3=w2.setCell ⟨sb,5,none⟩ (.slice (some ⟨g,0,none⟩) (L.length+1) cp):=⟨_,rfl⟩
 rw [← hW3]
 have HKA:Hid (aD (fun j=>v.ownBlock=some j) w w2):=(((HKb.out.mono (S1:=fun j=>v.ownBlock=some j) (fun _ _ e=>e.elim)).alloc _).drew).grown HA2.out.grown (fun j e _=>e)
 have HK3:Hid (aD (fun j=>j=sb∨v.ownBlock=some j∨j=ib) w W3):=by rw [hW3];exact (HKA.out.mono (fun j _ e=>.inr (.inl e))).setC 5 _ (fun _=>.inl rfl)
 have HK23:Hid (aD (fun j=>j=sb) w2 W3):=by rw [hW3];exact (aD.refl (fun j=>j=sb) w2).setC 5 _ (fun _=>rfl)
 have HB3:Hid (W3.heap[sb]?=some (aUr db nm base (qM base L) (cH L) (.slice (some ⟨g,0,none⟩) (L.length+1) cp) ib)):=by rw [hW3];exact aM HB2.out 5 _
 have HX3:Hid (W3.heap[w.heap.size]?=some (.cells #[.int .i64 b.base,.int .i64 b.span,.int .i64 b.prod,.int .i64 b.epoch,.int .i64 b.seq,.slice a b.recs.length cap] 39 (0,0))):=(HK23.out.block _ (aC HX2.out) aA).trans HX2.out
 have HGW:Hid (v.ownBlock=some g∨w.heap.size≤g):=HA2.out.at_.imp id (fun e=>by rw [e];have:=HZb.out;show w.heap.size≤(Wb.alloc _).drew.heap.size;simp;omega)
 have HGS:Hid (g≠sb):=fun e=>HGW.out.elim (fun q=>HH.out.ne1.2.2 (e▸q)) (fun q=>by omega)
 have HGX:Hid (g≠ib):=fun e=>HGW.out.elim (fun q=>(HH.out.ne2 g q).1 (e▸HH.out.ix.self)) (fun q=>by have:=HH.out.ix.lt ib HH.out.ix.self;omega)
 have HR3:Hid (W3.ownsRow 0 475 8 (.slice (some ⟨g,0,none⟩) (L.length+1) cp) (L.length+1) (L.flatMap qK++qK ⟨b,a,cap,cH L,sz⟩)):=fS HA2.out.own HK23.out (fun j e=>by cases e;exact HGS.out)
 have HG3:Hid (g<W3.heap.size):=Nat.lt_of_lt_of_le HA2.out.lt HK23.out.size
 have HLAT:Hid (∀ wx,K0 W3 wx→Calls Tryz.prog 346 #[.agg #[.int .i64 b.base,.int .i64 b.span,.int .i64 b.prod,.int .i64 b.epoch,.int .i64 b.seq,.slice a b.recs.length cap]] wx fun e w'=>e=.returned (.int .i64 (aEm b))∧K0 wx w'):=fun wx k=>
  aJt ((HBAT.out.keep HK3.out (fun j e q=>by
   rcases q with rfl | q | rfl
   ·exact (HD0.out _ e).2 HH.out.own.1
   ·exact (HD0.out _ e).2 (HH.out.own.2.1 _ q)
   ·exact (HD0.out _ e).2 (HH.out.own.2.2.2 _ HH.out.ix.self)) (fun _ e=>e)).keep0 k) HFEW.out
 have HKY:Hid (aD (fun j=>j=sb∨v.ownBlock=some j) w W3):=(HKA.out.mono (S1:=fun j=>j=sb∨v.ownBlock=some j) (fun j _ e=>.inr e)).trans HK23.out (fun j _ e=>.inl e)
 have HADD:Hid (∀ wx,K0 W3 wx→Calls Tryz.prog 345 #[.pointer (some ⟨ib,0,none⟩),.int .i64 b.base,.int .i64 (cH L),.int .i64 (max (aEm b) 0)] wx fun e w'=>e=.returned (.int .i64 0)∧∃ FI',yF w' FI' ib ev (L++[⟨b,a,cap,cH L,sz⟩])∧aD (fun j=>j=ib) wx w'∧∀ j,FI' j→FI j∨W3.heap.size≤j):=fun wx k=>
  (aQj ((HH.out.ix.keep HKY.out (fun j e q=>by
   rcases q with rfl | q
   ·exact HH.out.ne1.1 e
   ·exact (HH.out.ne2 _ q).1 e)).keep k (fun _ _ e=>e)) ⟨b,a,cap,cH L,sz⟩ _ HH.out.small rfl HS.out HF.out HPOS.out HEV.out (by have:=HFEW.out.lat;omega)).mono fun e w' q=>⟨q.1,by
    obtain ⟨FI',q1,q2,q3⟩:=q.2
    exact ⟨FI',q1,q2,fun j e=>(q3 j e).imp id (fun e=>Nat.le_trans k.size e)⟩⟩
 have q6:W3.cell? ⟨sb,6,none⟩=some (.pointer (some ⟨ib,0,none⟩)):=aB HB3.out 6
 have q4:W3.cell? ⟨sb,4,none⟩=some (.int .i64 (cH L)):=aB HB3.out 4
 have x0:W3.cell? ⟨w.heap.size,0,none⟩=some (.int .i64 b.base):=aB HX3.out 0
 have x1:W3.cell? ⟨w.heap.size,1,none⟩=some (.int .i64 b.span):=aB HX3.out 1
 have x2:W3.cell? ⟨w.heap.size,2,none⟩=some (.int .i64 b.prod):=aB HX3.out 2
 have x3:W3.cell? ⟨w.heap.size,3,none⟩=some (.int .i64 b.epoch):=aB HX3.out 3
 have x4:W3.cell? ⟨w.heap.size,4,none⟩=some (.int .i64 b.seq):=aB HX3.out 4
 have x5:W3.cell? ⟨w.heap.size,5,none⟩=some (.slice a b.recs.length cap):=aB HX3.out 5
 clear hW3 y5 f5 q5 hS
 refine aX 13 (fun w'=>w'.cell? ⟨sb,6,none⟩=some (.pointer (some ⟨ib,0,none⟩))∧w'.cell? ⟨sb,4,none⟩=some (.int .i64 (cH L))∧w'.cell? ⟨w.heap.size,0,none⟩=some (.int .i64 b.base)∧w'.cell? ⟨w.heap.size,1,none⟩=some (.int .i64 b.span)∧w'.cell? ⟨w.heap.size,2,none⟩=some (.int .i64 b.prod)∧w'.cell? ⟨w.heap.size,3,none⟩=some (.int .i64 b.epoch)∧w'.cell? ⟨w.heap.size,4,none⟩=some (.int .i64 b.seq)∧w'.cell? ⟨w.heap.size,5,none⟩=some (.slice a b.recs.length cap)) (fun _=>True) aF ⟨by go_simp,by go_simp,by go_simp,by go_simp,by go_simp,by go_simp,by go_simp,by go_simp⟩ trivial (fun hS=>?_)
 refine tB 0 hS (fun hS=>?_)
 simp only [Act.put,Sw]
 refine tB 1 hS (fun hS=>?_)
 simp only [Act.put]
 refine tB 2 hS (fun hS=>?_)
 simp only [Act.put]
 refine tA 3 hS (fun hS=>?_)
 simp only [Act.put]
 refine tB 4 hS (fun hS=>?_)
 simp only [Act.put]
 refine tA 5 hS (fun hS=>?_)
 simp only [Act.put]
 refine tB 6 hS (fun hS=>?_)
 simp only [Act.put]
 refine tB 7 hS (fun hS=>?_)
 simp only [Act.put]
 refine tB 8 hS (fun hS=>?_)
 simp only [Act.put]
 refine tA 9 hS (fun hS=>?_)
 simp only [Act.put]
 refine tA 10 hS (fun hS=>?_)
 simp only [Act.put]
 refine tO 11 (fun K hK=>?_)
 go_simp
 refine (HLAT.out _ (aD.drew (aD.refl _ _))).mono ?_
 rintro e w4 ⟨rfl,k4⟩
 have k34:K0 W3 w4:=K0.tr (aD.drew (aD.refl _ _)) k4
 clear k4
 go_simp
 refine hK.out _ _ ⟨fun _=>⟨by (first | assumption | (refine aD.cell' (S:=fun _=>False) (w:=W3) ?_ aG (fun e=>e);first | assumption | (repeat (first | with_reducible exact aD.refl _ _ | with_reducible apply aD.drew | with_reducible refine aD.alloc ?_ _ | with_reducible refine aD.setC ?_ _ _ (fun e=>absurd e aN))))),by (first | assumption | (refine aD.cell' (S:=fun _=>False) (w:=W3) ?_ aG (fun e=>e);first | assumption | (repeat (first | with_reducible exact aD.refl _ _ | with_reducible apply aD.drew | with_reducible refine aD.alloc ?_ _ | with_reducible refine aD.setC ?_ _ _ (fun e=>absurd e aN))))),by (first | assumption | (refine aD.cell' (S:=fun _=>False) (w:=W3) ?_ aG (fun e=>e);first | assumption | (repeat (first | with_reducible exact aD.refl _ _ | with_reducible apply aD.drew | with_reducible refine aD.alloc ?_ _ | with_reducible refine aD.setC ?_ _ _ (fun e=>absurd e aN))))),by (first | assumption | (refine aD.cell' (S:=fun _=>False) (w:=W3) ?_ aG (fun e=>e);first | assumption | (repeat (first | with_reducible exact aD.refl _ _ | with_reducible apply aD.drew | with_reducible refine aD.alloc ?_ _ | with_reducible refine aD.setC ?_ _ _ (fun e=>absurd e aN))))),by (first | assumption | (refine aD.cell' (S:=fun _=>False) (w:=W3) ?_ aG (fun e=>e);first | assumption | (repeat (first | with_reducible exact aD.refl _ _ | with_reducible apply aD.drew | with_reducible refine aD.alloc ?_ _ | with_reducible refine aD.setC ?_ _ _ (fun e=>absurd e aN))))),by (first | assumption | (refine aD.cell' (S:=fun _=>False) (w:=W3) ?_ aG (fun e=>e);first | assumption | (repeat (first | with_reducible exact aD.refl _ _ | with_reducible apply aD.drew | with_reducible refine aD.alloc ?_ _ | with_reducible refine aD.setC ?_ _ _ (fun e=>absurd e aN))))),by (first | assumption | (refine aD.cell' (S:=fun _=>False) (w:=W3) ?_ aG (fun e=>e);first | assumption | (repeat (first | with_reducible exact aD.refl _ _ | with_reducible apply aD.drew | with_reducible refine aD.alloc ?_ _ | with_reducible refine aD.setC ?_ _ _ (fun e=>absurd e aN))))),by (first | assumption | (refine aD.cell' (S:=fun _=>False) (w:=W3) ?_ aG (fun e=>e);first | assumption | (repeat (first | with_reducible exact aD.refl _ _ | with_reducible apply aD.drew | with_reducible refine aD.alloc ?_ _ | with_reducible refine aD.setC ?_ _ _ (fun e=>absurd e aN)))))⟩,trivial⟩ (fun hS=>?_)
 clear hK K
 try simp only [Act.put,Sw]
 refine tB 12 hS (fun hS=>?_)
 simp only [Act.put,Sw]
 refine tO 13 (fun K hK=>?_)
 go_simp
 refine (HADD.out _ k34).mono ?_
 rintro e w5 ⟨rfl,FI',hI,kI,hg⟩
 have HI:=Lib.hid hI
 have HKI:=Lib.hid kI
 have HG:=Lib.hid hg
 clear hI kI hg
 go_simp
 refine hK.out _ _ ⟨fun e=>absurd e aE,trivial⟩ (fun hS=>?_)
 clear hK K
 try simp only [Act.put,Sw]
 refine bC aF ?_ _
 skip
 have HSI:Hid (¬ sb=ib):=fun e=>HH.out.ne1.1 (e▸HH.out.ix.self)
 have HXI:Hid (¬ w.heap.size=ib):=fun e=>by have:=HH.out.ix.lt ib HH.out.ix.self;omega
 have HK35:Hid (aD (fun j=>j=ib) W3 w5):=(k34.mono (S1:=fun j=>j=ib) (fun _ _ e=>e.elim)).trans HKI.out (fun _ _ e=>e)
 have HB5:Hid (w5.heap[sb]?=some (aUr db nm base (qM base L) (cH L) (.slice (some ⟨g,0,none⟩) (L.length+1) cp) ib)):=(HK35.out.block sb (aC HB3.out) HSI.out).trans HB3.out
 have HX5:=Lib.hid ((HK35.out.block _ (aC HX3.out) HXI.out).trans HX3.out)
 have z4:w5.cell? ⟨sb,4,none⟩=some (.int .i64 (cH L)):=aB HB5.out 4
 have z3:w5.cell? ⟨sb,3,none⟩=some (.int .i64 (qM base L)):=aB HB5.out 3
 have g4:=aH HB5.out 4
 have g3:=aH HB5.out 3
 have y0:w5.cell? ⟨w.heap.size,0,none⟩=some (.int .i64 b.base):=aB HX5.out 0
 have y1:w5.cell? ⟨w.heap.size,1,none⟩=some (.int .i64 b.span):=aB HX5.out 1
 have hne1:¬ w.heap.size=sb:=aA
 have hne2:¬ sb=w.heap.size:=aA
 clear k34 hS q6 q4 x0 x1 x2 x3 x4 x5
 go_wp2_with fail
 go_end0
 have HW7:aD (fun j=>j=sb) w5 ((w5.setCell ⟨sb,4,none⟩ (.int .i64 (cH L+sz))).setCell ⟨sb,3,none⟩ (.int .i64 (b.base+b.span))):=((aD.refl (fun j=>j=sb) w5).setC 4 _ (fun _=>rfl)).setC 3 _ (fun _=>rfl)
 have HWS:aD (fun j=>j=sb∨v.ownBlock=some j∨j=ib) w ((w5.setCell ⟨sb,4,none⟩ (.int .i64 (cH L+sz))).setCell ⟨sb,3,none⟩ (.int .i64 (b.base+b.span))):=
  (HK3.out.trans HK35.out (fun j _ e=>.inr (.inr e))).trans HW7 (fun j _ e=>.inl e)
 have hfin:=aQ0 HH.out (k:=⟨b,a,cap,cH L,sz⟩) (FI':=FI') (g:=g) (cp:=cp) (M:=W3.heap.size) HBAT.out HD0.out ⟨HS.out.1,HS.out.2,by have:=HPOS.out;have:=HEV.out;show cH L≤1000;omega⟩
  (fS (fS HR3.out HK35.out (fun j e=>by cases e;exact HGX.out)) HW7 (fun j e=>by cases e;exact HGS.out)) HGW.out HG3.out HK3.out.size HWS
  (aM (aM HB5.out 4 _) 3 _) (HI.out.keep HW7 (fun j e q=>by
   subst q
   rcases HG.out j e with e | e
   ·exact HH.out.ne1.1 e
   ·have:=HK3.out.size;omega)) HG.out
 exact ⟨rfl,⟨_,_,_,_,hfin.1⟩,hfin.2⟩
end Go.Proofs.YteapahcklcldkaaGreatDoor
