/-
  The statement is proved: all that it reaches, in parts.
-/
import Derived.Test.YteapahcklcldkaaGreatDoorW00
import Derived.WalkKit
import Derived.Maps.OwnSet
import Derived.Deep.Draws
import Derived.ProofKit
import Derived.Deep.Slices
import Derived.Deep.Strs
import Derived.SizedLaws
import Derived.WideKeyEntry
set_option maxRecDepth 100000
set_option maxHeartbeats 16000000
namespace Go.Proofs.YteapahcklcldkaaGreatDoor.Fx
open Go.RowKit Go.MapKept
def aQ {κ α:Type} [DecidableEq κ]:List (κ×α)→κ→Option α
 | [],_=>none
 | (k,v)::r,x=>if k=x then some v else aQ r x
def bD {κ α:Type} [DecidableEq κ]:List (κ×α)→κ→α→List (κ×α)
 | [],x,v=>[(x,v)]
 | (k,u)::r,x,v=>if k=x then (k,v)::r else (k,u)::bD r x v
def dQ {κ α:Type} [DecidableEq κ]:List (κ×α)→κ→List (κ×α)
 | [],_=>[]
 | (k,u)::r,x=>if k=x then r else (k,u)::dQ r x
structure aSx (P:Program) (kt:TypeId) (κ:Type) where
 d:TypeDesc
 under:P.underlying kt=some d
 enc:κ→Value
 isKey:∀ x,IsKey d (enc x)
 inj:∀ x y,enc x=enc y→x=y
structure qD (P:Program) (kt:TypeId) (κ:Type) [DecidableEq κ] where
 enc:κ→Value
 inj:∀ x y,enc x=enc y→x=y
 check:∀ (w:World) (em:Bool) (x:κ),(Instr.checkKey em 10000 kt (enc x)).run P w=.ok () w
 find:∀ (w:World) (x:κ) {es:List MapEntry} {L:List (κ×Value)},es.map (fun x=>(x.key,x.val))=L.map (fun p=>(enc p.1,p.2))→
  (Instr.findKey kt (enc x) es).run P w=.ok ((aQ L x).map fun v=>((L.findIdx fun p=>p.1=x),v)) w
 stays:∀ (w:World) (x:κ),(Instr.keyThatStays (enc x) (enc x)).run P w=.ok (enc x) w
section
variable {P:Program} {kt:TypeId} {κ:Type} [DecidableEq κ] (E:aSx P kt κ) {L:List (κ×Value)}
theorem aIb (x y:κ):Instr.sameNow E.d (E.enc x) (E.enc y)=some (decide (x=y)):=by
 obtain ⟨r,hr,hiff⟩:=sameNow_of_keys (E.isKey x) (E.isKey y)
 rw [hr]
 by_cases h:x=y
 ·subst h;rw [hiff.2 rfl];simp
 ·cases r
  ·simp [h]
  ·exact absurd (E.inj _ _ (hiff.1 rfl)) h
theorem aGy (x:κ):∀ (es:List MapEntry) (L:List (κ×Value)) (i:Nat),es.map (fun x=>(x.key,x.val))=L.map (fun p=>(E.enc p.1,p.2))→
  Instr.findNow E.d (E.enc x) es i=some ((aQ L x).map fun v=>(i+(L.findIdx fun p=>p.1=x),v)):=by
 intro es
 induction es with
 | nil=>intro L i h;cases L <;> simp_all [Instr.findNow,aQ]
 | cons e es ih=>
  intro L i h
  cases L with
  | nil=>simp at h
  | cons p L=>
   simp only [List.map_cons,List.cons.injEq] at h
   obtain ⟨h1,h2⟩:=h
   have hk:e.key=E.enc p.1:=congrArg Prod.fst h1
   have hv:e.val=p.2:=congrArg Prod.snd h1
   obtain ⟨k,v⟩:=p
   simp only at hk hv
   simp only [Instr.findNow,hk,aIb]
   by_cases hx:x=k
   ·exact aPc
   ·have hx':¬ k=x:=fun e=>hx e.symm
    simp [hx,ih L (i+1) h2,aQ,hx',List.findIdx_cons]
    cases aQ L x <;> simp
    omega
omit [DecidableEq κ] in
theorem aD4 (w:World) (em:Bool) (x:κ):(Instr.checkKey em 10000 kt (E.enc x)).run P w=.ok () w:=
 run_checkKey E.under (E.isKey x) em 9999
theorem aGx (w:World) (x:κ) {es:List MapEntry} (h:es.map (fun x=>(x.key,x.val))=L.map (fun p=>(E.enc p.1,p.2))) :
  (Instr.findKey kt (E.enc x) es).run P w=.ok ((aQ L x).map fun v=>((L.findIdx fun p=>p.1=x),v)) w:=by
 have:=aGy E x es L 0 h
 simp only [Nat.zero_add] at this
 exact run_findKey E.under this
def aSx.key:qD P kt κ:=⟨E.enc,E.inj,fun w em x=>aD4 E w em x,fun w x=>aGx E w x,fun _ x=>run_keyThatStays (E.isKey x)⟩
end
def eG {P:Program} {kt:TypeId} (h:P.underlying kt=some .string):qD P kt ByteArray:=
 aSx.key ⟨.string,h,.string,fun _=>trivial,fun _ _ e=>by cases e;rfl⟩
def aEi {P:Program} {kt:TypeId} {q:IntKind} (h:P.underlying kt=some (.int q)):qD P kt Int:=
 aSx.key ⟨.int q,h,.int q,fun _=>rfl,fun _ _ e=>by cases e;rfl⟩
section
variable {P:Program} {kt:TypeId} {κ:Type} [DecidableEq κ]
def bM (e:κ→Value) (w:World) (b:Nat) (L:List (κ×Value)):Prop:=
 ∃ es clock,w.heap[b]?=some (.map es clock)∧Stamped es clock∧es.toList.map (fun x=>(x.key,x.val))=L.map (fun p=>(e p.1,p.2))
variable (E:qD P kt κ) {w:World} {b:Nat} {L:List (κ×Value)}
omit [DecidableEq κ] in
theorem bM.lt {e:κ→Value} (h:bM e w b L):b<w.heap.size:=by
 obtain ⟨es,clock,hb,_⟩:=h
 exact (Array.getElem?_eq_some_iff.1 hb).1
omit [DecidableEq κ] in
theorem bM.of_block {e:κ→Value} {w':World} (h:bM e w b L) (hb:w'.heap[b]?=w.heap[b]?):bM e w' b L:=by
 obtain ⟨es,clock,h1,h2⟩:=h
 exact ⟨es,clock,hb.trans h1,h2⟩
omit [DecidableEq κ] in
theorem kF {e:κ→Value} (w:World):bM e (w.alloc (.map #[] 0)) w.heap.size []:=
 ⟨#[],0,(MapKept.heap_alloc w _).1,stamped_empty 0,rfl⟩
theorem lY {α:Type} {L:List (κ×α)} {x:κ} (h:aQ L x=none):∀ p∈L,p.1≠x:=by
 induction L with
 | nil=>simp
 | cons p L ih=>
  obtain ⟨k,v⟩:=p
  simp only [aQ] at h
  split at h
  ·cases h
  ·rename_i hk
   intro q hq
   cases hq with
   | head=>exact hk
   | tail _ hq=>exact ih h q hq
theorem bM.look {t et:TypeId} (h:bM E.enc w b L) (ht:P.underlying t=some (.map kt et)) {z:Value} (hz:(zeroValue et).run P w=.ok z w) (x:κ) (c:Bool) :
  (Instr.lookup t (.map (some b)) (E.enc x) c).run P w=.ok (if c then .tuple #[(aQ L x).getD z,.bool (aQ L x).isSome] else (aQ L x).getD z) w:=by
 obtain ⟨es,clock,hb,hs,hL⟩:=h
 have hf:=E.find w x hL
 cases hg:aQ L x with
 | none=>
  rw [hg] at hf
  cases c <;> simp [Instr.lookup,run_underlying ht,MapKept.run_getObj_map hb,E.check,hf,hz,Result.andThen]
 | some v=>
  rw [hg] at hf
  cases c <;> simp [Instr.lookup,run_underlying ht,MapKept.run_getObj_map hb,E.check,hf,Result.andThen]
omit [DecidableEq κ] in
theorem bM.len {e:κ→Value} {t et:TypeId} (h:bM e w b L) (ht:P.underlying t=some (.map kt et)) (ty:TypeId) :
  (Builtin.len_ #[t] ty #[.map (some b)]).run P w=.ok (.int .i64 L.length) w:=by
 obtain ⟨es,clock,hb,hs,hL⟩:=h
 have e1:es.size=L.length:=eB
 simp [Builtin.len_,run_underlying ht,MapKept.run_getObj_map hb,goInt,Result.andThen,e1]
def aO (w:World) (b:Nat) (o:Obj):World:={w with heap:=w.heap.setIfInBounds b o}
theorem cT (w:World) {b b':Nat} (o:Obj) (h:b'≠b):(aO w b o).heap[b']?=w.heap[b']?:=by
 simp [aO,Ne.symm h]
theorem nG (w:World) (b:Nat) (o:Obj):(aO w b o).heap.size=w.heap.size:=by simp [aO]
theorem aJl {α:Type} {L:List (κ×α)} {x:κ} {v:α} (h:aQ L x=some v):(L.findIdx fun p=>p.1=x)<L.length:=by
 induction L with
 | nil=>simp [aQ] at h
 | cons p L ih=>
  obtain ⟨k,u⟩:=p
  simp only [aQ] at h
  split at h
  ·rename_i hk;simp [List.findIdx_cons,hk]
  ·exact aKc
theorem mY {α:Type} {L:List (κ×α)} {x:κ} {v:α} (h:aQ L x=some v):L[(L.findIdx fun p=>p.1=x)]?=some (x,v):=by
 induction L with
 | nil=>simp [aQ] at h
 | cons p L ih=>
  obtain ⟨k,u⟩:=p
  simp only [aQ] at h
  split at h
  ·rename_i hk;subst hk;simp at h;subst h;simp [List.findIdx_cons]
  ·exact aKc
theorem uD {α:Type} {L:List (κ×α)} {x:κ} {v u:α} (h:aQ L x=some u):bD L x v=L.modify (L.findIdx fun p=>p.1=x) fun p=>(p.1,v):=by
 induction L with
 | nil=>simp [aQ] at h
 | cons p L ih=>
  obtain ⟨k,u⟩:=p
  simp only [aQ] at h
  split at h
  ·rename_i hk;subst hk;simp [bD,List.findIdx_cons]
  ·rename_i hk;simp [bD,List.findIdx_cons,hk,ih h]
theorem jK {α:Type} {L:List (κ×α)} {x:κ} {v:α} (h:aQ L x=none):bD L x v=L++[(x,v)]:=by
 induction L with
 | nil=>simp [bD]
 | cons p L ih=>
  obtain ⟨k,u⟩:=p
  simp only [aQ] at h
  split at h
  ·cases h
  ·rename_i hk;simp [bD,hk,ih h]
theorem aIw {α:Type} {L:List (κ×α)} {x:κ} {u:α} (h:aQ L x=some u):dQ L x=L.eraseIdx (L.findIdx fun p=>p.1=x):=by
 induction L with
 | nil=>simp [aQ] at h
 | cons p L ih=>
  obtain ⟨k,u⟩:=p
  simp only [aQ] at h
  split at h
  ·rename_i hk;subst hk;simp [dQ,List.findIdx_cons]
  ·rename_i hk;simp [dQ,List.findIdx_cons,hk,ih h]
theorem aMh {α:Type} {L:List (κ×α)} {x:κ} (h:aQ L x=none):dQ L x=L:=by
 induction L with
 | nil=>simp [dQ]
 | cons p L ih=>
  obtain ⟨k,u⟩:=p
  simp only [aQ] at h
  split at h
  ·cases h
  ·rename_i hk;simp [dQ,hk,ih h]
theorem bM.put {t et:TypeId} (h:bM E.enc w b L) (ht:P.underlying t=some (.map kt et)) (x:κ) (v:Value) :
  ∃ o,(Instr.mapUpdate t (.map (some b)) (E.enc x) v).run P w=.ok () (aO w b o)∧bM E.enc (aO w b o) b (bD L x v):=by
 have hlt:=h.lt
 obtain ⟨es,clock,hb,hs,hL⟩:=h
 have hf:=E.find w x hL
 have hsame:∀ o,(aO w b o).heap[b]?=some o:=fun o=>by simp [aO,hlt]
 cases hg:aQ L x with
 | none=>
  rw [hg] at hf
  refine ⟨.map (es.push {key:=E.enc x,val:=v,born:=clock}) (clock+1),?_,_,_,hsame _,stamped_push hs ?_,?_⟩
  ·simp [Instr.mapUpdate,run_underlying ht,MapKept.run_getObj_map hb,E.check,hf,run_setObj_map _ hb,Result.andThen,aO]
  ·intro y hy
   have hmem:(y.key,y.val)∈L.map (fun p=>(E.enc p.1,p.2)):=hL▸List.mem_map.2 ⟨y,hy,rfl⟩
   obtain ⟨p,hp,hpe⟩:=List.mem_map.1 hmem
   intro e
   have:E.enc p.1=E.enc x:=(congrArg Prod.fst hpe).trans e
   exact lY hg p hp (E.inj _ _ this)
  ·exact aIo
 | some u=>
  rw [hg] at hf
  simp only [Option.map_some] at hf
  have hi:=mY hg
  have hi':es[(L.findIdx fun p=>p.1=x)]?.map (fun y=>(y.key,y.val))=some (E.enc x,u):=by
   have:=congrArg (fun l=>l[(L.findIdx fun p=>p.1=x)]?) hL
   simp only [List.getElem?_map,Array.getElem?_toList,hi,Option.map_some] at this
   exact this
  obtain ⟨y,hy,hye⟩:=Option.map_eq_some_iff.1 hi'
  have hyk:y.key=E.enc x:=congrArg Prod.fst hye
  refine ⟨.map (es.modify (L.findIdx fun p=>p.1=x) fun e=>{e with key:=E.enc x,val:=v}) clock,?_,_,_,hsame _,stamped_modify hs _ _ (fun _ _=>rfl) ?_,?_⟩
  ·simp [Instr.mapUpdate,run_underlying ht,MapKept.run_getObj_map hb,E.check,hf,run_setObj_map _ hb,Result.andThen,aO,hy,hyk,E.stays]
  ·intro e _ he
   rw [hy] at he
   cases he
   exact hyk.symm
  ·rw [uD hg]
   apply List.ext_getElem?
   intro j
   have hj:=congrArg (fun l=>l[j]?) hL
   simp only [List.getElem?_map,Array.getElem?_toList,Array.getElem?_modify,List.getElem?_modify] at hj ⊢
   by_cases hij:(L.findIdx fun p=>p.1=x)=j
   ·subst hij
    simp [hy,hi]
   ·simp [hij,hj]
theorem nE {α β:Type} (f:α→β):∀ (l:List α) (i:Nat),(l.eraseIdx i).map f=(l.map f).eraseIdx i
 | [],_=>by simp
 | _::_,0=>by simp
 | _::l,i+1=>by simp [nE f l i]
theorem bM.del {t et:TypeId} (h:bM E.enc w b L) (ht:P.underlying t=some (.map kt et)) (x:κ) (ty:TypeId) (ts:TypeId) :
  ∃ o,(Builtin.delete_ #[t,ts] ty #[.map (some b),E.enc x]).run P w=.ok (.tuple #[]) (aO w b o)∧bM E.enc (aO w b o) b (dQ L x):=by
 have hlt:=h.lt
 obtain ⟨es,clock,hb,hs,hL⟩:=h
 have hf:=E.find w x hL
 have hsame:∀ o,(aO w b o).heap[b]?=some o:=fun o=>by simp [aO,hlt]
 cases hg:aQ L x with
 | none=>
  rw [hg] at hf
  refine ⟨.map es clock,?_,_,_,hsame _,hs,?_⟩
  ·exact fI
  ·rw [aMh hg];exact hL
 | some u=>
  rw [hg] at hf
  simp only [Option.map_some] at hf
  refine ⟨.map (es.eraseIdxIfInBounds (L.findIdx fun p=>p.1=x)) clock,?_,_,_,hsame _,stamped_erase hs _,?_⟩
  ·exact fI
  ·have hi:=aJl hg
   have e1:es.size=L.length:=eB
   rw [aIw hg]
   have:(es.eraseIdxIfInBounds (L.findIdx fun p=>p.1=x)).toList=es.toList.eraseIdx (L.findIdx fun p=>p.1=x):=by
    simp only [Array.eraseIdxIfInBounds]
    rw [dif_pos aA]
    simp [Array.toList_eraseIdx]
   rw [this]
   rw [nE,nE,hL]
end
structure aD (S:Nat→Prop) (w w':World):Prop where
 os:w'.os=w.os
 tape:w'.tape=w.tape
 output:w'.output=w.output
 size:w.heap.size≤w'.heap.size
 block:∀ k,k<w.heap.size→¬ S k→w'.heap[k]?=w.heap[k]?
section
variable {S S1:Nat→Prop} {w w1 w2:World}
theorem aD.refl (S:Nat→Prop) (w:World):aD S w w:=⟨rfl,rfl,rfl,Nat.le_refl _,fun _ _ _=>rfl⟩
theorem aD.trans (h:aD S w w1) (h1:aD S1 w1 w2) (hs:∀ k,k<w.heap.size→S1 k→S k):aD S w w2:=
 ⟨h1.os.trans h.os,h1.tape.trans h.tape,h1.output.trans h.output,Nat.le_trans h.size h1.size,
  fun k hk hS=>(h1.block k (Nat.lt_of_lt_of_le hk h.size) (fun e=>hS (hs k hk e))).trans (h.block k hk hS)⟩
theorem aD.mono (h:aD S w w1) (hs:∀ k,k<w.heap.size→S k→S1 k):aD S1 w w1:=
 ⟨h.os,h.tape,h.output,h.size,fun k hk hS=>h.block k hk fun e=>hS (hs k hk e)⟩
theorem aD.alloc (h:aD S w w1) (o:Obj):aD S w (w1.alloc o):=
 ⟨h.os,h.tape,h.output,by have:=h.size;simp;omega,fun k hk hS=>(Below.heap_alloc w1 o k (Nat.lt_of_lt_of_le hk h.size)).trans (h.block k hk hS)⟩
abbrev K0 (w w':World):Prop:=aD (fun _=>False) w w'
theorem K0.tr (h:K0 w w1) (h1:K0 w1 w2):K0 w w2:=h.trans h1 (fun _ _ h=>h)
theorem K0.below (h:K0 w w1):Below w.heap.size w w1:=⟨h.os,h.tape,h.output,h.size,fun k hk=>h.block k hk (fun e=>e)⟩
theorem K0.of_below (h:Below w.heap.size w w1):K0 w w1:=⟨h.os,h.tape,h.output,h.size,fun k hk _=>h.block k hk⟩
theorem K0.after {w0:World} (h:K0 w w1) (hb:Below w0.heap.size w0 w):Below w0.heap.size w0 w1:=hb.trans (h.below.mono hb.size)
theorem aD.drew (h:aD S w w1):aD S w w1.drew:=⟨h.os,h.tape,h.output,h.size,h.block⟩
theorem aD.drewN (h:aD S w w1) (n:Nat):aD S w (w1.drewN n):=⟨h.os,h.tape,h.output,h.size,h.block⟩
theorem aD.setCell (h:aD S w w1) {p:Addr} (hp:p.block<w.heap.size→S p.block) (u:Value):aD S w (w1.setCell p u):=
 ⟨h.os,h.tape,h.output,by have:=h.size;simp [World.setCell];omega,fun k hk hS=>
  (Below.heap_setCell w1 p u k (fun e=>hS (e▸hp (e▸hk)))).trans (h.block k hk hS)⟩
theorem aD.setC (h:aD S w w1) {b:Nat} (i:Nat) (u:Value) (hp:b<w.heap.size→S b):aD S w (w1.setCell ⟨b,i,none⟩ u):=h.setCell (p:=⟨b,i,none⟩) hp u
theorem aD.none (h:aD S w w1) (hs:∀ k,k<w.heap.size→¬ S k):aD (fun _=>False) w w1:=⟨h.os,h.tape,h.output,h.size,fun k hk _=>h.block k hk (hs k hk)⟩
theorem aD.setObj (h:aD S w w1) {b:Nat} (hp:b<w.heap.size→S b) (o:Obj):aD S w (aO w1 b o):=
 ⟨h.os,h.tape,h.output,by rw [nG];exact h.size,fun k hk hS=>(cT w1 o (fun e=>by subst e;exact hS (hp hk))).trans (h.block k hk hS)⟩
theorem aD.below (h:aD S w w1) {B:Nat} (hB:B≤w.heap.size) (hs:∀ k,S k→B≤k):Below B w w1:=
 ⟨h.os,h.tape,h.output,h.size,fun k hk=>h.block k aA fun e=>by have:=hs k e;omega⟩
theorem aD.of_below {B:Nat} (h:Below B w w1) (hs:∀ k,B≤k→k<w.heap.size→S k):aD S w w1:=
 ⟨h.os,h.tape,h.output,h.size,fun k hk hS=>h.block k ((Nat.lt_or_ge k B).elim id fun h=>absurd (hs k h hk) hS)⟩
theorem aD.cell (h:aD S w w1) {p:Addr} (hp:p.block<w.heap.size) (hS:¬ S p.block):w1.cell? p=w.cell? p:=
 World.cell?_of_block (w:=w) (h.block p.block hp hS)
theorem aD.cell' (h:aD S w w1) {p:Addr} {v:Value} (hc:w.cell? p=some v) (hS:¬ S p.block):w1.cell? p=some v:=
 (h.cell (World.block_lt_of_cell? w p hc) hS).trans hc
theorem aD.grown {row:Option Nat} (h:aD S w w1) (hg:w1.grownBy w2 row) (hr:∀ k,row=some k→k<w.heap.size→S k):aD S w w2:=
 ⟨hg.os.trans h.os,hg.tape.trans h.tape,hg.output.trans h.output,Nat.le_trans h.size hg.size,fun k hk hS=>
  (hg.block k (Nat.lt_of_lt_of_le hk h.size) (fun e=>hS (hr k e.symm hk))).trans (h.block k hk hS)⟩
end
theorem aM {w:World} {b:Nat} {c:Array Value} {e:TypeId} {f:Nat×Nat} (h:w.heap[b]?=some (.cells c e f)) (i:Nat) (v:Value) :
  (w.setCell ⟨b,i,none⟩ v).heap[b]?=some (.cells (c.setIfInBounds i v) e f):=by
 simp [World.setCell,Array.getElem?_modify,h]
section
variable (w:World) (b:Nat) (o:Obj) (p:Addr)
@[go_sem] theorem aPz (h:p.block≠b):(aO w b o).cell? p=w.cell? p:=World.cell?_of_block (w:=w) (cT w o h)
@[go_sem] theorem aNd (h:p.block≠b):(aO w b o).frozen? p=w.frozen? p:=World.frozen?_of_block (w:=w) (cT w o h)
@[go_sem] theorem aSt:(aO w b o).heap.size=w.heap.size:=nG w b o
end
section
variable {P:Program} {kt:TypeId} {κ:Type} [DecidableEq κ]
omit [DecidableEq κ] in
theorem bM.keep {e:κ→Value} {w w':World} {b:Nat} {L:List (κ×Value)} {S:Nat→Prop} (h:bM e w b L) (hk:aD S w w') (hS:¬ S b):bM e w' b L:=
 h.of_block (hk.block b h.lt hS)
variable (E:qD P kt κ) {w:World} {b:Nat} {L:List (κ×Value)} {ops:Array Oper} {rest:List Oper} {o:Oper} {a:Act} {Q:Exit→Act→World→Prop}
theorem cI (hg:o.guard=none) {m x:Operand} {t:TypeId} {c:Bool} (hop:o.op=Op.lookup t m x c)
  {et:TypeId} (ht:P.underlying t=some (.map kt et)) {z:Value} (hz:∀ w,(zeroValue et).run P w=.ok z w) (hm:a.eval m=.map (some b)) (k:κ) (hx:a.eval x=E.enc k) (h:bM E.enc w b L) (v:Option Value) (hv:aQ L k=v)
  (hK:wpList P ops Q rest (a.put o.dst (if c then .tuple #[v.getD z,.bool v.isSome] else v.getD z)) w) :
  wpList P ops Q (o::rest) a w:=by
 refine wpList_plain hg fun K' hK'=>?_
 have hrun:=h.look E ht (hz w) k c
 unfold Oper.wp
 subst hv
 simp [execOp,hop,hm,hx,hrun,Result.andThen]
 exact hK' _ _ hK
theorem mN (hg:o.guard=none) {m x v:Operand} {t:TypeId} (hop:o.op=Op.mapUpdate t m x v)
  {et:TypeId} (ht:P.underlying t=some (.map kt et)) (hm:a.eval m=.map (some b)) (k:κ) (hx:a.eval x=E.enc k) (h:bM E.enc w b L) (val:Value) (hv:a.eval v=val)
  (hK:∀ ob,bM E.enc (aO w b ob) b (bD L k val)→wpList P ops Q rest (a.put o.dst undef) (aO w b ob)) :
  wpList P ops Q (o::rest) a w:=by
 refine wpList_plain hg fun K' hK'=>?_
 obtain ⟨ob,hrun,h'⟩:=h.put E ht k val
 unfold Oper.wp
 simp [execOp,hop,hm,hx,hv,hrun,Result.andThen]
 exact hK' _ _ (hK ob h')
theorem pC (hg:o.guard=none) {m x:Operand} {t ts:TypeId} (hop:o.op=Op.call {callee:=Callee.builtin Builtin.delete,args:=#[m,x],argTypes:=#[t,ts]})
  {et:TypeId} (ht:P.underlying t=some (.map kt et)) (hm:a.eval m=.map (some b)) (k:κ) (hx:a.eval x=E.enc k) (h:bM E.enc w b L)
  (hK:∀ ob,bM E.enc (aO w b ob) b (dQ L k)→wpList P ops Q rest (a.put o.dst (.tuple #[])) (aO w b ob)) :
  wpList P ops Q (o::rest) a w:=by
 refine wpList_plain hg fun K' hK'=>?_
 obtain ⟨ob,hrun,h'⟩:=h.del E ht k o.type ts
 unfold Oper.wp
 simp [execOp,hop,resolve,invoke,builtin,hm,hx,hrun,Result.andThen]
 exact hK' _ _ (hK ob h')
omit [DecidableEq κ] in
theorem tR (hg:o.guard=none) {m:Operand} {t:TypeId} (hop:o.op=Op.call {callee:=Callee.builtin Builtin.len,args:=#[m],argTypes:=#[t]})
  {e:κ→Value} {et:TypeId} (ht:P.underlying t=some (.map kt et)) (hm:a.eval m=.map (some b)) (h:bM e w b L)
  (hK:wpList P ops Q rest (a.put o.dst (.int .i64 L.length)) w) :
  wpList P ops Q (o::rest) a w:=by
 refine wpList_plain hg fun K' hK'=>?_
 have hrun:=h.len ht o.type
 unfold Oper.wp
 simp [execOp,hop,resolve,invoke,builtin,hm,hrun,Result.andThen]
 exact hK' _ _ hK
end
end Go.Proofs.YteapahcklcldkaaGreatDoor.Fx
namespace Go.Proofs.YteapahcklcldkaaGreatDoor.Fx
open Go.RowKit Go.ChangeShapes Go.WideShapes
abbrev Rdr (α:Type):=World→List Value→α→Prop
def aH0:Rdr Int:=fun _ cs n=>cs=[.int .i64 n]∧(Lit.int .i64 n).wf=true
def aCi {α:Type} (n:Nat) (R:Rdr α) (w:World) (b off:Nat) (l:List α):Prop:=
 ∀ i (h:i<l.length),∃ cs,cs.length=n∧(∀ j,j<n→w.cell? ⟨b,off+i*n+j,none⟩=cs[j]?)∧R w cs l[i]
def rS {α:Type} (n:Nat) (R:Rdr α) (w:World) (a:Option Addr) (cap:Nat) (l:List α):Prop:=
 l.length≤cap∧cap≤maxLen∧(l≠[]→∃ b off,a=some ⟨b,off,none⟩∧aCi n R w b off l)
def rSl {α:Type} (n:Nat) (R:Rdr α):Rdr (List α):=fun w cs l=>∃ a cap,cs=[.slice a l.length cap]∧rS n R w a cap l
theorem rS.row {α:Type} {n:Nat} {R:Rdr α} {w:World} {a:Option Addr} {cap:Nat} {l:List α} (h:rS n R w a cap l) {k:Nat} (hk:k<l.length):∃ b off,a=some ⟨b,off,none⟩∧aCi n R w b off l:=
 h.2.2 xK
theorem rS.len {α:Type} {n:Nat} {R:Rdr α} {w:World} {a:Option Addr} {cap:Nat} {l:List α} (h:rS n R w a cap l):l.length≤9223372036854775807:=by have:=h.1;have:=h.2.1;unfold maxLen at this;omega
theorem aCs {w:World} {base:Nat} {a:Addr} {n:Nat} {cs:List Value} (h:w.cells? base a n=some cs) :
  cs.length=n∧∀ j,j<n→w.cell? (a.add j)=cs[j]?:=by
 unfold World.cells? at h
 split at h
 ·have hf:∀ (l:List Nat) (out:List Value),l.mapM (fun i=>w.cell? (a.add i))=some out→out.length=l.length∧∀ j,j<l.length→(l[j]?).bind (fun i=>w.cell? (a.add i))=out[j]?:=by
   intro l
   induction l with
   | nil=>intro out h;simp at h;subst h;simp
   | cons i l ih=>
    intro out h
    simp only [List.mapM_cons,Option.bind_eq_bind,Option.bind_eq_some_iff,Option.pure_def,Option.some.injEq] at h
    obtain ⟨v,hv,out',ho,rfl⟩:=h
    obtain ⟨h1,h2⟩:=ih out' ho
    refine ⟨by simp [h1],fun j hj=>?_⟩
    cases j with
    | zero=>simpa using hv
    | succ j=>simpa using h2 j aFd
  obtain ⟨h1,h2⟩:=hf _ _ h
  refine ⟨by simpa using h1,fun j hj=>?_⟩
  have:=h2 j aFd
  simpa [List.getElem?_range hj] using this
 ·cases h
section
variable {H:Type} {enc:TypeId×Value→H} {P:Program} {w:World} {base:Nat} {spare:Nat→Bool} {held:Bool}
theorem aL1 {t:TypeId} (ht:P.underlying t=some (.int .i64)) (fuel:Nat) (cs:List Value) (x:DataW H×List MemPlace) (h:DataW.trod enc P w base spare held fuel t cs=some x):∃ y,aH0 w cs y:=by
 obtain ⟨n,rfl,_,hw⟩:=DataW.trod_int ht h
 exact ⟨n,rfl,hw⟩
theorem aRo {α:Type} {R:Rdr α} {n:Nat} {t e:TypeId} (ht:P.underlying t=some (.slice e)) (hn:P.cellsOf e=n+1)
  (he:∀ (fuel:Nat) (cs:List Value) (x:DataW H×List MemPlace),DataW.trod enc P w base spare held fuel e cs=some x→∃ y,R w cs y)
  (fuel:Nat) (cs:List Value) (x:DataW H×List MemPlace) (h:DataW.trod enc P w base spare held fuel t cs=some x):∃ y,rSl (n+1) R w cs y:=by
 rcases Deep.open_slice ht h with ⟨rfl,_⟩ | ⟨a,len,cap,m,k,D,Pl,rfl,hb,hl,hc,hm,_,hel⟩
 ·exact ⟨[],none,0,rfl,Nat.le_refl _,by unfold maxLen;omega,fun h=>absurd rfl h⟩
 ·have hml:len≤m:=by rw [hm];split <;> omega
  have hall:∀ i,i<len→∃ y:α,∃ cs',w.cells? base (a.add (i*P.cellsOf e)) (P.cellsOf e)=some cs'∧R w cs' y:=by
   intro i hi
   obtain ⟨cs',h1,h2⟩:=hel i aA
   obtain ⟨y,hy⟩:=he _ _ _ h2
   exact ⟨y,cs',h1,hy⟩
  have hlist:∀ len,(∀ i,i<len→∃ y:α,∃ cs',w.cells? base (a.add (i*P.cellsOf e)) (P.cellsOf e)=some cs'∧R w cs' y)→
    ∃ l:List α,l.length=len∧∀ i (h:i<l.length),∃ cs',w.cells? base (a.add (i*P.cellsOf e)) (P.cellsOf e)=some cs'∧R w cs' l[i]:=by
   intro len
   induction len with
   | zero=>exact fun _=>⟨[],rfl,fun i h=>absurd h (Nat.not_lt_zero _)⟩
   | succ len ih=>
    intro hall
    obtain ⟨l,h1,h2⟩:=ih (fun i hi=>hall i aA)
    obtain ⟨y,hy⟩:=hall len aA
    refine ⟨l++[y],by simp [h1],fun i hi=>?_⟩
    by_cases hil:i<l.length
    ·rw [List.getElem_append_left hil];exact h2 i hil
    ·have:i=len:=by simp at hi;omega
     subst this
     rw [List.getElem_append_right aA]
     simpa [h1] using hy
  obtain ⟨l,h1,h2⟩:=hlist len hall
  subst h1
  refine ⟨l,some a,cap,rfl,hl,hc,fun hne=>?_⟩
  have hpos:0<l.length:=List.length_pos_iff.2 hne
  obtain ⟨b,off,spot⟩:=a
  have hspot:spot=none:=by
   obtain ⟨cs',h3,_⟩:=h2 0 hpos
   obtain ⟨h4,h5⟩:=aCs h3
   have h6:=h5 0 aA
   have:w.cell? ((Addr.mk b off spot).add (0*P.cellsOf e))=some cs'[0]:=by
    rw [List.getElem?_eq_getElem aA] at h6
    simpa [Addr.add] using h6
   simpa [Addr.add] using World.cell?_spot this
  subst hspot
  refine ⟨b,off,rfl,fun i hi=>?_⟩
  obtain ⟨cs',h3,h4⟩:=h2 i hi
  obtain ⟨h5,h6⟩:=aCs h3
  rw [hn] at h5 h6
  refine ⟨cs',h5,fun j hj=>?_,h4⟩
  rw [← h6 j hj]
  have e1:((Addr.mk b off none).add (i*(n+1))).add j=⟨b,off+i*(n+1)+j,none⟩:=by
   rw [Deep.add_add]
   unfold Addr.add
   split
   ·rename_i h0
    have:i*(n+1)+j=0:=h0
    rw [show off+i*(n+1)+j=off by omega]
   ·rw [Nat.add_assoc]
  rw [e1]
end
theorem fR {α:Type} (enc:α→List Value) (n:Nat) (hn:∀ x,(enc x).length=n):∀ (l:List α) (i j:Nat) (h:i<l.length),j<n→(l.flatMap enc)[i*n+j]?=(enc l[i])[j]?
 | x::l,0,j,_,hj=>by
  simp only [List.flatMap_cons,Nat.zero_mul,Nat.zero_add,List.getElem_cons_zero]
  rw [List.getElem?_append_left (by rw [hn];exact hj)]
 | x::l,i+1,j,h,hj=>by
  simp only [List.flatMap_cons,List.getElem_cons_succ]
  rw [List.getElem?_append_right (by rw [hn,Nat.add_mul];omega),hn,show (i+1)*n+j - n=i*n+j by rw [Nat.add_mul];omega]
  exact fR enc n hn l i j (by simpa using h) hj
theorem aRb {α:Type} {R:Rdr α} {w:World} {base:Nat} {e:TypeId} {n:Nat} {v:Value} {l:List α} (enc:α→List Value) (hn:∀ x,(enc x).length=n) (hR:∀ x,R w (enc x) x)
  (h:w.ownsRow base e n v l.length (l.flatMap enc)):∃ a cap,v=.slice a l.length cap∧rS n R w a cap l∧∀ k,v.ownBlock=some k→base≤k∧k<w.heap.size:=by
 have hlt:=h.lt
 rcases h.2 with ⟨rfl,h0⟩ | ⟨g,cap,cur,rfl,hb,hg,hc,hm,hs,ht⟩
 ·have:l=[]:=List.eq_nil_of_length_eq_zero h0
  subst this
  exact ⟨none,0,rfl,⟨Nat.le_refl _,by unfold maxLen;omega,fun h=>absurd rfl h⟩,hlt⟩
 ·refine ⟨_,cap,rfl,⟨hc,hm,fun _=>⟨g,0,rfl,fun i hi=>⟨enc l[i],hn _,fun j hj=>?_,hR _⟩⟩⟩,hlt⟩
  have hcell:=h.cellAt (i*n+j) (by
   have:(i+1)*n≤l.length*n:=Nat.mul_le_mul_right _ hi
   rw [Nat.add_mul] at this
   omega)
  rw [show 0+i*n+j=i*n+j by omega,hcell]
  exact fR enc n hn l i j hi hj
def aPk {α:Type} (R:Rdr α):Prop:=∀ (w w':World) (cs:List Value) (x:α),K0 w w'→R w cs x→R w' cs x
theorem aCi.keep0 {α:Type} {n:Nat} {R:Rdr α} (hR:aPk R) {w w':World} {b off:Nat} {l:List α} (h:aCi n R w b off l) (hk:K0 w w'):aCi n R w' b off l:=fun i hi=>by
 obtain ⟨cs,h1,h2,h3⟩:=h i hi
 refine ⟨cs,h1,fun j hj=>?_,hR w w' cs _ hk h3⟩
 have e:=h2 j hj
 rw [List.getElem?_eq_getElem aA] at e ⊢
 exact hk.cell' e (fun e=>e)
theorem rS.keep0 {α:Type} {n:Nat} {R:Rdr α} (hR:aPk R) {w w':World} {a:Option Addr} {cap:Nat} {l:List α} (h:rS n R w a cap l) (hk:K0 w w'):rS n R w' a cap l:=
 ⟨h.1,h.2.1,fun hne=>by obtain ⟨b,off,h1,h2⟩:=h.2.2 hne;exact ⟨b,off,h1,h2.keep0 hR hk⟩⟩
end Go.Proofs.YteapahcklcldkaaGreatDoor.Fx
namespace Go.Proofs.YteapahcklcldkaaGreatDoor.Fx
open Go.RowKit Go.MapKept
section
variable {P:Program} {kt:TypeId} {κ:Type} [DecidableEq κ] (E:qD P kt κ) {w:World} {b:Nat} {L:List (κ×Value)}
theorem bM.put_all {t et:TypeId} (h:bM E.enc w b L) (ht:P.underlying t=some (.map kt et)) (x:κ) (v:Value) :
  ∃ o,(∀ w',w'.heap[b]?=w.heap[b]?→(Instr.mapUpdate t (.map (some b)) (E.enc x) v).run P w'=.ok () (aO w' b o))∧∀ w',w'.heap[b]?=w.heap[b]?→bM E.enc (aO w' b o) b (bD L x v):=by
 have hlt:=h.lt
 obtain ⟨es,clock,hb,hs,hL⟩:=h
 have hf:=fun w'=>E.find w' x hL
 have hsame:∀ (w':World) o,w'.heap[b]?=w.heap[b]?→(aO w' b o).heap[b]?=some o:=fun w' o e=>by
  have:b<w'.heap.size:=(Array.getElem?_eq_some_iff.1 (e.trans hb)).1
  simp [aO,this]
 cases hg:aQ L x with
 | none=>
  rw [hg] at hf
  refine ⟨.map (es.push {key:=E.enc x,val:=v,born:=clock}) (clock+1),fun w' e=>?_,fun w' e=>⟨_,_,hsame _ _ e,stamped_push hs ?_,?_⟩⟩
  ·simp [Instr.mapUpdate,run_underlying ht,MapKept.run_getObj_map (e.trans hb),E.check,hf,run_setObj_map _ (e.trans hb),Result.andThen,aO]
  ·intro y hy
   have hmem:(y.key,y.val)∈L.map (fun p=>(E.enc p.1,p.2)):=hL▸List.mem_map.2 ⟨y,hy,rfl⟩
   obtain ⟨p,hp,hpe⟩:=List.mem_map.1 hmem
   intro e
   have:E.enc p.1=E.enc x:=(congrArg Prod.fst hpe).trans e
   exact lY hg p hp (E.inj _ _ this)
  ·exact aIo
 | some u=>
  rw [hg] at hf
  simp only [Option.map_some] at hf
  have hi:=mY hg
  have hi':es[(L.findIdx fun p=>p.1=x)]?.map (fun y=>(y.key,y.val))=some (E.enc x,u):=by
   have:=congrArg (fun l=>l[(L.findIdx fun p=>p.1=x)]?) hL
   simp only [List.getElem?_map,Array.getElem?_toList,hi,Option.map_some] at this
   exact this
  obtain ⟨y,hy,hye⟩:=Option.map_eq_some_iff.1 hi'
  have hyk:y.key=E.enc x:=congrArg Prod.fst hye
  refine ⟨.map (es.modify (L.findIdx fun p=>p.1=x) fun e=>{e with key:=E.enc x,val:=v}) clock,fun w' e=>?_,fun w' e=>⟨_,_,hsame _ _ e,stamped_modify hs _ _ (fun _ _=>rfl) ?_,?_⟩⟩
  ·simp [Instr.mapUpdate,run_underlying ht,MapKept.run_getObj_map (e.trans hb),E.check,hf,run_setObj_map _ (e.trans hb),Result.andThen,aO,hy,hyk,E.stays]
  ·intro e _ he
   rw [hy] at he
   cases he
   exact hyk.symm
  ·rw [uD hg]
   apply List.ext_getElem?
   intro j
   have hj:=congrArg (fun l=>l[j]?) hL
   simp only [List.getElem?_map,Array.getElem?_toList,Array.getElem?_modify,List.getElem?_modify] at hj ⊢
   by_cases hij:(L.findIdx fun p=>p.1=x)=j
   ·subst hij
    simp [hy,hi]
   ·simp [hij,hj]
end
def dM {κ α:Type} (f:α→Value) (l:List (κ×α)):List (κ×Value):=l.map fun p=>(p.1,f p.2)
theorem fW {κ α:Type} [DecidableEq κ] (f:α→Value) (l:List (κ×α)) (s:κ):aQ (dM f l) s=(aQ l s).map f:=by
 induction l with
 | nil=>rfl
 | cons p l ih=>
  obtain ⟨k,x⟩:=p
  simp only [dM,List.map_cons,aQ] at ih ⊢
  by_cases h:k=s
  ·simp [h]
  ·exact qA
theorem sK {κ α:Type} [DecidableEq κ] (f:α→Value) (l:List (κ×α)) (s:κ) (x:α):bD (dM f l) s (f x)=dM f (bD l s x):=by
 induction l with
 | nil=>rfl
 | cons p l ih=>
  obtain ⟨k,u⟩:=p
  simp only [dM,List.map_cons,bD] at ih ⊢
  by_cases h:k=s
  ·simp [h]
  ·exact cS
theorem zV {κ α:Type} [DecidableEq κ] (f:α→Value) (l:List (κ×α)) (s:κ):dQ (dM f l) s=dM f (dQ l s):=by
 induction l with
 | nil=>rfl
 | cons p l ih=>
  obtain ⟨k,u⟩:=p
  simp only [dM,List.map_cons,dQ] at ih ⊢
  by_cases h:k=s
  ·simp [h]
  ·exact cS
theorem aF9 {s:ByteArray} (h:s.size=0):s.toList.isEmpty=true:=by
 rw [List.isEmpty_iff,ByteArray.toList_eq,← List.length_eq_zero_iff,Array.length_toList]
 exact h
theorem aI4 {s:ByteArray} (h:¬ s.size=0):s.toList.isEmpty=false:=by
 cases hq:s.toList.isEmpty
 ·rfl
 ·rw [List.isEmpty_iff,ByteArray.toList_eq,← List.length_eq_zero_iff,Array.length_toList] at hq
  exact absurd hq h
end Go.Proofs.YteapahcklcldkaaGreatDoor.Fx
namespace Go.Proofs.YteapahcklcldkaaGreatDoor.Fx
section
variable {κ α:Type} [DecidableEq κ]
theorem bX (L:List (κ×α)) (s t:κ) (v:α):aQ (bD L s v) t=if s=t then some v else aQ L t:=by
 induction L with
 | nil=>simp [aQ,bD]
 | cons p L ih=>
  obtain ⟨k,u⟩:=p
  simp only [bD]
  by_cases h:k=s
  ·subst h
   simp only [if_true,aQ]
   by_cases h2:k=t <;> simp [h2]
  ·simp only [h,if_false,aQ,ih]
   by_cases h2:k=t
   ·subst h2
    simp [Ne.symm h]
   ·simp [h2]
def KD (L:List (κ×α)):Prop:=(L.map (·.1)).Nodup
theorem zW {L:List (κ×α)} {s:κ} (h:s ∉ L.map (·.1)):aQ L s=none:=by
 induction L with
 | nil=>rfl
 | cons p L ih=>
  obtain ⟨k,u⟩:=p
  simp only [List.map_cons,List.mem_cons,not_or] at h
  simp only [aQ,if_neg (Ne.symm h.1)]
  exact ih h.2
theorem kL {L:List (κ×α)} {s:κ} {v:α} (h:aQ L s=some v):(s,v)∈L:=by
 induction L with
 | nil=>cases h
 | cons p L ih=>
  obtain ⟨k,u⟩:=p
  simp only [aQ] at h
  by_cases hk:k=s
  ·subst hk
   rw [if_pos rfl] at h
   cases h
   exact .head _
  ·rw [if_neg hk] at h
   exact .tail _ (ih h)
theorem eO {L:List (κ×α)} {s:κ} {v:α} (hd:KD L) (h:(s,v)∈L):aQ L s=some v:=by
 induction L with
 | nil=>cases h
 | cons p L ih=>
  obtain ⟨k,u⟩:=p
  unfold KD at hd
  simp only [List.map_cons,List.nodup_cons] at hd
  rcases List.mem_cons.1 h with e | e
  ·cases e
   simp [aQ]
  ·have:k≠s:=fun e2=>hd.1 (List.mem_map.2 ⟨(s,v),e,e2.symm⟩)
   simp only [aQ,if_neg this]
   exact ih hd.2 e
theorem kB {L:List (κ×α)} (hd:KD L) (s t:κ):aQ (dQ L s) t=if s=t then none else aQ L t:=by
 induction L with
 | nil=>simp [aQ,dQ]
 | cons p L ih=>
  obtain ⟨k,u⟩:=p
  unfold KD at hd
  simp only [List.map_cons,List.nodup_cons] at hd
  simp only [dQ]
  by_cases h:k=s
  ·subst h
   simp only [if_true,aQ]
   by_cases h2:k=t
   ·subst h2
    simp [zW hd.1]
   ·simp [h2]
  ·simp only [h,if_false,aQ,ih hd.2]
   by_cases h2:k=t
   ·subst h2
    simp [Ne.symm h]
   ·simp [h2]
theorem wI (L:List (κ×α)) (s t:κ) (v:α):t∈(bD L s v).map (·.1)↔t=s∨t∈L.map (·.1):=by
 induction L with
 | nil=>simp [bD]
 | cons p L ih=>
  obtain ⟨k,u⟩:=p
  simp only [bD]
  by_cases h:k=s
  ·subst h
   simp
  ·simp only [if_neg h,List.map_cons,List.mem_cons,ih]
   constructor
   ·rintro (e | e | e) <;> simp [e]
   ·rintro (e | e | e) <;> simp [e]
theorem KD.put {L:List (κ×α)} (hd:KD L) (s:κ) (v:α):KD (bD L s v):=by
 induction L with
 | nil=>simp [KD,bD]
 | cons p L ih=>
  obtain ⟨k,u⟩:=p
  unfold KD at hd
  simp only [List.map_cons,List.nodup_cons] at hd
  simp only [bD]
  by_cases h:k=s
  ·subst h
   simp only [if_true,KD,List.map_cons,List.nodup_cons]
   exact hd
  ·simp only [if_neg h,KD,List.map_cons,List.nodup_cons]
   refine ⟨fun e=>?_,ih hd.2⟩
   rcases (wI _ _ _ _).1 e with e2 | e2
   ·exact h e2
   ·exact hd.1 e2
theorem aNj {L:List (κ×α)} {s t:κ} (h:t∈(dQ L s).map (·.1)):t∈L.map (·.1):=by
 induction L with
 | nil=>simp [dQ] at h
 | cons p L ih=>
  obtain ⟨k,u⟩:=p
  simp only [dQ] at h
  by_cases hk:k=s
  ·rw [if_pos hk] at h
   exact .tail _ h
  ·rw [if_neg hk] at h
   rcases List.mem_cons.1 h with e | e
   ·rw [e];exact .head _
   ·exact .tail _ (ih e)
theorem KD.del {L:List (κ×α)} (hd:KD L) (s:κ):KD (dQ L s):=by
 induction L with
 | nil=>simp [KD,dQ]
 | cons p L ih=>
  obtain ⟨k,u⟩:=p
  unfold KD at hd
  simp only [List.map_cons,List.nodup_cons] at hd
  simp only [dQ]
  by_cases h:k=s
  ·rw [if_pos h];exact hd.2
  ·simp only [if_neg h,KD,List.map_cons,List.nodup_cons]
   exact ⟨fun e=>hd.1 (aNj e),ih hd.2⟩
end
def amap {κ α β:Type} (f:α→β) (l:List (κ×α)):List (κ×β):=l.map fun p=>(p.1,f p.2)
section
variable {κ α β:Type} [DecidableEq κ] (f:α→β)
theorem aCk (l:List (κ×α)) (s:κ):aQ (amap f l) s=(aQ l s).map f:=by
 induction l with
 | nil=>rfl
 | cons p l ih=>
  obtain ⟨k,x⟩:=p
  simp only [amap,List.map_cons,aQ] at ih ⊢
  by_cases h:k=s
  ·simp [h]
  ·exact qA
theorem nN (l:List (κ×α)) (s:κ) (x:α):bD (amap f l) s (f x)=amap f (bD l s x):=by
 induction l with
 | nil=>rfl
 | cons p l ih=>
  obtain ⟨k,u⟩:=p
  simp only [amap,List.map_cons,bD] at ih ⊢
  by_cases h:k=s
  ·simp [h]
  ·exact cS
theorem aCj (l:List (κ×α)) (s:κ):dQ (amap f l) s=amap f (dQ l s):=by
 induction l with
 | nil=>rfl
 | cons p l ih=>
  obtain ⟨k,u⟩:=p
  simp only [amap,List.map_cons,dQ] at ih ⊢
  by_cases h:k=s
  ·simp [h]
  ·exact cS
omit [DecidableEq κ] in
theorem vV (l:List (κ×α)):(amap f l).map (·.1)=l.map (·.1):=by simp [amap,Function.comp_def]
omit [DecidableEq κ] in
theorem KD.amap {l:List (κ×α)} (h:KD l):KD (amap f l):=by unfold KD;rw [vV];exact h
end
theorem aCn {κ α:Type} [DecidableEq κ] {L:List (κ×α)} {s:κ} {v:α} (h:aQ L s=some v):bD L s v=L:=by
 induction L with
 | nil=>simp [aQ] at h
 | cons p L ih=>
  obtain ⟨k,u⟩:=p
  simp only [aQ] at h
  by_cases hk:k=s
  ·rw [if_pos hk] at h
   cases h
   simp [bD,hk]
  ·rw [if_neg hk] at h
   simp [bD,hk,ih h]
end Go.Proofs.YteapahcklcldkaaGreatDoor.Fx
namespace Go.Proofs.YteapahcklcldkaaGreatDoor
open Go.RowKit Fx
structure iW where
 w:World
 O:Nat→Prop
def iW.out (B:iW) (k:Nat):Prop:=¬ (k<B.w.heap.size∧B.O k)
def aW2 (F F':Nat→Prop) (w:World):Prop:=∀ k,F' k→F k∨w.heap.size≤k
end Go.Proofs.YteapahcklcldkaaGreatDoor
namespace Go.Proofs.YteapahcklcldkaaGreatDoor.Fx
open Go.RowKit Go.MapKept
section
variable {P:Program} {kt:TypeId} {κ:Type} [DecidableEq κ] (E:qD P kt κ) {w:World} {b:Nat} {L:List (κ×Value)}
theorem bM.putB {t et:TypeId} (h:bM E.enc w b L) (ht:P.underlying t=some (.map kt et)) (x:κ) (v:Value) :
  ∃ O0 ob,w.heap[b]?=some O0∧(∀ wx,wx.heap[b]?=some O0→(Instr.mapUpdate t (.map (some b)) (E.enc x) v).run P wx=.ok () (aO wx b ob))∧∀ wx,wx.heap[b]?=some ob→bM E.enc wx b (bD L x v):=by
 obtain ⟨es,clock,hb,hs,hL⟩:=h
 cases hg:aQ L x with
 | none=>
  refine ⟨_,.map (es.push {key:=E.enc x,val:=v,born:=clock}) (clock+1),hb,fun wx hx=>?_,fun wx hx=>⟨_,_,hx,stamped_push hs ?_,?_⟩⟩
  ·have hf:=E.find wx x hL
   rw [hg] at hf
   simp [Instr.mapUpdate,run_underlying ht,MapKept.run_getObj_map hx,E.check,hf,run_setObj_map _ hx,Result.andThen,aO]
  ·intro y hy
   have hmem:(y.key,y.val)∈L.map (fun p=>(E.enc p.1,p.2)):=hL▸List.mem_map.2 ⟨y,hy,rfl⟩
   obtain ⟨p,hp,hpe⟩:=List.mem_map.1 hmem
   intro e
   have:E.enc p.1=E.enc x:=(congrArg Prod.fst hpe).trans e
   exact lY hg p hp (E.inj _ _ this)
  ·exact aIo
 | some u=>
  have hi:=mY hg
  have hi':es[(L.findIdx fun p=>p.1=x)]?.map (fun y=>(y.key,y.val))=some (E.enc x,u):=by
   have:=congrArg (fun l=>l[(L.findIdx fun p=>p.1=x)]?) hL
   simp only [List.getElem?_map,Array.getElem?_toList,hi,Option.map_some] at this
   exact this
  obtain ⟨y,hy,hye⟩:=Option.map_eq_some_iff.1 hi'
  have hyk:y.key=E.enc x:=congrArg Prod.fst hye
  refine ⟨_,.map (es.modify (L.findIdx fun p=>p.1=x) fun e=>{e with key:=E.enc x,val:=v}) clock,hb,fun wx hx=>?_,fun wx hx=>⟨_,_,hx,stamped_modify hs _ _ (fun _ _=>rfl) ?_,?_⟩⟩
  ·have hf:=E.find wx x hL
   rw [hg] at hf
   simp only [Option.map_some] at hf
   simp [Instr.mapUpdate,run_underlying ht,MapKept.run_getObj_map hx,E.check,hf,run_setObj_map _ hx,Result.andThen,aO,hy,hyk,E.stays]
  ·intro e _ he
   rw [hy] at he
   cases he
   exact hyk.symm
  ·rw [uD hg]
   apply List.ext_getElem?
   intro j
   have hj:=congrArg (fun l=>l[j]?) hL
   simp only [List.getElem?_map,Array.getElem?_toList,Array.getElem?_modify,List.getElem?_modify] at hj ⊢
   by_cases hij:(L.findIdx fun p=>p.1=x)=j
   ·subst hij
    simp [hy,hi]
   ·simp [hij,hj]
theorem bM.entry {t et:TypeId} (h:bM E.enc w b L) (ht:P.underlying t=some (.map kt et)) {z:Value} (hz:∀ w,(zeroValue et).run P w=.ok z w) (x:κ) (v:Value) :
  ∃ O0 v0 st o1 o2,w.heap[b]?=some O0∧(∀ wx,wx.heap[b]?=some O0→(Instr.mapEntry t (.map (some b)) (E.enc x)).run P wx=.ok (.tuple #[v0,.int .i64 st]) (aO wx b o1))∧
   (∀ wx,wx.heap[b]?=some o1→(Instr.entryStore t (.map (some b)) (.int .i64 st) v).run P wx=.ok () (aO wx b o2))∧∀ wx,wx.heap[b]?=some o2→bM E.enc wx b (bD L x v):=by
 obtain ⟨es,clock,hb,hs,hL⟩:=h
 have ⟨s1,s2,_⟩:=hs
 cases hg:aQ L x with
 | none=>
  have hst:Stamped (es.push ⟨E.enc x,v,clock⟩) (clock+1):=stamped_push hs (by
   intro y hy
   have hmem:(y.key,y.val)∈L.map (fun p=>(E.enc p.1,p.2)):=hL▸List.mem_map.2 ⟨y,hy,rfl⟩
   obtain ⟨p,hp,hpe⟩:=List.mem_map.1 hmem
   intro e
   have:E.enc p.1=E.enc x:=(congrArg Prod.fst hpe).trans e
   exact lY hg p hp (E.inj _ _ this))
  refine ⟨_,z,(clock:Int),.map (es.push ⟨E.enc x,z,clock⟩) (clock+1),.map (es.push ⟨E.enc x,v,clock⟩) (clock+1),hb,fun wx hx=>?_,fun wx hx=>?_,fun wx hx=>⟨_,_,hx,hst,by simp [hL,jK hg]⟩⟩
  ·have hf:=E.find wx x hL
   rw [hg] at hf
   simp [Instr.mapEntry,run_underlying ht,MapKept.run_getObj_map hx,E.check,hf,hz,run_setObj_map _ hx,Result.andThen,aO,goInt]
  ·have hidx:(es.push ⟨E.enc x,z,clock⟩).findIdx? (fun e=>((e.born:Nat):Int)==((clock:Nat):Int))=some es.size:=by
    rw [WideElems.findIdx_arr]
    have:=WideElems.findIdx_born (l:=(es.push ⟨E.enc x,z,clock⟩).toList) (j:=es.size) (e0:=⟨E.enc x,z,clock⟩) (by
     simp only [Array.toList_push,List.map_append,List.map_cons,List.map_nil]
     refine List.nodup_append.2 ⟨s2,by simp,fun a ha c hc e1=>?_⟩
     simp only [List.mem_singleton] at hc
     obtain ⟨y,hy,rfl⟩:=List.mem_map.1 ha
     have:=s1 y hy
     omega) (by simp)
    exact this
   have hmod:(es.push ⟨E.enc x,z,clock⟩).modify es.size (fun e=>{e with val:=v})=es.push ⟨E.enc x,v,clock⟩:=by
    apply Array.ext'
    rw [Array.toList_modify,Array.toList_push,Array.toList_push,← Array.length_toList,WideElems.modify_last]
   simp [Instr.entryStore,MapKept.run_getObj_map hx,asInt,asIntOf,hidx,hmod,run_setObj_map _ hx,Result.andThen,aO]
 | some u=>
  have hi:=mY hg
  have hi':es[(L.findIdx fun p=>p.1=x)]?.map (fun y=>(y.key,y.val))=some (E.enc x,u):=by
   have:=congrArg (fun l=>l[(L.findIdx fun p=>p.1=x)]?) hL
   simp only [List.getElem?_map,Array.getElem?_toList,hi,Option.map_some] at this
   exact this
  obtain ⟨y,hy,hye⟩:=Option.map_eq_some_iff.1 hi'
  have hyk:y.key=E.enc x:=congrArg Prod.fst hye
  generalize hj:(L.findIdx fun p=>p.1=x)=j at hi hi' hy
  have hyl:es.toList[j]?=some y:=by simpa using hy
  have hsame:es.modify j (fun e=>{e with key:=E.enc x})=es:=by
   apply Array.ext'
   apply List.ext_getElem?
   intro i
   simp only [Array.toList_modify,List.getElem?_modify]
   by_cases hij:j=i
   ·subst hij
    simp [hy,← hyk]
   ·simp [hij]
  refine ⟨_,u,(y.born:Int),.map es clock,.map (es.modify j fun e=>{e with val:=v}) clock,hb,fun wx hx=>?_,fun wx hx=>?_,fun wx hx=>⟨_,_,hx,stamped_modify hs _ _ (fun _ _=>rfl) (fun _ _ _=>rfl),?_⟩⟩
  ·have hf:=E.find wx x hL
   rw [hg] at hf
   simp only [Option.map_some,hj] at hf
   have hyv:y.val=u:=congrArg Prod.snd hye
   simp [Instr.mapEntry,run_underlying ht,MapKept.run_getObj_map hx,E.check,hf,run_setObj_map _ hx,Result.andThen,aO,hy,hyk,E.stays,hsame,goInt]
  ·have hidx:es.findIdx? (fun e=>((e.born:Nat):Int)==((y.born:Nat):Int))=some j:=by
    rw [WideElems.findIdx_arr]
    exact WideElems.findIdx_born s2 hyl
   simp [Instr.entryStore,MapKept.run_getObj_map hx,asInt,asIntOf,hidx,run_setObj_map _ hx,Result.andThen,aO]
  ·rw [uD hg,hj]
   apply List.ext_getElem?
   intro i
   have hl:=congrArg (fun l=>l[i]?) hL
   simp only [List.getElem?_map,Array.getElem?_toList,Array.getElem?_modify,List.getElem?_modify] at hl ⊢
   by_cases hij:j=i
   ·subst hij
    simp [hy,hi,hyk]
   ·simp [hij,hl]
end
end Go.Proofs.YteapahcklcldkaaGreatDoor.Fx
