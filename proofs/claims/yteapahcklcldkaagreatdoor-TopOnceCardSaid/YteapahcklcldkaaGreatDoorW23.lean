/-
  The statement is proved: all that it reaches, in parts.
-/
import Derived.Test.YteapahcklcldkaaGreatDoorW20
import Derived.Test.YteapahcklcldkaaGreatDoorW22
set_option maxRecDepth 100000
set_option maxHeartbeats 16000000
namespace Go.Proofs.YteapahcklcldkaaGreatDoor
open Go.RowKit Fx
structure aP (F F':Nat→Prop) (w w':World):Prop where
 keeps:aD F w w'
 grows:aW2 F F' w
section
variable {F F' F'' G:Nat→Prop} {w w' w'':World}
theorem aP.refl (F:Nat→Prop) (w:World):aP F F w w:=⟨aD.refl _ _,fun _ h=>.inl h⟩
theorem aP.of_k0 (h:K0 w w'):aP F F w w':=⟨h.mono (fun _ _ e=>e.elim),fun _ h=>.inl h⟩
theorem aP.trans (h:aP F F' w w') (h':aP F' F'' w' w''):aP F F'' w w'':=
 ⟨h.keeps.trans h'.keeps (fun k hk e=>(h.grows k e).elim id fun h=>absurd hk aA),fun k e=>(h'.grows k e).elim (h.grows k) fun h1=>.inr (Nat.le_trans h.keeps.size h1)⟩
theorem aP.k0 (h:aP F F' w w') (h':K0 w' w''):aP F F' w w'':=h.trans (aP.of_k0 h')
theorem aP.k0_left (h:K0 w w') (h':aP F F' w' w''):aP F F' w w'':=(aP.of_k0 h).trans h'
theorem aP.apart (h:aP F F' w w') (hG:∀ k,G k→k<w.heap.size∧¬ F k):∀ k,G k→k<w'.heap.size∧¬ F' k:=fun k e=>
 ⟨Nat.lt_of_lt_of_le (hG k e).1 h.keeps.size,fun e'=>(h.grows k e').elim (hG k e).2 fun h1=>absurd (hG k e).1 aA⟩
theorem aP.or_left (h:aP F F' w w'):aP (fun k=>F k∨G k) (fun k=>F' k∨G k) w w':=
 ⟨h.keeps.mono (fun _ _ e=>.inl e),fun k e=>e.elim (fun e=>(h.grows k e).imp .inl id) fun e=>.inl (.inr e)⟩
theorem aP.or_right (h:aP F F' w w'):aP (fun k=>G k∨F k) (fun k=>G k∨F' k) w w':=
 ⟨h.keeps.mono (fun _ _ e=>.inr e),fun k e=>e.elim (fun e=>.inl (.inl e)) fun e=>(h.grows k e).imp .inr id⟩
theorem aP.mono (h:aP F F' w w') {G':Nat→Prop} (h1:∀ k,F k→G k) (h2:∀ k,G' k→F' k∨G k∨w.heap.size≤k):aP G G' w w':=
 ⟨h.keeps.mono (fun k _ e=>h1 k e),fun k e=>(h2 k e).elim (fun e=>(h.grows k e).imp (h1 k) id) id⟩
end
def aU (w:World) (F:Nat→Prop) (db:Nat) (D:Dsk.aS):Prop:=∃ mb L,Dsk.iC ⟨w,fun k=>¬ F k⟩ w db D mb L∧F=Dsk.inD db mb L
section
variable {F:Nat→Prop} {w w':World} {db:Nat} {D D':Dsk.aS}
theorem aU.of {w0:iW} (h:Dsk.DSt w0 w db D):∃ F,aU w F db D∧∀ k,F k→w0.out k:=by
 obtain ⟨mb,L,h⟩:=h
 exact ⟨_,⟨mb,L,h.base,rfl⟩,h.inD_out⟩
theorem aU.lt (h:aU w F db D):∀ k,F k→k<w.heap.size:=by
 obtain ⟨mb,L,h,rfl⟩:=h
 exact h.lt
theorem aU.self (h:aU w F db D):F db:=by
 obtain ⟨mb,L,h,rfl⟩:=h
 exact .inl rfl
theorem aU.keep (h:aU w F db D) {S:Nat→Prop} (k:aD S w w') (hS:∀ k,F k→¬ S k):aU w' F db D:=by
 obtain ⟨mb,L,h,rfl⟩:=h
 exact ⟨mb,L,⟨aD.refl _ _,(k.block db (aC h.blk) (hS _ (.inl rfl))).trans h.blk,h.core,h.map.keep k (hS _ (.inr (.inl rfl))),fun s p e=>(k.block _ (aC (h.fil s p e)) (hS _ (.inr (.inr ⟨s,p,e,rfl⟩)))).trans (h.fil s p e),h.apart,h.ne,
  ⟨fun q=>q.2 (.inl rfl),fun q=>q.2 (.inr (.inl rfl))⟩,fun s p e=>⟨fun q=>q.2 (.inr (.inr ⟨s,p,e,rfl⟩)),(h.fnew s p e).2⟩,h.keys⟩,rfl⟩
theorem aU.k0 (h:aU w F db D) (k:K0 w w'):aU w' F db D:=h.keep k (fun _ _ e=>e)
theorem aU.moved (h:Dsk.DSt ⟨w,fun k=>¬ F k⟩ w' db D'):∃ F',aU w' F' db D'∧aP F F' w w':=by
 obtain ⟨mb,L,h⟩:=h
 exact ⟨_,⟨mb,L,h.base,rfl⟩,h.k0.mono (fun k _ e=>Classical.not_not.1 e),fun k e=>by
  have:=h.inD_out k e
  by_cases hF:F k
  ·exact .inl hF
  ·exact .inr (Nat.le_of_not_lt fun hlt=>this ⟨hlt,hF⟩)⟩
def cZ (w:World) (F:Nat→Prop) (db:Nat) (v:Value) (D':Dsk.aS) (e:Ending) (w':World):Prop:=e=.returned v∧∃ F',aU w' F' db D'∧aP F F' w w'
theorem yY (h:aU w F db D) (s:ByteArray):Calls Tryz.prog 180 #[.pointer (some ⟨db,0,none⟩),.string s] w fun e w'=>e=.returned (.tuple #[.string (Dsk.jM D s),.int .i64 (Dsk.bJ D s)])∧K0 w w':=by
 obtain ⟨mb,L,h,_⟩:=h
 exact Dsk.aUg h s
theorem aCx (h:aU w F db D) (wf:Dsk.fV D) (s t:ByteArray) (ht:t.size≤1000000):Calls Tryz.prog 203 #[.pointer (some ⟨db,0,none⟩),.string s,.string t] w (cZ w F db (.int .i64 (Dsk.fQ D s t)) (Dsk.cL D s t)):=by
 obtain ⟨mb,L,h,rfl⟩:=h
 exact (Dsk.aMk h wf s t ht).mono fun e w' q=>⟨q.1,aU.moved q.2⟩
theorem aLo (h:aU w F db D) (wf:Dsk.fV D) (s:ByteArray):Calls Tryz.prog 205 #[.pointer (some ⟨db,0,none⟩),.string s] w (cZ w F db (.int .i64 (Dsk.bJ D s)) (Dsk.dJ D s)):=by
 obtain ⟨mb,L,h,rfl⟩:=h
 exact (Dsk.aUx h wf s).mono fun e w' q=>⟨q.1,aU.moved q.2⟩
theorem aLn (h:aU w F db D) (wf:Dsk.fV D) (s:ByteArray):Calls Tryz.prog 182 #[.pointer (some ⟨db,0,none⟩),.string s] w (cZ w F db (.int .i64 (Dsk.bJ D s)) (Dsk.sP D s)):=by
 obtain ⟨mb,L,h,rfl⟩:=h
 exact (Dsk.aTk h wf s).mono fun e w' q=>⟨q.1,aU.moved q.2⟩
theorem aM4 (h:aU w F db D) (wf:Dsk.fV D) (s t:ByteArray):Calls Tryz.prog 207 #[.pointer (some ⟨db,0,none⟩),.string s,.string t] w (cZ w F db (.int .i64 (Dsk.rY D s t)) (Dsk.xH D s t)):=by
 obtain ⟨mb,L,h,rfl⟩:=h
 exact (Dsk.aOg h wf s t).mono fun e w' q=>⟨q.1,aU.moved q.2⟩
theorem aAm (h:aU w F db D) (wf:Dsk.fV D) (hl:D.files.length≤1000):Calls Tryz.prog 184 #[.pointer (some ⟨db,0,none⟩)] w (Dsk.lX w D):=by
 obtain ⟨mb,L,h,_⟩:=h
 exact Dsk.uU h wf hl
end
def dS (w:World) (F:Nat→Prop) (pb:Nat) (M:List (Int×Idm.aW)):Prop:=∃ mb L,Idm.pS ⟨w,fun k=>¬ F k⟩ w pb M mb L∧F=Idm.inP pb mb L
section
variable {F:Nat→Prop} {w w':World} {pb:Nat} {M M':List (Int×Idm.aW)}
theorem dS.lt (h:dS w F pb M):∀ k,F k→k<w.heap.size:=by
 obtain ⟨mb,L,h,rfl⟩:=h
 exact h.lt
theorem dS.keep (h:dS w F pb M) {S:Nat→Prop} (k:aD S w w') (hS:∀ k,F k→¬ S k):dS w' F pb M:=by
 obtain ⟨mb,L,h,rfl⟩:=h
 exact ⟨mb,L,⟨aD.refl _ _,(k.block pb (aC h.blk) (hS _ (.inl rfl))).trans h.blk,h.core,h.map.keep k (hS _ (.inr (.inl rfl))),fun s p e=>(k.block _ (aC (h.her s p e)) (hS _ (.inr (.inr ⟨s,p,e,rfl⟩)))).trans (h.her s p e),h.apart,h.ne,
  ⟨fun q=>q.2 (.inl rfl),fun q=>q.2 (.inr (.inl rfl))⟩,fun s p e=>⟨fun q=>q.2 (.inr (.inr ⟨s,p,e,rfl⟩)),(h.fnew s p e).2⟩,h.keys⟩,rfl⟩
theorem dS.k0 (h:dS w F pb M) (k:K0 w w'):dS w' F pb M:=h.keep k (fun _ _ e=>e)
theorem dS.moved (h:Idm.pE ⟨w,fun k=>¬ F k⟩ w' pb M'):∃ F',dS w' F' pb M'∧aP F F' w w':=by
 obtain ⟨mb,L,h⟩:=h
 exact ⟨_,⟨mb,L,h.base,rfl⟩,h.k0.mono (fun k _ e=>Classical.not_not.1 e),fun k e=>by
  have:=h.inP_out k e
  by_cases hF:F k
  ·exact .inl hF
  ·exact .inr (Nat.le_of_not_lt fun hlt=>this ⟨hlt,hF⟩)⟩
theorem aWj (w:World):Calls Tryz.prog 89 #[] w fun e w'=>∃ pb F',e=.returned (.pointer (some ⟨pb,0,none⟩))∧dS w' F' pb []∧K0 w w'∧∀ k,F' k→w.heap.size≤k:=
 (Idm.aRj w).mono fun _e _w' ⟨pb,he,mb,L,h⟩=>⟨pb,_,he,⟨mb,L,h.base,rfl⟩,h.k0.mono (fun _k _ e=>e trivial),fun k e=>Nat.le_of_not_lt fun hlt=>h.inP_out k e ⟨hlt,trivial⟩⟩
theorem aUe (h:dS w F pb M) (wf:Idm.WfM M) (b:Idm.cY):Calls Tryz.prog 95 #[.pointer (some ⟨pb,0,none⟩),.agg #[.int .i64 b.base,.int .i64 b.span,.int .i64 b.prod,.int .i64 b.epoch,.int .i64 b.seq,.slice b.ra b.rn b.rc]] w fun e w'=>e=.returned (.tuple #[])∧∃ F',dS w' F' pb (Idm.hZ M b)∧aP F F' w w':=by
 obtain ⟨mb,L,h,rfl⟩:=h
 exact (Idm.uX ⟨mb,L,h⟩ wf b).mono fun e w' q=>⟨q.1,dS.moved q.2⟩
theorem aHx (h:dS w F pb M) (wf:Idm.WfM M) (b:Idm.cY):Calls Tryz.prog 93 #[.pointer (some ⟨pb,0,none⟩),.agg #[.int .i64 b.base,.int .i64 b.span,.int .i64 b.prod,.int .i64 b.epoch,.int .i64 b.seq,.slice b.ra b.rn b.rc]] w fun e w'=>e=.returned (Idm.aUj (Idm.eP M b))∧K0 w w':=by
 obtain ⟨mb,L,h,_⟩:=h
 exact Idm.nO ⟨mb,L,h⟩ wf b
end
end Go.Proofs.YteapahcklcldkaaGreatDoor
