/-
  The statement is proved: all that it reaches, in parts.
-/
import Derived.Test.YteapahcklcldkaaGreatDoorW12
import Derived.Deep.MidRow
set_option maxRecDepth 100000
set_option maxHeartbeats 16000000
namespace Go.Proofs.YteapahcklcldkaaGreatDoor
open Go.RowKit Fx
section
variable {D:Nat→Prop} {w0 w:World} {cb bx qb:Nat} {q:fG} {s:ByteArray} {at_:Int} {bad:Bool}
def plF (qb:Nat) (q:fG):List (Nat×Nat×Int):=[(qb,2,q.index),(qb,3,q.count),(qb,4,q.from_)]
def plG (qb:Nat) (q:fG):List (Nat×Nat×Int):=[(qb,17,q.member),(qb,18,q.gen)]
theorem gP.plainF (h:gP D w0 cb bx qb q s at_ bad w) (c:TypeId) (cap:Nat) (hs:s.size≤100000000000):Calls Tryz.prog 106 #[.pointer (some ⟨cb,0,none⟩),.slice (some ⟨w.heap.size,0,none⟩) 3 cap] (w.alloc (.cells #[.pointer (some ⟨qb,2,none⟩),.pointer (some ⟨qb,3,none⟩),.pointer (some ⟨qb,4,none⟩)] c))
  (fun e w'=>e=.returned (.tuple #[])∧gP D w0 cb bx qb q (s++pW (plF qb q)) at_ (bad||!pO (plF qb q)) w'):=by
 have hlc:cb<w.heap.size:=aC h.cod.cod
 have k0:K0 w (w.alloc (.cells #[.pointer (some ⟨qb,2,none⟩),.pointer (some ⟨qb,3,none⟩),.pointer (some ⟨qb,4,none⟩)] c)):=(aD.refl _ _).alloc _
 have h1:=h.k0 k0
 have hl:=aC h1.blk
 refine (aAj (l:=plF qb q) h1.cod.cod ⟨⟨_,c,aI w _ _ rfl,fun i hi=>?_⟩,fun p hp=>?_,by omega,fun p hp=>?_⟩ (by show s.size+10*3≤_;omega)).mono zG
 ·match i,hi with
  | 0,_=>rfl
  | 1,_=>rfl
  | 2,_=>rfl
 ·simp only [plF,List.mem_cons,List.mem_nil_iff,or_false] at hp
  rcases hp with rfl | rfl | rfl
  ·exact ⟨aB h1.blk 2,hl,h.qn⟩
  ·exact ⟨aB h1.blk 3,hl,h.qn⟩
  ·exact ⟨aB h1.blk 4,hl,h.qn⟩
 ·simp only [plF,List.mem_cons,List.mem_nil_iff,or_false] at hp
  rcases hp with rfl | rfl | rfl
  ·exact h.ok.index
  ·exact h.ok.count
  ·exact h.ok.from_
theorem gP.plainG (h:gP D w0 cb bx qb q s at_ bad w) (c:TypeId) (cap:Nat) (hs:s.size≤100000000000):Calls Tryz.prog 106 #[.pointer (some ⟨cb,0,none⟩),.slice (some ⟨w.heap.size,0,none⟩) 2 cap] (w.alloc (.cells #[.pointer (some ⟨qb,17,none⟩),.pointer (some ⟨qb,18,none⟩)] c))
  (fun e w'=>e=.returned (.tuple #[])∧gP D w0 cb bx qb q (s++pW (plG qb q)) at_ (bad||!pO (plG qb q)) w'):=by
 have hlc:cb<w.heap.size:=aC h.cod.cod
 have k0:K0 w (w.alloc (.cells #[.pointer (some ⟨qb,17,none⟩),.pointer (some ⟨qb,18,none⟩)] c)):=(aD.refl _ _).alloc _
 have h1:=h.k0 k0
 have hl:=aC h1.blk
 refine (aAj (l:=plG qb q) h1.cod.cod ⟨⟨_,c,aI w _ _ rfl,fun i hi=>?_⟩,fun p hp=>?_,by omega,fun p hp=>?_⟩ (by show s.size+10*2≤_;omega)).mono zG
 ·match i,hi with
  | 0,_=>rfl
  | 1,_=>rfl
 ·simp only [plG,List.mem_cons,List.mem_nil_iff,or_false] at hp
  rcases hp with rfl | rfl
  ·exact ⟨aB h1.blk 17,hl,h.qn⟩
  ·exact ⟨aB h1.blk 18,hl,h.qn⟩
 ·simp only [plG,List.mem_cons,List.mem_nil_iff,or_false] at hp
  rcases hp with rfl | rfl
  ·exact h.ok.member
  ·exact h.ok.gen
def aUi (qb:Nat) (q:fG) (s:ByteArray):ByteArray:=s++putB q.kind++cJ q.name++pW (plF qb q)++putB (kR q.flag)++cJ (gY q.bat)++cJ (bP [0])++cJ q.group++pW (plG qb q)
def aXl (qb:Nat) (q:fG) (bad:Bool):Bool:=bad||!(decide (1≤q.kind)&&decide (q.kind≤14))||!decide ((q.name.size:Int)≤100)||!pO (plF qb q)||!decide ((q.group.size:Int)≤100)||!pO (plG qb q)
def yN (qb:Nat) (q:fG) (s:ByteArray) (bad:Bool):ByteArray×Bool:=lsW (aUi qb q s++putB q.topics.length) (aXl qb q bad||!(decide (0≤(q.topics.length:Int))&&decide ((q.topics.length:Int)≤20))) q.topics
theorem aCp {D:Nat→Prop} {w:World} {cb:Nat} {q:fG} (h:pF D w cb q):(gY q.bat).size≤60008:=by
 rcases h.bat with he | ⟨he,ho,_⟩
 ·rw [gY,if_pos he];decide
 ·rw [gY,if_neg (by rw [he];decide),dX];have:=ho.size;omega
theorem aRf {D:Nat→Prop} {w:World} {cb:Nat} {q:fG} (h:pF D w cb q) (qb:Nat):(pW (plF qb q)).size≤30:=vA (l:=plF qb q) (fun p hp=>by
  simp only [plF,List.mem_cons,List.mem_nil_iff,or_false] at hp
  rcases hp with rfl | rfl | rfl
  ·exact h.index
  ·exact h.count
  ·exact h.from_)
theorem aRg {D:Nat→Prop} {w:World} {cb:Nat} {q:fG} (h:pF D w cb q) (qb:Nat):(pW (plG qb q)).size≤20:=vA (l:=plG qb q) (fun p hp=>by
  simp only [plG,List.mem_cons,List.mem_nil_iff,or_false] at hp
  rcases hp with rfl | rfl
  ·exact h.member
  ·exact h.gen)
end
theorem aVy {D:Nat→Prop} {w:World} {cb qb:Nat} {q:fG} {s:ByteArray} {at_:Int} {bad:Bool} (h:gP D w cb w.heap.size qb q s at_ bad (w.alloc (.cells #[.pointer (some ⟨cb,0,none⟩)] 118))) (hs:s.size≤10000000000) :
  Calls Tryz.prog 46 #[.pointer (some ⟨cb,0,none⟩),.pointer (some ⟨qb,0,none⟩)] w (fun e w'=>e=.returned (.tuple #[])∧eW w' cb (yN qb q s bad).1 at_ false (yN qb q s bad).2∧aD (fun k=>k=cb) w w'):=by
 have HZ:Hid (∀ t:ByteArray,t.size≤10000000000+5000000000→t.size≤100000000000):=fun t ht=>by omega
 have z1:=bU h.ok.kind
 have z2:=dG (s:=q.name) (by have:=h.ok.name;omega)
 have z2':=h.ok.name
 have z3:=aRf h.ok qb
 have z4:=bU (n:=kR q.flag) aO6
 have z5:=dG (s:=gY q.bat) (by have:=aCp h.ok;omega)
 have z5':=aCp h.ok
 have z6:=dG (s:=bP [0]) mO
 have z6':(bP [0]).size=1:=by rw [dC];rfl
 have z7:=dG (s:=q.group) (by have:=h.ok.group;omega)
 have z7':=h.ok.group
 have z8:=aRg h.ok qb
 have Y1:=Lib.hid (show s.size≤100000000000 by omega)
 have Y2:=Lib.hid (show (s++putB q.kind).size≤100000000000 by simp only [ByteArray.size_append];omega)
 have Y3:=Lib.hid (show (s++putB q.kind++cJ q.name).size≤100000000000 by simp only [ByteArray.size_append];omega)
 have Y4:=Lib.hid (show (s++putB q.kind++cJ q.name++pW (plF qb q)).size≤100000000000 by simp only [ByteArray.size_append];omega)
 have Y5:=Lib.hid (show (s++putB q.kind++cJ q.name++pW (plF qb q)++putB (kR q.flag)).size≤100000000000 by simp only [ByteArray.size_append];omega)
 have Y6:=Lib.hid (show (s++putB q.kind++cJ q.name++pW (plF qb q)++putB (kR q.flag)++cJ (gY q.bat)).size≤100000000000 by simp only [ByteArray.size_append];omega)
 have Y7:=Lib.hid (show (s++putB q.kind++cJ q.name++pW (plF qb q)++putB (kR q.flag)++cJ (gY q.bat)++cJ (bP [0])).size≤100000000000 by simp only [ByteArray.size_append];omega)
 have Y8:=Lib.hid (show (s++putB q.kind++cJ q.name++pW (plF qb q)++putB (kR q.flag)++cJ (gY q.bat)++cJ (bP [0])++cJ q.group).size≤100000000000 by simp only [ByteArray.size_append];omega)
 have Y9:=Lib.hid (show (aUi qb q s).size≤100000000000 by simp only [aUi,ByteArray.size_append];omega)
 have H1:=Lib.hid h
 clear h HZ z1 z2 z2' z3 z4 z5 z5' z6 z6' z7 z7' z8 hs
 go_enter Tryz.func46,Tryz.ntmps46
 go_wp2_with fail
 have D1:=Lib.hid (H1.out.k0 (aD.refl (fun _=>False) _).drew)
 have b1:=D1.out.box
 clear H1
 go_region_held3 (fun w':World=>w'.cell? ⟨w.heap.size,0,none⟩=some (.pointer (some ⟨cb,0,none⟩)))
  (first | go_keep | assumption)
  (first | (go_at_call 104;refine (D1.out.kind Y1.out).mono ?_;rintro e w2 ⟨rfl,h2⟩;have b2:=h2.box;have H2:=Lib.hid h2;clear h2))
 go_wp2_with fail
 clear b1 D1
 have D2:=Lib.hid (H2.out.k0 (aD.refl (fun _=>False) _).drew)
 have b2:=D2.out.box
 clear H2
 go_region_held3 (fun w':World=>w'.cell? ⟨w.heap.size,0,none⟩=some (.pointer (some ⟨cb,0,none⟩)))
  (first | go_keep | assumption)
  (first | (go_at_call 105;refine (D2.out.name Y2.out).mono ?_;rintro e w3 ⟨rfl,h3⟩;have b3:=h3.box;have H3:=Lib.hid h3;clear h3))
 go_wp2_with fail
 clear b2 D2
 have D3:=Lib.hid (H3.out.k0 (aD.refl (fun _=>False) _).drew)
 have b3:=D3.out.box
 clear H3
 go_region_held3 (fun w':World=>w'.cell? ⟨w.heap.size,0,none⟩=some (.pointer (some ⟨cb,0,none⟩)))
  (first | go_keep | assumption)
  (first | (go_at_call 106;refine (D3.out.plainF _ _ Y3.out).mono ?_;rintro e w4 ⟨rfl,h4⟩;have b4:=h4.box;have H4:=Lib.hid h4;clear h4))
 go_wp2_with fail
 clear b3 D3
 have D4:=Lib.hid (H4.out.k0 (aD.refl (fun _=>False) _).drew)
 have b4:=D4.out.box
 clear H4
 go_region_held3 (fun w':World=>w'.cell? ⟨w.heap.size,0,none⟩=some (.pointer (some ⟨cb,0,none⟩)))
  (first | go_keep | assumption)
  (first | (go_at_call 107;refine (D4.out.flag Y4.out).mono ?_;rintro e w5 ⟨rfl,h5⟩;have b5:=h5.box;have H5:=Lib.hid h5;clear h5))
 go_wp2_with fail
 clear b4 D4
 have D5:=Lib.hid (H5.out.k0 (aD.refl (fun _=>False) _).drew)
 have b5:=D5.out.box
 clear H5
 go_region_held3 (fun w':World=>w'.cell? ⟨w.heap.size,0,none⟩=some (.pointer (some ⟨cb,0,none⟩)))
  (first | go_keep | assumption)
  (first | (go_at_call 108;refine (D5.out.batch Y5.out).mono ?_;rintro e w6 ⟨rfl,h6⟩;have b6:=h6.box;have H6:=Lib.hid h6;clear h6))
 go_wp2_with fail
 clear b5 D5
 have D6:=Lib.hid (H6.out.k0 (aD.refl (fun _=>False) _).drew)
 have b6:=D6.out.box
 clear H6
 go_region_held3 (fun w':World=>w'.cell? ⟨w.heap.size,0,none⟩=some (.pointer (some ⟨cb,0,none⟩)))
  (first | go_keep | assumption)
  (first | (go_at_call 109;refine (D6.out.filter Y6.out).mono ?_;rintro e w7 ⟨rfl,h7⟩;have b7:=h7.box;have H7:=Lib.hid h7;clear h7))
 go_wp2_with fail
 clear b6 D6
 have D7:=Lib.hid (H7.out.k0 (aD.refl (fun _=>False) _).drew)
 have b7:=D7.out.box
 clear H7
 go_region_held3 (fun w':World=>w'.cell? ⟨w.heap.size,0,none⟩=some (.pointer (some ⟨cb,0,none⟩)))
  (first | go_keep | assumption)
  (first | (go_at_call 105;refine (D7.out.group Y7.out).mono ?_;rintro e w8 ⟨rfl,h8⟩;have b8:=h8.box;have H8:=Lib.hid h8;clear h8))
 go_wp2_with fail
 clear b7 D7
 have D8:=Lib.hid (H8.out.k0 (aD.refl (fun _=>False) _).drew)
 have b8:=D8.out.box
 clear H8
 go_region_held3 (fun w':World=>w'.cell? ⟨w.heap.size,0,none⟩=some (.pointer (some ⟨cb,0,none⟩)))
  (first | go_keep | assumption)
  (first | (go_at_call 106;refine (D8.out.plainG _ _ Y8.out).mono ?_;rintro e w9 ⟨rfl,h9⟩;have b9:=h9.box;have H9:=Lib.hid h9;clear h9))
 go_wp2_with fail
 clear b8 D8
 have D9:=Lib.hid (H9.out.k0 (aD.refl (fun _=>False) _).drew)
 have b9:=D9.out.box
 clear H9
 go_region_held3 (fun w':World=>w'.cell? ⟨w.heap.size,0,none⟩=some (.pointer (some ⟨cb,0,none⟩)))
  (first | go_keep | assumption)
  (first | (go_at_call 110;refine (D9.out.list Y9.out).mono ?_;rintro e w10 ⟨rfl,h10,b10⟩;have H10:=Lib.hid h10;clear h10))
 go_wp2_with fail
 go_end0
 exact ⟨rfl,H10.out⟩
def fG.val (q:fG):Value:=.agg q.cells
def aEa (q:fG):ByteArray×Int:=if (yN 0 q ⟨#[]⟩ false).2=true∨60000<(yN 0 q ⟨#[]⟩ false).1.size then (⟨#[]⟩,1) else ((yN 0 q ⟨#[]⟩ false).1,0)
theorem aWp {D:Nat→Prop} {w:World} {q:fG} (ho:∀ cb,w.heap.size≤cb→pF D w cb q) (hst:bF w) (h0:0<w.heap.size) :
  gP D ((w.alloc (.cells q.cells 45)).alloc (.cells #[.string ⟨#[]⟩,.int .i64 0,.bool false,.bool false] 212)) (w.heap.size+1) (w.heap.size+1+1) w.heap.size q ⟨#[]⟩ 0 false
   (((w.alloc (.cells q.cells 45)).alloc (.cells #[.string ⟨#[]⟩,.int .i64 0,.bool false,.bool false] 212)).alloc (.cells #[.pointer (some ⟨w.heap.size+1,0,none⟩)] 118)):=by
 have k1:K0 w (((w.alloc (.cells q.cells 45)).alloc (.cells #[.string ⟨#[]⟩,.int .i64 0,.bool false,.bool false] 212)).alloc (.cells #[.pointer (some ⟨w.heap.size+1,0,none⟩)] 118)):=(((aD.refl _ _).alloc _).alloc _).alloc _
 refine ⟨⟨aL (aI _ _ _ aK) _,aB (aI _ _ _ aK) 0,by simp,by omega,(aD.refl _ _).alloc _⟩,aL (aL (aI w _ _ rfl) _) _,(ho _ aA).keep (k1.mono (fun _ _ h=>h.elim)),by omega,hst.keep0 k1,by omega⟩
theorem aSj {D:Nat→Prop} {w:World} {q:fG} (ho:∀ cb,w.heap.size≤cb→pF D w cb q) (hst:bF w) (h0:0<w.heap.size) :
  Calls Tryz.prog 86 #[q.val,.func (Fn.func 46) #[] #[]] w (fun e w'=>e=.returned (.tuple #[.string (aEa q).1,.int .i64 (aEa q).2])∧K0 w w'):=by
 have HC:Hid (Calls Tryz.prog 46 #[.pointer (some ⟨w.heap.size+1,0,none⟩),.pointer (some ⟨w.heap.size,0,none⟩)] ((w.alloc (.cells q.cells 45)).alloc (.cells #[.string ⟨#[]⟩,.int .i64 0,.bool false,.bool false] 212)) (fun e w'=>e=.returned (.tuple #[])∧eW w' (w.heap.size+1) (yN 0 q ⟨#[]⟩ false).1 0 false (yN 0 q ⟨#[]⟩ false).2∧K0 w w')):=by
  have h:=aWp ho hst h0
  have hsz:((w.alloc (.cells q.cells 45)).alloc (.cells #[.string ⟨#[]⟩,.int .i64 0,.bool false,.bool false] 212)).heap.size=w.heap.size+1+1:=aK
  rw [← hsz] at h
  refine (aVy h aE).mono ?_
  rintro e w' ⟨rfl,c,k⟩
  refine ⟨rfl,c,?_⟩
  exact (((aD.refl (fun _=>False) w).alloc _).alloc _).trans k (fun k hk e=>by omega)
 clear ho hst h0
 unfold aEa
 obtain ⟨R,hR⟩:∃ R,R=yN 0 q ⟨#[]⟩ false:=⟨_,rfl⟩
 rw [← hR] at HC ⊢
 obtain ⟨s,b⟩:=R
 dsimp only at HC ⊢
 clear hR
 unfold fG.val
 unfold fG.cells at HC ⊢
 cases b
 ·by_cases hz:60000<s.size
  ·have hz':(60000:Int)<s.size:=by omega
   rw [if_pos (.inr hz)]
   go_enter Tryz.func86,Tryz.ntmps86
   go_wp2_with (go_at_call 46;refine HC.out.mono ?_;rintro e w2 ⟨rfl,c,k⟩;obtain ⟨c0,c1,c2,c3,_⟩:=c.all;have HK:=Lib.hid k;clear k)
   go_ret2
   exact ⟨rfl,HK.out⟩
  ·have hz':¬ (60000:Int)<s.size:=by omega
   rw [if_neg (by simpa using hz)]
   go_enter Tryz.func86,Tryz.ntmps86
   go_wp2_with (go_at_call 46;refine HC.out.mono ?_;rintro e w2 ⟨rfl,c,k⟩;obtain ⟨c0,c1,c2,c3,_⟩:=c.all;have HK:=Lib.hid k;clear k)
   go_ret2
   exact ⟨rfl,HK.out⟩
 ·rw [if_pos (.inl rfl)]
  go_enter Tryz.func86,Tryz.ntmps86
  go_wp2_with (go_at_call 46;refine HC.out.mono ?_;rintro e w2 ⟨rfl,c,k⟩;obtain ⟨c0,c1,c2,c3,_⟩:=c.all;have HK:=Lib.hid k;clear k)
  go_ret2
  exact ⟨rfl,HK.out⟩
theorem aC2 (s:ByteArray) (w:World) (hs:s.size≤60000):Calls Tryz.prog 15 #[.string s] w fun e w'=>e=.returned (.tuple #[.string (dR s.size++s),.int .i64 0])∧K0 w w':=by
 have h1:¬ (60000:Int)<s.size:=aA
 have z1:¬ 9223372036854775807<(dR s.size).size+s.size:=by rw [dB];omega
 go_enter Tryz.func15,Tryz.ntmps15
 go_wp2_with (go_at_call 48;refine (wF _ _ aA).mono ?_;rintro e w2 ⟨rfl,k⟩;have HK:=Lib.hid k;clear k)
 go_ret2
 exact ⟨rfl,HK.out⟩
theorem gQ:(Tryz.prog.info? 45).map (·.size)=some 20:=by kernel_rfl
theorem nV (w:World) (cs:List Value) (t:TypeId) (n:Nat) (h:n=w.heap.size):(w.alloc (.cells cs.toArray t)).rangeAt n 0 cs:=by
 intro j v hv
 rw [Nat.zero_add,aB (aI w _ n h) j]
 simpa using hv
theorem aTl (cs:List Value) (hl:cs.length=20) (w:World) (s:ByteArray) (n:Int)
  (HC:Hid (Calls Tryz.prog 86 #[.agg cs.toArray,.func (Fn.func 46) #[] #[]] (w.alloc (.cells cs.toArray 45)) (fun e w'=>e=.returned (.tuple #[.string s,.int .i64 n])∧K0 w w'))) :
  Calls Tryz.prog 34 #[.agg cs.toArray] w (fun e w'=>e=.returned (.tuple #[.string s,.int .i64 n])∧K0 w w'):=by
 have HR:=Lib.hid (nV w cs 45 _ rfl)
 have HS:Hid ((Tryz.prog.info? 45).map (·.size)=some cs.length):=by show _=_;rw [hl];exact gQ
 clear hl
 go_enter Tryz.func34,Tryz.ntmps34
 go_wp2_with (first
  | (refine wpList_load_mid rfl 45 (.tmp 1) rfl w.heap.size 0 rfl cs _ HR.out Tryz.underlying45 rfl HS.out ?_)
  | (go_at_call 86;refine HC.out.mono ?_;rintro e w2 ⟨rfl,k⟩;have HK:=Lib.hid k;clear k))
 go_ret2
 exact ⟨rfl,HK.out⟩
theorem yD {D:Nat→Prop} {w:World} {q:fG} (ho:∀ cb,w.heap.size≤cb→pF D w cb q) (hst:bF w) (h0:0<w.heap.size) :
  Calls Tryz.prog 34 #[q.val] w (fun e w'=>e=.returned (.tuple #[.string (aEa q).1,.int .i64 (aEa q).2])∧K0 w w'):=by
 have k1:K0 w (w.alloc (.cells q.cells 45)):=(aD.refl _ _).alloc _
 have hc:q.cells=q.cells.toList.toArray:=rfl
 have h:=aTl q.cells.toList rfl w (aEa q).1 (aEa q).2 (by
  show Calls _ _ _ _ _
  rw [← hc]
  exact (aSj (fun cb hcb=>(ho cb (by have:=k1.size;omega)).keep (k1.mono (fun _ _ h=>h.elim))) (hst.keep0 k1) (by have:=k1.size;omega)).mono (by rintro e w' ⟨rfl,k⟩;exact ⟨rfl,k1.tr k⟩))
 rw [← hc] at h
 exact h
def RdP (w:World) (cb nb:Nat) (s:ByteArray) (p:Int) (c:Array Value) (ty:TypeId) (e:Ending) (w':World):Prop:=e=.returned (.tuple #[])∧eW w' cb s p true false∧w'.heap[nb]?=some (.cells c ty (0,0))∧aD (fun k=>k=cb∨k=nb) w w'
section
variable {w:World} {cb nb ni:Nat} {s:ByteArray} {p p':Int} {c:Array Value} {ty:TypeId} {o:Value}
theorem oJ {n lo hi:Int} (h:eW w cb s p true false) (g:cA s p n p') (hs:s.size≤1000000000) (hp:p≤s.size) (hb:w.heap[nb]?=some (.cells c ty (0,0))) (hi0:c[ni]?=some o) (hne:¬ nb=cb) (hlo:lo≤n) (hhi:n≤hi) :
  Calls Tryz.prog 104 #[.pointer (some ⟨cb,0,none⟩),.pointer (some ⟨nb,ni,none⟩),.int .i64 lo,.int .i64 hi] w (RdP w cb nb s p' (c.setIfInBounds ni (.int .i64 n)) ty):=by
 have HG:Hid (∀ wx,Calls Tryz.prog 170 #[.string s,.int .i64 p] wx fun e w'=>e=.returned (.tuple #[.int .i64 n,.int .i64 p',.int .i64 0])∧w'=wx):=fun wx=>aV2 g wx aA hp
 obtain ⟨c0,c1,c2,c3,f0,f1,f3,lt⟩:=h.all
 have n0:w.cell? ⟨nb,ni,none⟩=some o:=(aB hb ni).trans hi0
 have z0:w.frozen? ⟨nb,ni,none⟩=false:=aH hb ni
 have lt2:nb<w.heap.size:=aC hb
 have HH:=Lib.hid h
 have HB:=Lib.hid hb
 have HI:=Lib.hid hi0
 have HNE:=Lib.hid hne
 clear h g hb hi0 hs hp
 go_enter Tryz.func104,Tryz.ntmps104
 go_upto_region 3 with fail
 go_quiet ((go_at_call 170;exact Calls.quiet_of_same (HG.out _)))
 all_goals
  go_wp2_with fail
  refine (jA (HH.out.keep ((aD.refl (fun _=>False) w).drewN _) (fun e=>e)) _).mono ?_
  rintro e w1 ⟨rfl,h1,k1⟩
  have k2:aD (fun k=>k=cb∨k=nb) w w1:=(((aD.refl (fun k=>k=cb∨k=nb) w).drewN _)).trans k1 (fun _ _ e=>.inl e)
  have HB1:Hid (w1.heap[nb]?=some (.cells c ty (0,0))):=(k1.block nb lt2 HNE.out).trans HB.out
  have HH1:Hid (eW w1 cb s p true false):=Lib.hid (by simpa using h1)
  have HK1:=Lib.hid k2
  clear c0 c1 c2 c3 f0 f1 f3 lt n0 z0 lt2 HH HB k1 k2 h1
  obtain ⟨c0,c1,c2,c3,f0,f1,f3,lt⟩:=HH1.out.all
  have n0:w1.cell? ⟨nb,ni,none⟩=some o:=(aB HB1.out ni).trans HI.out
  have z0:w1.frozen? ⟨nb,ni,none⟩=false:=aH HB1.out ni
  have lt2:nb<w1.heap.size:=aC HB1.out
  have e1:decide (lo≤n)=true:=decide_eq_true hlo
  have e2:decide (n≤hi)=true:=decide_eq_true hhi
  have HZ:Hid (ni<c.size):=(Array.getElem?_eq_some_iff.1 HI.out).1
  go_wp2_with fail
  obtain ⟨W,hW⟩:∃ W,W=(w1.setCell ⟨nb,ni,none⟩ (.int .i64 n)).setCell ⟨cb,1,none⟩ (.int .i64 p'):=⟨_,rfl⟩
  have HW1:Hid (W.heap[nb]?=some (.cells (c.setIfInBounds ni (.int .i64 n)) ty (0,0))):=by
   rw [hW]
   exact ((aD.refl (fun k=>k=cb) (w1.setCell ⟨nb,ni,none⟩ (.int .i64 n))).setC 1 _ (fun _=>rfl) |>.block nb (by simpa [World.setCell] using lt2) HNE.out).trans (aM HB1.out ni _)
  have HC1:Hid (eW W cb s p' true false):=by
   rw [hW]
   exact (HH1.out.keep ((aD.refl (fun k=>k=nb) w1).setC ni _ (fun _=>rfl)) (fun e=>HNE.out e.symm)).set1 p'
  have HKW:Hid (aD (fun k=>k=cb∨k=nb) w W):=by
   rw [hW]
   exact (HK1.out.setC ni _ (fun _=>.inr rfl)).setC 1 _ (fun _=>.inl rfl)
  rw [← hW]
  clear hW c0 c1 c2 c3 f0 f1 f3 lt n0 z0 lt2
  refine (jA HC1.out _).mono ?_
  rintro e w2 ⟨rfl,h2,k2⟩
  have HC2:Hid (eW w2 cb s p' true false):=Lib.hid (by simpa [e1,e2] using h2)
  have HB2:Hid (w2.heap[nb]?=some (.cells (c.setIfInBounds ni (.int .i64 n)) ty (0,0))):=(k2.block nb (aC HW1.out) HNE.out).trans HW1.out
  have HK2:Hid (aD (fun k=>k=cb∨k=nb) w w2):=HKW.out.trans k2 (fun _ _ e=>.inl e)
  clear h2 k2
  go_wp2_with fail
  go_end0
  exact ⟨rfl,HC2.out,HB2.out,HK2.out⟩
theorem uI {most:Int} {x:ByteArray} (h:eW w cb s p true false) (g:fP s p most x p') (hs:s.size≤1000000000) (hp:p≤s.size) (hb:w.heap[nb]?=some (.cells c ty (0,0))) (hi0:c[ni]?=some o) (hne:¬ nb=cb) :
  Calls Tryz.prog 105 #[.pointer (some ⟨cb,0,none⟩),.pointer (some ⟨nb,ni,none⟩),.int .i64 most] w (RdP w cb nb s p' (c.setIfInBounds ni (.string x)) ty):=by
 have HG:Hid (∀ wx,Calls Tryz.prog 174 #[.string s,.int .i64 p,.int .i64 most] wx fun e w'=>e=.returned (.tuple #[.string x,.int .i64 p',.int .i64 0])∧K0 wx w'):=fun wx=>by
  have:=aBu s p most wx aA aA
  unfold kN at this
  rw [g.e,g.x,g.t] at this
  exact this
 obtain ⟨c0,c1,c2,c3,f0,f1,f3,lt⟩:=h.all
 have HH:=Lib.hid h
 have HB:=Lib.hid hb
 have HI:=Lib.hid hi0
 have HNE:=Lib.hid hne
 clear h g hb hi0 hs hp
 go_enter Tryz.func105,Tryz.ntmps105
 go_upto_region 5 with fail
 go_region_held3 (fun w':World=>K0 w w'∧w'.cell? ⟨cb,0,none⟩=some (.string s)∧w'.cell? ⟨cb,1,none⟩=some (.int .i64 p))
  (first | exact ⟨(aD.refl _ _).drew,by first | assumption | go_simp,by first | assumption | go_simp⟩ | (go_split_ands;exact ⟨K0.tr aG kk,kk.cell' aG (fun e=>e),kk.cell' aG (fun e=>e)⟩))
  (first
   | (go_at_call 174;go_split_ands;refine (HG.out _).mono ?_;rintro e w' ⟨rfl,kk⟩))
 all_goals
  go_wp2_with fail
  go_split_ands
  rename World=>wr
  have kr:K0 w wr:=aG
  refine (jA (HH.out.keep kr (fun e=>e)) _).mono ?_
  rintro e w1 ⟨rfl,h1,k1⟩
  have k2:aD (fun k=>k=cb∨k=nb) w w1:=(kr.mono (fun _ _ e=>e.elim)).trans k1 (fun _ _ e=>.inl e)
  have HB1:Hid (w1.heap[nb]?=some (.cells c ty (0,0))):=(k1.block nb (Nat.lt_of_lt_of_le (aC HB.out) kr.size) HNE.out).trans ((kr.block nb (aC HB.out) (fun e=>e)).trans HB.out)
  have HH1:Hid (eW w1 cb s p true false):=Lib.hid (by simpa using h1)
  have HK1:=Lib.hid k2
  clear c0 c1 c2 c3 f0 f1 f3 lt HH HB k1 k2 h1
  obtain ⟨c0,c1,c2,c3,f0,f1,f3,lt⟩:=HH1.out.all
  have n0:w1.cell? ⟨nb,ni,none⟩=some o:=(aB HB1.out ni).trans HI.out
  have z0:w1.frozen? ⟨nb,ni,none⟩=false:=aH HB1.out ni
  have lt2:nb<w1.heap.size:=aC HB1.out
  go_wp2_with fail
  go_end0
  obtain ⟨W,hW⟩:∃ W,W=(w1.setCell ⟨nb,ni,none⟩ (.string x)).setCell ⟨cb,1,none⟩ (.int .i64 p'):=⟨_,rfl⟩
  rw [← hW]
  refine ⟨rfl,?_,?_,?_⟩
  ·rw [hW]
   exact (HH1.out.keep ((aD.refl (fun k=>k=nb) w1).setC ni _ (fun _=>rfl)) (fun e=>HNE.out e.symm)).set1 p'
  ·rw [hW]
   exact ((aD.refl (fun k=>k=cb) (w1.setCell ⟨nb,ni,none⟩ (.string x))).setC 1 _ (fun _=>rfl) |>.block nb (by simpa [World.setCell] using lt2) HNE.out).trans (aM HB1.out ni _)
  ·rw [hW]
   exact (HK1.out.setC ni _ (fun _=>.inr rfl)).setC 1 _ (fun _=>.inl rfl)
end
section
variable {w:World} {cb nb ni:Nat} {s:ByteArray} {p p':Int} {c:Array Value} {ty:TypeId} {o:Value}
theorem aS9 {f:Bool} (h:eW w cb s p true false) (g:cA s p (kR f) p') (hs:s.size≤1000000000) (hp:p≤s.size) (hb:w.heap[nb]?=some (.cells c ty (0,0))) (hi0:c[ni]?=some (.bool false)) (hne:¬ nb=cb) :
  Calls Tryz.prog 107 #[.pointer (some ⟨cb,0,none⟩),.pointer (some ⟨nb,ni,none⟩)] w (RdP w cb nb s p' (c.setIfInBounds ni (.bool f)) ty):=by
 have hlc:cb<w.heap.size:=aC h
 have hln:nb<w.heap.size:=aC hb
 have HN:Hid (Calls Tryz.prog 104 #[.pointer (some ⟨cb,0,none⟩),.pointer (some ⟨w.heap.size,0,none⟩),.int .i64 0,.int .i64 1] (w.alloc (.cells #[.int .i64 0] 3)) (RdP (w.alloc (.cells #[.int .i64 0] 3)) cb w.heap.size s p' #[.int .i64 (kR f)] 3)):=by
  exact oJ (ni:=0) (h.keep ((aD.refl (fun _=>False) w).alloc _) (fun e=>e)) g hs hp (aI w _ _ rfl) rfl aA (by cases f <;> decide) (by cases f <;> decide)
 have n0:w.cell? ⟨nb,ni,none⟩=some (.bool false):=(aB hb ni).trans hi0
 have HB:=Lib.hid hb
 have HNE:=Lib.hid hne
 have HLN:=Lib.hid hln
 clear h g hb hi0 hs hp hne hlc
 go_enter Tryz.func107,Tryz.ntmps107
 go_wp2_with fail
 refine HN.out.mono ?_
 rintro e w1 ⟨rfl,h1,hb1,k1⟩
 have kw:aD (fun k=>k=cb∨k=nb) w w1:=((aD.refl _ w).alloc _).trans k1 (fun k hk e=>by rcases e with e | e <;> first | exact .inl e | omega)
 have HB1:Hid (w1.heap[nb]?=some (.cells c ty (0,0))):=(k1.block nb cX (fun e=>by rcases e with e | e <;> first | exact HNE.out e | omega)).trans (aL HB.out _)
 have HH1:=Lib.hid h1
 have HK1:=Lib.hid kw
 have m0:w1.cell? ⟨w.heap.size,0,none⟩=some (.int .i64 (kR f)):=aB hb1 0
 have m1:w.heap.size<w1.heap.size:=aC hb1
 have n1:w1.cell? ⟨nb,ni,none⟩=some (.bool false):=(k1.cell' (((aD.refl (fun _=>False) w).alloc _).cell' n0 (fun e=>e)) (fun e=>by rcases e with e | e <;> first | exact HNE.out e | (have h:nb=w.heap.size:=e;omega)))
 have z1:w1.frozen? ⟨nb,ni,none⟩=false:=aH HB1.out ni
 have lt1:nb<w1.heap.size:=aC HB1.out
 have hf:decide (kR f=1)=f:=by cases f <;> rfl
 clear h1 hb1 k1 kw n0 hln HN HB
 cases f
 all_goals
  unfold kR at m0
  go_wp2_with fail
  go_end0
  refine ⟨rfl,?_,?_,?_⟩
  ·exact HH1.out.keep ((aD.refl (fun k=>k=nb) w1).setC ni _ (fun _=>rfl)) (fun e=>HNE.out e.symm)
  ·exact aM HB1.out ni _
  ·exact HK1.out.setC ni _ (fun _=>.inr rfl)
def aB8 (c:Array Value) (l:List (Nat×Int)):Array Value:=l.foldl (fun c q=>c.setIfInBounds q.1 (.int .i64 q.2)) c
theorem aOa (c:Array Value) (l:List (Nat×Int)):(aB8 c l).size=c.size:=by
 induction l generalizing c with
 | nil=>rfl
 | cons q r ih=>show (aB8 (c.setIfInBounds q.1 _) r).size=_;rw [ih,Array.size_setIfInBounds]
theorem aOb (c:Array Value) (l:List (Nat×Int)) {k:Nat} (h:k<l.length):aB8 c (l.take (k+1))=(aB8 c (l.take k)).setIfInBounds l[k].1 (.int .i64 l[k].2):=by
 have et:l.take (k+1)=l.take k++[l[k]]:=gK
 rw [et]
 unfold aB8
 rw [List.foldl_append]
 rfl
structure aIv (w:World) (rb nb:Nat) (l:List (Nat×Int)):Prop where
 row:∃ (d:Array Value) (ty:TypeId),w.heap[rb]?=some (.cells d ty (0,0))∧∀ (i:Nat) (h:i<l.length),d[i]?=some (.pointer (some ⟨nb,l[i].1,none⟩))
theorem aIv.cell {w wr:World} {rb nb:Nat} {l:List (Nat×Int)} {S:Nat→Prop} (h:aIv w rb nb l) (k:aD S w wr) (hS:¬ S rb) {i:Nat} (hi:i<l.length):wr.cell? ⟨rb,i,none⟩=some (.pointer (some ⟨nb,l[i].1,none⟩)):=by
 obtain ⟨d,ty,hr,hc⟩:=h.row
 exact k.cell' ((aB hr i).trans (hc i hi)) hS
theorem aAi {rb cap:Nat} {l:List (Nat×Int)} {pos:Nat→Int} (h:eW w cb s (pos 0) true false) (hr:aIv w rb nb l) (hrc:¬ rb=cb∧¬ rb=nb) (g:∀ k (hk:k<l.length),cA s (pos k) l[k].2 (pos (k+1))) (hs:s.size≤1000000000) (hp:∀ k,k<l.length→pos k≤s.size)
  (hb:w.heap[nb]?=some (.cells c ty (0,0))) (hin:∀ k (hk:k<l.length),l[k].1<c.size∧-1≤l[k].2∧l[k].2≤2199023255552) (hne:¬ nb=cb) (hll:l.length≤1000) :
  Calls Tryz.prog 106 #[.pointer (some ⟨cb,0,none⟩),.slice (some ⟨rb,0,none⟩) l.length cap] w (RdP w cb nb s (pos l.length) (aB8 c l) ty):=by
 have HR:=Lib.hid hr
 have HRC:=Lib.hid hrc
 have HG:=Lib.hid g
 have HS:=Lib.hid hs
 have HP:=Lib.hid hp
 have HIN:=Lib.hid hin
 have HNE:=Lib.hid hne
 have H0:Hid (eW w cb s (pos 0) true false∧w.heap[nb]?=some (.cells (aB8 c (l.take 0)) ty (0,0))∧aD (fun k=>k=cb∨k=nb) w w):=⟨h,hb,aD.refl _ _⟩
 clear h hr hrc g hs hp hb hin hne
 go_enter Tryz.func106,Tryz.ntmps106
 go_wp2
 go_loopw [8] (fun i wr=>∃ k:Nat,i=.int .i64 k∧k≤l.length∧Hid (eW wr cb s (pos k) true false∧wr.heap[nb]?=some (.cells (aB8 c (l.take k)) ty (0,0))∧aD (fun k=>k=cb∨k=nb) w wr)) (fun i _=>l.length - (intOf i).toNat)
 case atStart=>exact ⟨0,rfl,by omega,H0⟩
 case round=>
  obtain ⟨k,rfl,hk,HE⟩:=hrel
  have i0:(0:Int)≤k:=aA
  by_cases hlt:k<l.length
  ·have i1:(k:Int)<l.length:=by omega
   have c1:=HR.out.cell HE.out.2.2 (fun e=>e.elim HRC.out.1 HRC.out.2) hlt
   have HC:Hid (Calls Tryz.prog 104 #[.pointer (some ⟨cb,0,none⟩),.pointer (some ⟨nb,l[k].1,none⟩),.int .i64 (-1),.int .i64 2199023255552] wr (RdP wr cb nb s (pos (k+1)) ((aB8 c (l.take k)).setIfInBounds l[k].1 (.int .i64 l[k].2)) ty)):=by
    obtain ⟨a1,a2,a3⟩:=HIN.out k hlt
    exact oJ HE.out.1 (HG.out k hlt) HS.out (HP.out k hlt) HE.out.2.1 (Array.getElem?_eq_getElem (by rw [aOa];exact a1)) HNE.out a2 a3
   go_wp2_with (go_at_call 104;refine HC.out.mono ?_;rintro e w2 ⟨rfl,h2,hb2,k2⟩;have HE2:Hid (eW w2 cb s (pos (k+1)) true false∧w2.heap[nb]?=some (.cells (aB8 c (l.take (k+1))) ty (0,0))∧aD (fun k=>k=cb∨k=nb) w w2):=⟨h2,by rw [aOb c l hlt];exact hb2,HE.out.2.2.trans k2 (fun _ _ e=>e)⟩;clear h2 hb2 k2 c1)
   go_roundw
   case rel=>exact ⟨k+1,by go_num,by omega,HE2⟩
   case measure=>simp [intOf];omega
  ·obtain rfl:k=l.length:=by omega
   go_wp2_with fail
   go_end0
   obtain ⟨h1,h2,h3⟩:=HE.out
   rw [List.take_length] at h2
   exact ⟨rfl,h1,h2,h3⟩
end
theorem aB3 (b:aR) (w:World) (ho:dH b) (hp:∀ k (h:k<b.recs.length),bT b.recs[k]) (hst:bF w) :
  Calls Tryz.prog 94 #[.string (aZ b),.int .i64 0] w fun e w'=>∃ a cap,e=.returned (.tuple #[.agg #[.int .i64 b.base,.int .i64 b.span,.int .i64 b.prod,.int .i64 b.epoch,.int .i64 b.seq,.slice a b.recs.length cap],.int .i64 (aZ b).size,.int .i64 0])∧dN (fun k=>w.heap.size≤k) w' b a cap∧K0 w w':=by
 have hz:(aZ b).size≤9223372036854775807:=nI
 have h:=aAb ⟨#[]⟩ ⟨#[]⟩ b w ho hp hst (by rw [mX,iP];exact hz)
 rw [mX,iP] at h
 exact h
def aYs (c:Array Value) (o:Nat) (b:aR) (a:Option Addr) (cap:Nat):Array Value:=
 (((((c.setIfInBounds o (.int .i64 b.base)).setIfInBounds (o+1) (.int .i64 b.span)).setIfInBounds (o+2) (.int .i64 b.prod)).setIfInBounds (o+3) (.int .i64 b.epoch)).setIfInBounds (o+4) (.int .i64 b.seq)).setIfInBounds (o+5) (.slice a b.recs.length cap)
section
variable {w:World} {cb nb o:Nat} {s:ByteArray} {p p':Int} {c:Array Value} {ty:TypeId}
theorem aMt (h:eW w cb s p true false) (g:fP s p 60008 ⟨#[]⟩ p') (hs:s.size≤1000000000) (hp:p≤s.size) :
  Calls Tryz.prog 108 #[.pointer (some ⟨cb,0,none⟩),.pointer (some ⟨nb,o,none⟩),.bool true] w fun e w'=>e=.returned (.tuple #[])∧eW w' cb s p' true false∧aD (fun k=>k=cb) w w':=by
 have hlc:cb<w.heap.size:=aC h
 have KA:K0 w (w.alloc (.cells #[.string ⟨#[]⟩] 9)):=(aD.refl _ _).alloc _
 have HT:Hid (Calls Tryz.prog 105 #[.pointer (some ⟨cb,0,none⟩),.pointer (some ⟨w.heap.size,0,none⟩),.int .i64 60008] (w.alloc (.cells #[.string ⟨#[]⟩] 9)) (RdP (w.alloc (.cells #[.string ⟨#[]⟩] 9)) cb w.heap.size s p' #[.string ⟨#[]⟩] 9)):=
  uI (ni:=0) (h.keep KA (fun e=>e)) g hs hp (aI w _ _ rfl) rfl aA
 obtain ⟨c0,c1,c2,c3,f0,f1,f3,lt⟩:=(h.keep KA (fun e=>e)).all
 clear h g hs hp
 go_enter Tryz.func108,Tryz.ntmps108
 go_wp2_with fail
 refine HT.out.mono ?_
 rintro e w1 ⟨rfl,h1,hb1,k1⟩
 have HH1:=Lib.hid h1
 obtain ⟨d0,d1,d2,d3,_,_,_,dl⟩:=h1.all
 have m0:w1.cell? ⟨w.heap.size,0,none⟩=some (.string ⟨#[]⟩):=aB hb1 0
 have ml:=aC hb1
 have HK1:Hid (aD (fun k=>k=cb) w w1):=((aD.refl _ w).alloc _).trans k1 (fun k hk e=>e.elim (fun h=>h) (fun h=>by omega))
 clear h1 hb1 k1 c0 c1 c2 c3 f0 f1 f3 lt
 go_wp2_with fail
 first | go_end0 | (refine bodyPost_ret (results_none rfl _ _ _) rfl ?_)
 exact ⟨rfl,HH1.out,HK1.out⟩
def RdB (w:World) (cb nb o:Nat) (s:ByteArray) (p:Int) (c:Array Value) (ty:TypeId) (b:aR) (e:Ending) (w':World):Prop:=
 ∃ a cap,e=.returned (.tuple #[])∧eW w' cb s p true false∧w'.heap[nb]?=some (.cells (aYs c o b a cap) ty (0,0))∧aD (fun k=>k=cb∨k=nb) w w'∧dN (fun k=>w.heap.size≤k) w' b a cap
theorem aGc {b:aR} {opt:Bool} (h:eW w cb s p true false) (g:fP s p 60008 (aZ b) p') (ho:dH b) (hpl:∀ k (h:k<b.recs.length),bT b.recs[k]) (hst:bF w) (hs:s.size≤1000000000) (hp:p≤s.size) (hb:w.heap[nb]?=some (.cells c ty (0,0))) (hin:o+6≤c.size) (hne:¬ nb=cb) (h0:0≠cb) :
  Calls Tryz.prog 108 #[.pointer (some ⟨cb,0,none⟩),.pointer (some ⟨nb,o,none⟩),.bool opt] w (RdB w cb nb o s p' c ty b):=by
 have hlc:cb<w.heap.size:=aC h
 have hln:nb<w.heap.size:=aC hb
 have KA:K0 w (w.alloc (.cells #[.string ⟨#[]⟩] 9)):=(aD.refl _ _).alloc _
 have HT:Hid (Calls Tryz.prog 105 #[.pointer (some ⟨cb,0,none⟩),.pointer (some ⟨w.heap.size,0,none⟩),.int .i64 60008] (w.alloc (.cells #[.string ⟨#[]⟩] 9)) (RdP (w.alloc (.cells #[.string ⟨#[]⟩] 9)) cb w.heap.size s p' #[.string (aZ b)] 9)):=
  uI (ni:=0) (h.keep KA (fun e=>e)) g hs hp (aI w _ _ rfl) rfl aA
 have HDE:Hid (∀ wx,aD (fun k=>k=cb) w wx→Calls Tryz.prog 94 #[.string (aZ b),.int .i64 0] wx fun e w'=>∃ a cap,e=.returned (.tuple #[.agg #[.int .i64 b.base,.int .i64 b.span,.int .i64 b.prod,.int .i64 b.epoch,.int .i64 b.seq,.slice a b.recs.length cap],.int .i64 (aZ b).size,.int .i64 0])∧dN (fun k=>wx.heap.size≤k) w' b a cap∧K0 wx w'):=fun wx k=>aB3 b wx ho hpl (hst.keep k h0)
 have hne2:¬ aZ b=⟨#[]⟩:=fun e=>by have h1:=congrArg ByteArray.size e;rw [dX] at h1;have:(⟨#[]⟩:ByteArray).size=0:=rfl;omega
 have hne3:(aZ b).toList.isEmpty=false:=by
  have:¬ (aZ b).toList=[]:=fun e=>by rw [uM,dX] at e;omega
  simpa using this
 have hne4:¬ (aZ b).toList=[]:=by simpa using hne3
 obtain ⟨c0,c1,c2,c3,f0,f1,f3,lt⟩:=(h.keep KA (fun e=>e)).all
 have HB:=Lib.hid hb
 have HIN:=Lib.hid hin
 have HNE:=Lib.hid hne
 clear h g hs hp ho hpl hst hb hin hne
 cases opt
 all_goals
  go_enter Tryz.func108,Tryz.ntmps108
  go_wp2_with fail
  refine HT.out.mono ?_
  rintro e w1 ⟨rfl,h1,hb1,k1⟩
  have HH1:=Lib.hid h1
  obtain ⟨d0,d1,d2,d3,_,_,_,dl⟩:=h1.all
  have m0:w1.cell? ⟨w.heap.size,0,none⟩=some (.string (aZ b)):=aB hb1 0
  have ml:=aC hb1
  have HM1:=Lib.hid hb1
  have HK1:Hid (aD (fun k=>k=cb) w w1):=((aD.refl _ w).alloc _).trans k1 (fun k hk e=>e.elim (fun h=>h) (fun h=>by omega))
  clear h1 hb1 k1 c0 c1 c2 c3 f0 f1 f3 lt
  go_wp2_with fail
  refine (HDE.out _ HK1.out).mono ?_
  rintro e w2 ⟨a,cap,rfl,hbp,k2⟩
  have HBP:Hid (dN (fun k=>w.heap.size≤k) w2 b a cap):=hbp.keep (S:=fun _=>False) (aD.refl _ _) (fun _ _ e=>e) (fun j e=>Nat.le_trans HK1.out.size e)
  have HK2:Hid (aD (fun k=>k=cb) w w2):=HK1.out.trans k2 (fun _ _ e=>e.elim)
  have HH2:Hid (eW w2 cb s p' true false):=HH1.out.keep k2 (fun e=>e)
  have m0':w2.cell? ⟨w.heap.size,0,none⟩=some (.string (aZ b)):=aB ((k2.block _ ml (fun e=>e)).trans HM1.out) 0
  have ml':w.heap.size<w2.heap.size:=Nat.lt_of_lt_of_le ml k2.size
  have HXB:Hid (∀ wx,K0 w2 wx→eW wx cb s p' true false∧wx.heap[nb]?=some (.cells c ty (0,0))):=fun wx k=>⟨HH2.out.keep k (fun e=>e),(k.block _ (Nat.lt_of_lt_of_le hln HK2.out.size) (fun e=>e)).trans ((HK2.out.block _ hln HNE.out).trans HB.out)⟩
  clear hbp k2 d0 d1 d2 d3 dl m0 ml
  go_wp2_with fail
  obtain ⟨W,hW⟩:∃ W,W=w2.alloc (.cells #[.int .i64 b.base,.int .i64 b.span,.int .i64 b.prod,.int .i64 b.epoch,.int .i64 b.seq,.slice a b.recs.length cap] 39):=⟨_,rfl⟩
  rw [← hW]
  have kW:K0 w2 W:=aV
  have yW:W.heap[w2.heap.size]?=some (.cells #[.int .i64 b.base,.int .i64 b.span,.int .i64 b.prod,.int .i64 b.epoch,.int .i64 b.seq,.slice a b.recs.length cap] 39 (0,0)):=by rw [hW];exact aI w2 _ _ rfl
  refine (jA (HXB.out W kW).1 _).mono ?_
  rintro e w4 ⟨rfl,h4,k4⟩
  have hs2:nb<w2.heap.size:=Nat.lt_of_lt_of_le hln HK2.out.size
  have hc2:cb<w2.heap.size:=aC HH2.out
  have h4c:eW w4 cb s p' true false:=by simpa using h4
  have yb:w4.heap[w2.heap.size]?=some (.cells #[.int .i64 b.base,.int .i64 b.span,.int .i64 b.prod,.int .i64 b.epoch,.int .i64 b.seq,.slice a b.recs.length cap] 39 (0,0)):=(k4.block _ (aC yW) (fun e=>by have:w2.heap.size=cb:=e;omega)).trans yW
  have hb4:w4.heap[nb]?=some (.cells c ty (0,0)):=(k4.block _ (Nat.lt_of_lt_of_le hs2 kW.size) HNE.out).trans (HXB.out W kW).2
  have HB4:=Lib.hid hb4
  have HH4:=Lib.hid h4c
  have HK4:Hid (aD (fun k=>k=cb∨k=nb) w w4):=((HK2.out.mono (S1:=fun k=>k=cb∨k=nb) (fun _ _ e=>.inl e)).trans kW (fun _ _ e=>e.elim)).trans k4 (fun _ _ e=>.inl e)
  have HBP4:Hid (dN (fun k=>w.heap.size≤k) w4 b a cap):=(HBP.out.keep0 kW).keep k4 (fun j hj e=>by have:j=cb:=e;omega) (fun _ e=>e)
  have y0:w4.cell? ⟨w2.heap.size,0,none⟩=some (.int .i64 b.base):=aB yb 0
  have y1:w4.cell? ⟨w2.heap.size,1,none⟩=some (.int .i64 b.span):=aB yb 1
  have y2:w4.cell? ⟨w2.heap.size,2,none⟩=some (.int .i64 b.prod):=aB yb 2
  have y3:w4.cell? ⟨w2.heap.size,3,none⟩=some (.int .i64 b.epoch):=aB yb 3
  have y4:w4.cell? ⟨w2.heap.size,4,none⟩=some (.int .i64 b.seq):=aB yb 4
  have y5:w4.cell? ⟨w2.heap.size,5,none⟩=some (.slice a b.recs.length cap):=aB yb 5
  have yl:=aC yb
  have nl:=aC hb4
  have n0:w4.cell? ⟨nb,o,none⟩=some (c[o]'gO):=(aB hb4 (o)).trans (Array.getElem?_eq_getElem _)
  have z0:w4.frozen? ⟨nb,o,none⟩=false:=aH hb4 (o)
  have n1:w4.cell? ⟨nb,o+1,none⟩=some (c[o+1]'gO):=(aB hb4 (o+1)).trans (Array.getElem?_eq_getElem _)
  have z1:w4.frozen? ⟨nb,o+1,none⟩=false:=aH hb4 (o+1)
  have n2:w4.cell? ⟨nb,o+2,none⟩=some (c[o+2]'gO):=(aB hb4 (o+2)).trans (Array.getElem?_eq_getElem _)
  have z2:w4.frozen? ⟨nb,o+2,none⟩=false:=aH hb4 (o+2)
  have n3:w4.cell? ⟨nb,o+3,none⟩=some (c[o+3]'gO):=(aB hb4 (o+3)).trans (Array.getElem?_eq_getElem _)
  have z3:w4.frozen? ⟨nb,o+3,none⟩=false:=aH hb4 (o+3)
  have n4:w4.cell? ⟨nb,o+4,none⟩=some (c[o+4]'gO):=(aB hb4 (o+4)).trans (Array.getElem?_eq_getElem _)
  have z4:w4.frozen? ⟨nb,o+4,none⟩=false:=aH hb4 (o+4)
  have n5:w4.cell? ⟨nb,o+5,none⟩=some (c[o+5]'gO):=(aB hb4 (o+5)).trans (Array.getElem?_eq_getElem _)
  have z5:w4.frozen? ⟨nb,o+5,none⟩=false:=aH hb4 (o+5)
  clear hW kW yW h4 k4 h4c yb hb4 m0' ml' hs2 hc2
  go_wp2_with fail
  first | go_end0 | (refine bodyPost_ret (results_none rfl _ _ _) rfl ?_)
  refine ⟨a,cap,rfl,?_,?_,?_,?_⟩
  ·exact HH4.out.keep (S:=fun k=>k=nb) dF (fun e=>HNE.out e.symm)
  ·exact aM (aM (aM (aM (aM (aM HB4.out _ _) _ _) _ _) _ _) _ _) _ _
  ·(repeat (with_reducible refine aD.setC ?_ _ _ (fun _=>.inr rfl)))
   exact HK4.out
  ·exact HBP4.out.keep (S:=fun k=>k=nb) dF (fun j hj e=>by have h1:w.heap.size≤j:=hj;have:j=nb:=e;omega) (fun _ e=>e)
end
end Go.Proofs.YteapahcklcldkaaGreatDoor
