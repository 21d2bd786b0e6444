/-
  The statement is proved: all that it reaches, in parts.
-/
import Derived.Test.YteapahcklcldkaaGreatDoorW10
import Derived.Test.YteapahcklcldkaaGreatDoorW11
import Derived.Laws.EntriesVeiled
set_option maxRecDepth 100000
set_option maxHeartbeats 16000000
namespace Go.Proofs.YteapahcklcldkaaGreatDoor
open Go.RowKit Fx
structure qB (w0:World) (cb:Nat) (s:ByteArray) (at_:Int) (bad:Bool) (pb:Nat) (pi:Nat) (v:Value) (w:World):Prop where
 cod:eW w cb s at_ false bad
 cell:w.cell? ⟨pb,pi,none⟩=some v
 lt:pb<w.heap.size
 keep:aD (fun k=>k=cb) w0 w
theorem qB.k0 {w0 w w':World} {cb:Nat} {s:ByteArray} {at_:Int} {bad:Bool} {pb pi:Nat} {v:Value} (h:qB w0 cb s at_ bad pb pi v w) (hk:K0 w w'):qB w0 cb s at_ bad pb pi v w':=
 ⟨h.cod.keep hk (fun h=>h),(hk.cell (p:=⟨pb,pi,none⟩) h.lt (fun h=>h)).trans h.cell,Nat.lt_of_lt_of_le h.lt hk.size,h.keep.trans hk (fun _ _ h=>h.elim)⟩
theorem qB.set {w0 w:World} {cb:Nat} {s:ByteArray} {at_:Int} {bad:Bool} {pb pi:Nat} {v:Value} (h:qB w0 cb s at_ bad pb pi v w) (hn:¬ pb=cb) (t:ByteArray):qB w0 cb t at_ bad pb pi v (w.setCell ⟨cb,0,none⟩ (.string t)):=
 ⟨h.cod.set0 t,((aD.refl (fun k=>k=cb) w).setC 0 _ (fun _=>rfl) |>.cell (p:=⟨pb,pi,none⟩) h.lt hn).trans h.cell,Nat.lt_of_lt_of_le h.lt ((aD.refl (fun k=>k=cb) w).setC 0 (.string t) (fun _=>rfl)).size,h.keep.setC 0 _ (fun _=>rfl)⟩
theorem qB.cells {w0 w:World} {cb:Nat} {s:ByteArray} {at_:Int} {bad:Bool} {pb pi:Nat} {v:Value} (h:qB w0 cb s at_ bad pb pi v w):w.cell? ⟨cb,0,none⟩=some (.string s)∧w.frozen? ⟨cb,0,none⟩=false∧w.cell? ⟨pb,pi,none⟩=some v∧pb<w.heap.size:=
 ⟨h.cod.all.c0,h.cod.all.f0,h.cell,h.lt⟩
theorem oK {w:World} {cb:Nat} {s:ByteArray} {at_:Int} {bad:Bool} {nb ni:Nat} {n lo hi:Int} (h:eW w cb s at_ false bad) (hn:w.cell? ⟨nb,ni,none⟩=some (.int .i64 n)) (hl:nb<w.heap.size) (hne:¬ nb=cb) (hb:-9223372036854775808≤n∧n≤9223372036854775807) (hsz:s.size≤1000000000000) :
  Calls Tryz.prog 104 #[.pointer (some ⟨cb,0,none⟩),.pointer (some ⟨nb,ni,none⟩),.int .i64 lo,.int .i64 hi] w (aFv w cb (s++putB n) at_ false (bad||!(decide (lo≤n)&&decide (n≤hi)))):=by
 have HC:=Lib.hid (⟨h,hn,hl,aD.refl _ _⟩:qB w cb s at_ bad nb ni (.int .i64 n) w)
 obtain ⟨c0,c1,c2,c3,f0,f1,f3,lt⟩:=h.all
 clear h
 have HNE:=Lib.hid hne
 have HB:=Lib.hid hb
 have s1:¬ 9223372036854775807<s.size+(putB n).size:=by have:=bU hb;omega
 clear hne hb
 go_enter Tryz.func104,Tryz.ntmps104
 go_upto_region 6 with fail
 go_cut [] (fun wx:World=>qB w cb (s++putB n) at_ bad nb ni (.int .i64 n) wx)
 case first=>
  have hE:=HC.out.k0 ((aD.refl (fun _=>False) _).drew)
  obtain ⟨y0,y1,y2,y3⟩:=hE.cells
  refine aX 11 (fun w'=>w'.cell? ⟨cb,0,none⟩=some (.string s)∧w'.cell? ⟨nb,ni,none⟩=some (.int .i64 n)) (fun _=>True) aF ⟨y0,y2⟩ trivial (fun hS=>?_)
  refine tB 0 hS (fun hS=>?_)
  simp only [Act.put,Sw]
  refine tB 1 hS (fun hS=>?_)
  simp only [Act.put]
  refine tB 2 hS (fun hS=>?_)
  simp only [Act.put]
  refine tA 3 hS (fun hS=>?_)
  simp only [Act.put]
  refine tB 4 hS (fun hS=>?_)
  simp only [Act.put]
  refine tB 5 hS (fun hS=>?_)
  simp only [Act.put]
  refine tA 6 hS (fun hS=>?_)
  simp only [Act.put]
  refine tO 7 (fun K hK=>?_)
  go_simp
  refine (rB _ _ HB.out).mono ?_
  rintro e w' ⟨rfl,hk⟩
  have h5:=qB.k0 hE hk
  obtain ⟨x0,x1,x2,x3⟩:=h5.cells
  go_simp
  refine hK.out _ _ ⟨fun _=>⟨by (first | assumption | go_simp),by (first | assumption | go_simp)⟩,trivial⟩ (fun hS=>?_)
  clear hK K
  try simp only [Act.put,Sw]
  refine tB 8 hS (fun hS=>?_)
  simp only [Act.put,Sw]
  refine tB 9 hS (fun hS=>?_)
  simp only [Act.put]
  refine tB 10 hS (fun hS=>?_)
  simp only [Act.put]
  refine tO 11 (fun K hK=>?_)
  go_simp
  refine hK.out _ _ ⟨fun e=>absurd e aE,trivial⟩ (fun hS=>?_)
  clear hK K
  try simp only [Act.put,Sw]
  refine bC aF ?_ _
  go_wp2
  go_meet
  case rel=>exact qB.set h5 HNE.out _
 case rest=>
  have HR:=Lib.hid hcut
  obtain ⟨z0,z1,z2,z3⟩:=hcut.cells
  clear hcut c0 c1 c2 c3 f0 f1 f3 hn
  by_cases hlo:lo≤n <;> by_cases hhi:n≤hi
  all_goals
   go_wp2_with (go_at_call 171;refine (jA HR.out.cod _).mono ?_;rintro e w' ⟨rfl,t2,k2⟩)
   go_end0
   refine ⟨rfl,?_,HR.out.keep.trans k2 (fun _ _ h=>h)⟩
   first
    | (
      have e1:decide (lo≤n)=true:=decide_eq_true aA
      first
       | (have e2:decide (n≤hi)=true:=decide_eq_true aA;simpa [e1,e2] using t2)
       | (have e2:decide (n≤hi)=false:=decide_eq_false (by omega);simpa [e1,e2] using t2))
    | (have e1:decide (lo≤n)=false:=decide_eq_false aA;simpa [e1] using t2)
theorem yX {w:World} {cb:Nat} {s:ByteArray} {at_:Int} {bad:Bool} {nb ni:Nat} {t:ByteArray} {most:Int} (h:eW w cb s at_ false bad) (hn:w.cell? ⟨nb,ni,none⟩=some (.string t)) (hl:nb<w.heap.size) (hne:¬ nb=cb) (ht:t.size≤1000000000000) (hsz:s.size≤1000000000000) :
  Calls Tryz.prog 105 #[.pointer (some ⟨cb,0,none⟩),.pointer (some ⟨nb,ni,none⟩),.int .i64 most] w (aFv w cb (s++cJ t) at_ false (bad||!decide ((t.size:Int)≤most))):=by
 have HC:=Lib.hid (⟨h,hn,hl,aD.refl _ _⟩:qB w cb s at_ bad nb ni (.string t) w)
 obtain ⟨c0,c1,c2,c3,f0,f1,f3,lt⟩:=h.all
 have HH:=Lib.hid h
 clear h
 have HNE:=Lib.hid hne
 have HT:=Lib.hid ht
 have s1:¬ 9223372036854775807<s.size+(cJ t).size:=by have:=dG (s:=t) aA;omega
 clear hne ht hsz
 go_enter Tryz.func105,Tryz.ntmps105
 go_upto_region 2 with (go_at_call 171;refine (jA HH.out _).mono ?_;rintro e w1 ⟨rfl,t1,k1⟩;have HE0:=Lib.hid (⟨t1,(k1.cell (p:=⟨nb,ni,none⟩) hl HNE.out).trans hn,Nat.lt_of_lt_of_le hl k1.size,k1⟩:qB w cb s at_ _ nb ni (.string t) w1))
 go_cut [] (fun wx:World=>qB w cb (s++cJ t) at_ (bad||!decide ((t.size:Int)≤most)) nb ni (.string t) wx)
 case first=>
  have hE:=HE0.out.k0 ((aD.refl (fun _=>False) _).drew)
  obtain ⟨y0,y1,y2,y3⟩:=hE.cells
  refine aX 11 (fun w'=>w'.cell? ⟨cb,0,none⟩=some (.string s)∧w'.cell? ⟨nb,ni,none⟩=some (.string t)) (fun _=>True) aF ⟨y0,y2⟩ trivial (fun hS=>?_)
  refine tB 0 hS (fun hS=>?_)
  simp only [Act.put,Sw]
  refine tB 1 hS (fun hS=>?_)
  simp only [Act.put]
  refine tB 2 hS (fun hS=>?_)
  simp only [Act.put]
  refine tA 3 hS (fun hS=>?_)
  simp only [Act.put]
  refine tB 4 hS (fun hS=>?_)
  simp only [Act.put]
  refine tB 5 hS (fun hS=>?_)
  simp only [Act.put]
  refine tA 6 hS (fun hS=>?_)
  simp only [Act.put]
  refine tO 7 (fun K hK=>?_)
  go_simp
  refine (aFn _ _ HT.out).mono ?_
  rintro e w' ⟨rfl,hk⟩
  have h5:=qB.k0 hE hk
  obtain ⟨x0,x1,x2,x3⟩:=h5.cells
  go_simp
  refine hK.out _ _ ⟨fun _=>⟨by (first | assumption | go_simp),by (first | assumption | go_simp)⟩,trivial⟩ (fun hS=>?_)
  clear hK K
  try simp only [Act.put,Sw]
  refine tB 8 hS (fun hS=>?_)
  simp only [Act.put,Sw]
  refine tB 9 hS (fun hS=>?_)
  simp only [Act.put]
  refine tB 10 hS (fun hS=>?_)
  simp only [Act.put]
  refine tO 11 (fun K hK=>?_)
  go_simp
  refine hK.out _ _ ⟨fun e=>absurd e aE,trivial⟩ (fun hS=>?_)
  clear hK K
  try simp only [Act.put,Sw]
  refine bC aF ?_ _
  go_wp2
  go_meet
  case rel=>exact qB.set h5 HNE.out _
 case rest=>
  have HR:=Lib.hid hcut
  clear hcut
  go_wp2
  go_end0
  exact ⟨rfl,HR.out.cod,HR.out.keep⟩
theorem aId {c:Array Value} {i:Nat} {v:Value} (h:c[i]?=some v):c.setIfInBounds i v=c:=by
 apply Array.ext_getElem?
 intro k
 rw [Array.getElem?_setIfInBounds]
 split
 ·rename_i e;subst e;split
  ·exact h.symm
  ·rename_i hk;exact absurd ((Array.getElem?_eq_some_iff.1 h).1) hk
 ·rfl
theorem dU {S:Nat→Prop} {w w1:World} {b i:Nat} {c:Array Value} {e:TypeId} {f:Nat×Nat} {v:Value} (h:aD S w w1) (hb:w1.heap[b]?=some (.cells c e f)) (hi:c[i]?=some v):aD S w (w1.setCell ⟨b,i,none⟩ v):=by
 refine ⟨h.os,h.tape,h.output,by have:=h.size;simp [World.setCell];omega,fun k hk hS=>?_⟩
 by_cases e1:k=b
 ·subst e1
  rw [aM hb i v,aId hi,← hb]
  exact h.block k hk hS
 ·exact (Below.heap_setCell w1 ⟨b,i,none⟩ v k e1).trans (h.block k hk hS)
def kR (f:Bool):Int:=if f then 1 else 0
structure aFu (w0 w:World) (b cb nb:Nat) (s:ByteArray) (at_:Int) (bad:Bool) (x:Int) (c:Array Value) (ty:TypeId):Prop where
 cod:eW w cb s at_ false bad
 num:w.heap[b]?=some (.cells #[.int .i64 x] 3 (0,0))
 flg:w.heap[nb]?=some (.cells c ty (0,0))
 lt:b<w.heap.size
 keep:aD (fun k=>k=cb) w0 w
theorem aFu.call {w0 w:World} {b cb nb:Nat} {s:ByteArray} {at_:Int} {bad:Bool} {x:Int} {c:Array Value} {ty:TypeId} (h:aFu w0 w b cb nb s at_ bad x c ty) (hne:¬ b=cb) (hnf:¬ nb=cb) (hx:0≤x∧x≤1) (hsz:s.size≤1000000000000) :
  Calls Tryz.prog 104 #[.pointer (some ⟨cb,0,none⟩),.pointer (some ⟨b,0,none⟩),.int .i64 0,.int .i64 1] w (fun e w'=>e=.returned (.tuple #[])∧aFu w0 w' b cb nb (s++putB x) at_ bad x c ty):=by
 refine (oK h.cod (aB h.num 0) h.lt hne aA hsz).mono ?_
 rintro e w' ⟨rfl,t,k⟩
 refine ⟨rfl,?_,(k.block b h.lt hne).trans h.num,(k.block nb (aC h.flg) hnf).trans h.flg,Nat.lt_of_lt_of_le h.lt k.size,h.keep.trans k (fun _ _ h=>h)⟩
 have e1:decide (0≤x)=true:=decide_eq_true hx.1
 have e2:decide (x≤1)=true:=decide_eq_true hx.2
 simpa [e1,e2] using t
theorem aFu.cells {w0 w:World} {b cb nb ni:Nat} {s:ByteArray} {at_:Int} {bad:Bool} {x:Int} {c:Array Value} {ty:TypeId} {v:Value} (h:aFu w0 w b cb nb s at_ bad x c ty) (hi:c[ni]?=some v) :
  w.cell? ⟨b,0,none⟩=some (.int .i64 x)∧w.cell? ⟨nb,ni,none⟩=some v∧w.frozen? ⟨nb,ni,none⟩=false∧b<w.heap.size∧nb<w.heap.size:=
 ⟨aB h.num 0,(aB h.flg ni).trans hi,aH h.flg ni,h.lt,aC h.flg⟩
theorem aFu.fin {w0 w:World} {b cb nb ni:Nat} {s:ByteArray} {at_:Int} {bad:Bool} {x:Int} {c:Array Value} {ty:TypeId} {v:Value} (h:aFu w0 w b cb nb s at_ bad x c ty) (hi:c[ni]?=some v) (_hne:¬ nb=cb) :
  eW (w.setCell ⟨nb,ni,none⟩ v) cb s at_ false bad∧aD (fun k=>k=cb) w0 (w.setCell ⟨nb,ni,none⟩ v):=
 ⟨h.cod.keep (dU (aD.refl (fun _=>False) w) h.flg hi) (fun h=>h),dU h.keep h.flg hi⟩
theorem aTa {w:World} {cb:Nat} {s:ByteArray} {at_:Int} {bad:Bool} {nb ni:Nat} {f:Bool} {c:Array Value} {ty:TypeId} (h:eW w cb s at_ false bad) (hn:w.heap[nb]?=some (.cells c ty (0,0))) (hi:c[ni]?=some (.bool f)) (hne:¬ nb=cb) (hsz:s.size≤1000000000000) :
  Calls Tryz.prog 107 #[.pointer (some ⟨cb,0,none⟩),.pointer (some ⟨nb,ni,none⟩)] w (aFv w cb (s++putB (kR f)) at_ false bad):=by
 have hl:nb<w.heap.size:=aC hn
 have hlc:cb<w.heap.size:=aC h
 have c0:w.cell? ⟨nb,ni,none⟩=some (.bool f):=(aB hn ni).trans hi
 have z0:w.frozen? ⟨nb,ni,none⟩=false:=aH hn ni
 have HB:=Lib.hid hn
 have HI:=Lib.hid hi
 have HH:=Lib.hid h
 have HNE:=Lib.hid hne
 have HSZ:=Lib.hid hsz
 clear h hn hi hne hsz
 have HA:∀ x:Int,Hid (aFu w (w.alloc (.cells #[.int .i64 x] 3)) w.heap.size cb nb s at_ bad x c ty):=fun x=>
  ⟨HH.out.keep ((aD.refl (fun _=>False) w).alloc _) (fun h=>h),aI w _ _ rfl,aL HB.out _,by simp,(aD.refl (fun k=>k=cb) w).alloc _⟩
 cases f
 ·have HA0:=HA 0
  clear HA
  go_enter Tryz.func107,Tryz.ntmps107
  go_wp2_with (go_at_call 104;refine (HA0.out.call aA HNE.out aA HSZ.out).mono ?_;rintro e w2 ⟨rfl,HD⟩;obtain ⟨y0,y1,y2,y3,y4⟩:=HD.cells HI.out;have HDH:=Lib.hid HD;clear HD c0 z0)
  go_end0
  exact ⟨rfl,HDH.out.fin HI.out HNE.out⟩
 ·have HA0:=HA 1
  clear HA
  go_enter Tryz.func107,Tryz.ntmps107
  go_wp2_with (go_at_call 104;refine (HA0.out.call aA HNE.out aA HSZ.out).mono ?_;rintro e w2 ⟨rfl,HD⟩;obtain ⟨y0,y1,y2,y3,y4⟩:=HD.cells HI.out;have HDH:=Lib.hid HD;clear HD c0 z0)
  go_end0
  exact ⟨rfl,HDH.out.fin HI.out HNE.out⟩
def pW:List (Nat×Nat×Int)→ByteArray
 | []=>⟨#[]⟩
 | p::r=>putB p.2.2++pW r
def pO:List (Nat×Nat×Int)→Bool
 | []=>true
 | p::r=>(decide (-1≤p.2.2)&&decide (p.2.2≤2199023255552))&&pO r
theorem aUb (a b:List (Nat×Nat×Int)):pW (a++b)=pW a++pW b:=by
 induction a with
 | nil=>show pW b=⟨#[]⟩++pW b;exact (iP _).symm
 | cons p r ih=>show putB p.2.2++pW (r++b)=putB p.2.2++pW r++pW b;rw [ih,ByteArray.append_assoc]
theorem aRh (a b:List (Nat×Nat×Int)):pO (a++b)=(pO a&&pO b):=by
 induction a with
 | nil=>rfl
 | cons p r ih=>show ((decide (-1≤p.2.2)&&decide (p.2.2≤2199023255552))&&pO (r++b))=((decide (-1≤p.2.2)&&decide (p.2.2≤2199023255552))&&pO r&&pO b);rw [ih,Bool.and_assoc (decide (-1≤p.2.2)&&decide (p.2.2≤2199023255552))]
def PlN (l:List (Nat×Nat×Int)):Prop:=∀ p∈l,-9223372036854775808≤p.2.2∧p.2.2≤9223372036854775807
theorem vA {l:List (Nat×Nat×Int)} (h:PlN l):(pW l).size≤10*l.length:=by
 induction l with
 | nil=>exact Nat.le_refl _
 | cons p r ih=>
  have h1:=bU (h p List.mem_cons_self)
  have h2:=ih (fun q hq=>h q (List.mem_cons_of_mem _ hq))
  show (putB p.2.2++pW r).size≤_
  rw [ByteArray.size_append,List.length_cons];omega
structure aFy (w:World) (cb rb:Nat) (l:List (Nat×Nat×Int)):Prop where
 row:∃ (c:Array Value) (ty:TypeId),w.heap[rb]?=some (.cells c ty (0,0))∧∀ (i:Nat) (h:i<l.length),c[i]?=some (.pointer (some ⟨l[i].1,l[i].2.1,none⟩))
 num:∀ p∈l,w.cell? ⟨p.1,p.2.1,none⟩=some (.int .i64 p.2.2)∧p.1<w.heap.size∧¬ p.1=cb
 ne:¬ rb=cb
 rng:PlN l
theorem aFy.keep {w w':World} {cb rb:Nat} {l:List (Nat×Nat×Int)} (h:aFy w cb rb l) (hk:aD (fun k=>k=cb) w w'):aFy w' cb rb l:=by
 obtain ⟨c,ty,hr,hc⟩:=h.row
 exact ⟨⟨c,ty,(hk.block rb (aC hr) h.ne).trans hr,hc⟩,fun p hp=>by
  obtain ⟨a1,a2,a3⟩:=h.num p hp
  exact ⟨(hk.cell (p:=⟨p.1,p.2.1,none⟩) a2 a3).trans a1,Nat.lt_of_lt_of_le a2 hk.size,a3⟩,h.ne,h.rng⟩
structure PlR (w0:World) (cb rb:Nat) (s:ByteArray) (at_:Int) (bad:Bool) (l:List (Nat×Nat×Int)) (k:Nat) (w:World):Prop where
 cod:eW w cb (s++pW (l.take k)) at_ false (bad||!pO (l.take k))
 row:aFy w cb rb l
 keep:aD (fun k=>k=cb) w0 w
theorem PlR.call {w0 w:World} {cb rb:Nat} {s:ByteArray} {at_:Int} {bad:Bool} {l:List (Nat×Nat×Int)} {k:Nat} (h:PlR w0 cb rb s at_ bad l k w) (hk:k<l.length) (hsz:s.size+10*l.length≤1000000000000) :
  Calls Tryz.prog 104 #[.pointer (some ⟨cb,0,none⟩),.pointer (some ⟨l[k].1,l[k].2.1,none⟩),.int .i64 (-1),.int .i64 2199023255552] w (fun e w'=>e=.returned (.tuple #[])∧PlR w0 cb rb s at_ bad l (k+1) w'):=by
 obtain ⟨a1,a2,a3⟩:=h.row.num l[k] (List.getElem_mem hk)
 have hb:(pW (l.take k)).size≤10*l.length:=by
  have h1:=vA (l:=l.take k) (fun p hp=>h.row.rng p (List.mem_of_mem_take hp))
  rw [List.length_take] at h1;omega
 refine (oK h.cod a1 a2 a3 (h.row.rng _ (List.getElem_mem hk)) eM).mono ?_
 rintro e w' ⟨rfl,t,kk⟩
 have et:l.take (k+1)=l.take k++[l[k]]:=yO
 refine ⟨rfl,⟨?_,h.row.keep kk,h.keep.trans kk (fun _ _ h=>h)⟩⟩
 rw [et,aUb,aRh,← ByteArray.append_assoc]
 have e1:pW [l[k]]=putB l[k].2.2:=mX _
 have e2:pO [l[k]]=(decide (-1≤l[k].2.2)&&decide (l[k].2.2≤2199023255552)):=Bool.and_true _
 rw [e1,e2,Bool.not_and,← Bool.or_assoc]
 exact t
theorem PlR.cells {w0 w:World} {cb rb:Nat} {s:ByteArray} {at_:Int} {bad:Bool} {l:List (Nat×Nat×Int)} {k:Nat} (h:PlR w0 cb rb s at_ bad l k w) (hk:k<l.length) :
  w.cell? ⟨rb,k,none⟩=some (.pointer (some ⟨l[k].1,l[k].2.1,none⟩)):=by
 obtain ⟨c,ty,hr,hc⟩:=h.row.row
 exact (aB hr k).trans (hc k hk)
theorem aAj {w:World} {cb rb cap:Nat} {s:ByteArray} {at_:Int} {bad:Bool} {l:List (Nat×Nat×Int)} (h:eW w cb s at_ false bad) (hr:aFy w cb rb l) (hsz:s.size+10*l.length≤1000000000000) :
  Calls Tryz.prog 106 #[.pointer (some ⟨cb,0,none⟩),.slice (some ⟨rb,0,none⟩) l.length cap] w (aFv w cb (s++pW l) at_ false (bad||!pO l)):=by
 have H0:Hid (PlR w cb rb s at_ bad l 0 w):=⟨by
  have e1:s++pW (l.take 0)=s:=mX s
  have e2:(bad||!pO (l.take 0))=bad:=Bool.or_false _
  rw [e1,e2];exact h,hr,aD.refl _ _⟩
 have HSZ:=Lib.hid hsz
 have hll:l.length≤100000000000:=aA
 clear h hr hsz
 go_enter Tryz.func106,Tryz.ntmps106
 go_wp2
 go_loopw [8] (fun i wr=>∃ k:Nat,i=.int .i64 k∧k≤l.length∧PlR w cb rb s at_ bad l k wr) (fun i _=>l.length - (intOf i).toNat)
 case atStart=>exact ⟨0,rfl,by omega,H0.out⟩
 case round=>
  obtain ⟨k,rfl,hk,hE⟩:=hrel
  by_cases hlt:k<l.length
  ·have i0:(0:Int)≤k:=by omega
   have i1:(k:Int)<l.length:=aA
   have HE:=Lib.hid hE
   have c1:=hE.cells hlt
   clear hE
   go_wp2_with (go_at_call 104;refine (HE.out.call hlt HSZ.out).mono ?_;rintro e w2 ⟨rfl,hE2⟩;have HE2:=Lib.hid hE2;clear hE2 c1)
   go_roundw
   case rel=>exact ⟨k+1,by go_num,by omega,HE2.out⟩
   case measure=>simp [intOf];omega
  ·obtain rfl:k=l.length:=by omega
   have HE:=Lib.hid hE
   clear hE
   go_wp2_with fail
   go_end0
   have hE:=HE.out
   have hc:=hE.cod
   rw [List.take_length] at hc
   exact ⟨rfl,hc,hE.keep⟩
def kP (b:aR):Bool:=decide (b.base=0)&&decide (b.span=0)&&decide (b.prod=0)&&decide (b.epoch=0)&&decide (b.seq=0)&&b.recs.isEmpty
theorem aCy (b:aR) (a:Option Addr) (cap:Nat) (w:World) :
  Calls Tryz.prog 175 #[.agg #[.int .i64 b.base,.int .i64 b.span,.int .i64 b.prod,.int .i64 b.epoch,.int .i64 b.seq,.slice a b.recs.length cap]] w fun e w'=>e=.returned (.bool (kP b))∧K0 w w':=by
 have HE:Hid (kP b=(decide (b.base=0)&&decide (b.span=0)&&decide (b.prod=0)&&decide (b.epoch=0)&&decide (b.seq=0)&&decide (b.recs.length=0))):=by
  show kP b=_
  unfold kP
  cases b.recs <;> rfl
 rw [HE.out]
 by_cases h0:b.base=0
 ·skip
  by_cases h1:b.span=0
  ·skip
   by_cases h2:b.prod=0
   ·skip
    by_cases h3:b.epoch=0
    ·skip
     by_cases h4:b.seq=0
     ·skip
      by_cases h5:b.recs.length=0
      ·skip
       go_enter Tryz.func175,Tryz.ntmps175
       go_wp2
       go_ret
       exact ⟨by simp [h0,h1,h2,h3,h4,h5],(aD.refl (fun _=>False) w).alloc _⟩
      ·skip
       go_enter Tryz.func175,Tryz.ntmps175
       go_wp2
       go_ret
       exact ⟨by simp [h0,h1,h2,h3,h4,h5],(aD.refl (fun _=>False) w).alloc _⟩
     ·skip
      go_enter Tryz.func175,Tryz.ntmps175
      go_wp2
      go_ret
      exact ⟨by simp [h0,h1,h2,h3,h4],(aD.refl (fun _=>False) w).alloc _⟩
    ·skip
     go_enter Tryz.func175,Tryz.ntmps175
     go_wp2
     go_ret
     exact ⟨by simp [h0,h1,h2,h3],(aD.refl (fun _=>False) w).alloc _⟩
   ·skip
    go_enter Tryz.func175,Tryz.ntmps175
    go_wp2
    go_ret
    exact ⟨by simp [h0,h1,h2],(aD.refl (fun _=>False) w).alloc _⟩
  ·skip
   go_enter Tryz.func175,Tryz.ntmps175
   go_wp2
   go_ret
   exact ⟨by simp [h0,h1],(aD.refl (fun _=>False) w).alloc _⟩
 ·skip
  go_enter Tryz.func175,Tryz.ntmps175
  go_wp2
  go_ret
  exact ⟨by simp [h0],(aD.refl (fun _=>False) w).alloc _⟩
structure tV (w:World) (nb o:Nat) (b:aR) (a:Option Addr) (cap:Nat):Prop where
 c0:w.cell? ⟨nb,o,none⟩=some (.int .i64 b.base)
 c1:w.cell? ⟨nb,o+1,none⟩=some (.int .i64 b.span)
 c2:w.cell? ⟨nb,o+2,none⟩=some (.int .i64 b.prod)
 c3:w.cell? ⟨nb,o+3,none⟩=some (.int .i64 b.epoch)
 c4:w.cell? ⟨nb,o+4,none⟩=some (.int .i64 b.seq)
 c5:w.cell? ⟨nb,o+5,none⟩=some (.slice a b.recs.length cap)
 lt:nb<w.heap.size
theorem tV.keep {w w':World} {nb o:Nat} {b:aR} {a:Option Addr} {cap:Nat} {S:Nat→Prop} (h:tV w nb o b a cap) (hk:aD S w w') (hn:¬ S nb):tV w' nb o b a cap:=
 ⟨hk.cell' h.c0 hn,hk.cell' h.c1 hn,hk.cell' h.c2 hn,hk.cell' h.c3 hn,hk.cell' h.c4 hn,hk.cell' h.c5 hn,Nat.lt_of_lt_of_le h.lt hk.size⟩
structure lN (w0:World) (cb tb:Nat) (s:ByteArray) (at_:Int) (bad:Bool) (t:ByteArray) (w:World):Prop where
 cod:eW w cb s at_ false bad
 txt:w.heap[tb]?=some (.cells #[.string t] 9 (0,0))
 keep:aD (fun k=>k=cb) w0 w
theorem lN.ofNew {w w2:World} {cb:Nat} {s:ByteArray} {at_:Int} {bad:Bool} {t:ByteArray} (h:eW (w.alloc (.cells #[.string t] 9)) cb s at_ false bad) (k:K0 (w.alloc (.cells #[.string t] 9)) w2):lN w cb w.heap.size s at_ bad t w2:=
 ⟨h.keep k (fun h=>h),(k.block _ aK (fun h=>h)).trans (aI w _ _ rfl),((aD.refl (fun k=>k=cb) w).alloc _).trans k (fun _ _ h=>h.elim)⟩
theorem lN.text {w0 w:World} {cb tb:Nat} {s:ByteArray} {at_:Int} {bad:Bool} {t:ByteArray} {most:Int} (h:lN w0 cb tb s at_ bad t w) (hne:¬ tb=cb) (ht:t.size≤1000000000000) (hsz:s.size≤1000000000000) :
  Calls Tryz.prog 105 #[.pointer (some ⟨cb,0,none⟩),.pointer (some ⟨tb,0,none⟩),.int .i64 most] w (fun e w'=>e=.returned (.tuple #[])∧lN w0 cb tb (s++cJ t) at_ (bad||!decide ((t.size:Int)≤most)) t w'):=by
 refine (yX h.cod (aB h.txt 0) (aC h.txt) hne ht hsz).mono ?_
 rintro e w' ⟨rfl,t1,k⟩
 exact ⟨rfl,t1,(k.block tb (aC h.txt) hne).trans h.txt,h.keep.trans k (fun _ _ h=>h)⟩
theorem lN.want {w0 w:World} {cb tb:Nat} {s:ByteArray} {at_:Int} {bad:Bool} {t:ByteArray} (h:lN w0 cb tb s at_ bad t w) (hne:¬ tb=cb) (is:Bool) :
  Calls Tryz.prog 171 #[.pointer (some ⟨cb,0,none⟩),.bool is] w (fun e w'=>e=.returned (.tuple #[])∧lN w0 cb tb s at_ (bad||!is) t w'):=by
 refine (jA h.cod is).mono ?_
 rintro e w' ⟨rfl,t1,k⟩
 exact ⟨rfl,t1,(k.block tb (aC h.txt) hne).trans h.txt,h.keep.trans k (fun _ _ h=>h)⟩
theorem lN.k0 {w0 w w':World} {cb tb:Nat} {s:ByteArray} {at_:Int} {bad:Bool} {t:ByteArray} (h:lN w0 cb tb s at_ bad t w) (k:K0 w w'):lN w0 cb tb s at_ bad t w':=
 ⟨h.cod.keep k (fun h=>h),(k.block tb (aC h.txt) (fun h=>h)).trans h.txt,h.keep.trans k (fun _ _ h=>h.elim)⟩
theorem lN.set {w0 w:World} {cb tb:Nat} {s:ByteArray} {at_:Int} {bad:Bool} {t:ByteArray} (h:lN w0 cb tb s at_ bad t w) (hne:¬ tb=cb) (hnew:¬ tb<w0.heap.size) (u:ByteArray):lN w0 cb tb s at_ bad u (w.setCell ⟨tb,0,none⟩ (.string u)):=
 ⟨h.cod.keep ((aD.refl (fun k=>k=tb) w).setC 0 _ (fun _=>rfl)) (fun e=>hne e.symm),aM h.txt 0 _,h.keep.setC 0 _ (fun e=>absurd e hnew)⟩
theorem lN.cells {w0 w:World} {cb tb:Nat} {s:ByteArray} {at_:Int} {bad:Bool} {t:ByteArray} (h:lN w0 cb tb s at_ bad t w) :
  w.cell? ⟨tb,0,none⟩=some (.string t)∧w.frozen? ⟨tb,0,none⟩=false∧tb<w.heap.size∧w.cell? ⟨cb,0,none⟩=some (.string s)∧w.cell? ⟨cb,2,none⟩=some (.bool false)∧w.cell? ⟨cb,3,none⟩=some (.bool bad)∧cb<w.heap.size:=
 ⟨aB h.txt 0,aH h.txt 0,aC h.txt,h.cod.all.c0,h.cod.all.c2,h.cod.all.c3,h.cod.all.lt⟩
theorem lN.fin {w0 w:World} {cb tb:Nat} {s:ByteArray} {at_:Int} {bad:Bool} {t:ByteArray} (h:lN w0 cb tb s at_ bad t w):eW w cb s at_ false bad∧aD (fun k=>k=cb) w0 w:=⟨h.cod,h.keep⟩
theorem aPy {w:World} {cb:Nat} {s:ByteArray} {at_:Int} {bad:Bool} {nb o:Nat} {b:aR} {a:Option Addr} {cap:Nat} (h:eW w cb s at_ false bad) (hb:tV w nb o b a cap) (he:kP b=true) (hsz:s.size≤1000000000000) :
  Calls Tryz.prog 108 #[.pointer (some ⟨cb,0,none⟩),.pointer (some ⟨nb,o,none⟩),.bool true] w (aFv w cb (s++cJ ⟨#[]⟩) at_ false (bad||!decide (((⟨#[]⟩:ByteArray).size:Int)≤60008))):=by
 have hlc:cb<w.heap.size:=aC h
 have HW:Hid (eW (w.alloc (.cells #[.string ⟨#[]⟩] 9)) cb s at_ false bad):=h.keep ((aD.refl (fun _=>False) w).alloc _) (fun h=>h)
 have hm:=hb.keep ((aD.refl (fun _=>False) w).alloc (.cells #[.string ⟨#[]⟩] 9)) (fun h=>h)
 obtain ⟨c0,c1,c2,c3,f0,f1,f3,lt⟩:=HW.out.all
 obtain ⟨b0,b1,b2,b3,b4,b5,bl⟩:=hm
 have HE:=Lib.hid he
 have HSZ:=Lib.hid hsz
 clear h hb he hsz
 go_enter Tryz.func108,Tryz.ntmps108
 go_wp2_with (first
  | (go_at_call 175;refine (aCy _ _ _ _).mono ?_;rintro e w2 ⟨rfl,k2⟩;rw [HE.out];have HC2:=Lib.hid (lN.ofNew HW.out k2);obtain ⟨y0,y1,y2,y3,y4,y5,y6⟩:=HC2.out.cells)
  | (go_at_call 105;refine (HC2.out.text (by omega) (by decide) HSZ.out).mono ?_;rintro e w3 ⟨rfl,hF⟩;obtain ⟨z0,z1,z2,z3,z4,z5,z6⟩:=hF.cells;have HF:=Lib.hid hF;clear hF))
 go_end0
 exact ⟨rfl,HF.out.fin⟩
theorem aGd {D:Nat→Prop} {w:World} {cb:Nat} {s:ByteArray} {at_:Int} {bad:Bool} {nb o:Nat} {b:aR} {a:Option Addr} {cap:Nat} {opt:Bool} (h:eW w cb s at_ false bad) (hb:tV w nb o b a cap) (hd:gB D w b a cap) (ho:dH b) (hst:bF w) (he:kP b=false) (hsz:s.size≤1000000000000) :
  Calls Tryz.prog 108 #[.pointer (some ⟨cb,0,none⟩),.pointer (some ⟨nb,o,none⟩),.bool opt] w (aFv w cb (s++cJ (aZ b)) at_ false bad):=by
 have hlc:cb<w.heap.size:=aC h
 have KA:K0 w (w.alloc (.cells #[.string ⟨#[]⟩] 9)):=(aD.refl (fun _=>False) w).alloc _
 have HW:Hid (lN w cb w.heap.size s at_ bad ⟨#[]⟩ (w.alloc (.cells #[.string ⟨#[]⟩] 9))):=lN.ofNew (h.keep KA (fun h=>h)) (aD.refl _ _)
 have HM:Hid (tV (w.alloc (.cells #[.string ⟨#[]⟩] 9)) nb o b a cap):=hb.keep KA (fun h=>h)
 have HEN:Hid (∀ wx,K0 (w.alloc (.cells #[.string ⟨#[]⟩] 9)) wx→Calls Tryz.prog 92 #[.agg #[.int .i64 b.base,.int .i64 b.span,.int .i64 b.prod,.int .i64 b.epoch,.int .i64 b.seq,.slice a b.recs.length cap]] wx fun e w'=>e=.returned (.tuple #[.string (aZ b),.int .i64 0])∧lN w cb w.heap.size s at_ bad ⟨#[]⟩ w'):=fun wx k=>
  (mE D b a cap wx ((hd.keep0 KA).keep0 k) ho ((hst.keep0 KA).keep0 k)).mono (by rintro e w' ⟨rfl,k2⟩;exact ⟨rfl,(HW.out.k0 k).k0 k2⟩)
 have hes:(aZ b).size≤60008:=nI
 have ed:decide (((aZ b).size:Int)≤60008)=true:=decide_eq_true aA
 have HE:=Lib.hid he
 have HES:=Lib.hid hes
 have HED:=Lib.hid ed
 have HSZ:=Lib.hid hsz
 obtain ⟨b0,b1,b2,b3,b4,b5,bl⟩:=HM.out
 obtain ⟨x0,x1,x2,x3,x4,x5,x6⟩:=HW.out.cells
 clear h hb hd ho hst he hsz hes ed KA
 cases opt
 all_goals
  go_enter Tryz.func108,Tryz.ntmps108
  go_wp2_with (first
   | (go_at_call 175;refine (aCy _ _ _ _).mono ?_;rintro e w2 ⟨rfl,k2⟩;rw [HE.out];obtain ⟨y0,y1,y2,y3,y4,y5,y6⟩:=(HW.out.k0 k2).cells;obtain ⟨m0,m1,m2,m3,m4,m5,ml⟩:=HM.out.keep k2 (fun h=>h))
   | (go_at_call 92;refine (HEN.out _ (by first | exact aD.refl _ _ | assumption)).mono ?_;rintro e w3 ⟨rfl,hB⟩;have HB:=Lib.hid hB;clear hB)
   | (go_at_call 171;refine (HB.out.want aA _).mono ?_;rintro e w4 ⟨rfl,hC⟩;obtain ⟨z0,z1,z2,z3,z4,z5,z6⟩:=hC.cells;have HC:=Lib.hid hC;clear hC)
   | (go_at_call 105;refine ((HC.out.set (by omega) (by omega) (aZ b)).text (by omega) (by have:=HES.out;omega) HSZ.out).mono ?_;rintro e w5 ⟨rfl,hF⟩;obtain ⟨u0,u1,u2,u3,u4,u5,u6⟩:=hF.cells;have HF:=Lib.hid hF;clear hF))
  go_end0
  exact ⟨rfl,by simpa [HED.out] using HF.out.cod,HF.out.keep⟩
abbrev noF:Value:=.agg #[.int .i64 0,.string ⟨#[]⟩,.string ⟨#[]⟩,.slice none 0 0]
theorem aNb (w:World):Calls Tryz.prog 301 #[noF] w fun e w'=>e=.returned (.bool true)∧K0 w w':=by
 go_enter Tryz.func301,Tryz.ntmps301
 go_wp2
 first | (go_region;all_goals go_wp2) | skip
 all_goals
  go_ret
  exact ⟨rfl,by repeat (first | exact aD.refl _ _ | apply aD.drew | apply aD.alloc)⟩
theorem aNa (w:World) (n:Int) (h:1≤n):Calls Tryz.prog 233 #[noF,.int .i64 n] w fun e w'=>e=.returned (.bool true)∧K0 w w':=by
 have h0:¬ n=0:=aA
 have hKA:Hid (K0 w (w.alloc (.cells #[.int .i64 0,.string ⟨#[]⟩,.string ⟨#[]⟩,.slice none 0 0] 42))):=(aD.refl _ _).alloc _
 have HX:Hid (∀ w2,K0 (w.alloc (.cells #[.int .i64 0,.string ⟨#[]⟩,.string ⟨#[]⟩,.slice none 0 0] 42)) w2→w2.cell? ⟨w.heap.size,3,none⟩=some (.slice none 0 0)):=fun w2 k2=>
  (k2.cell (p:=⟨w.heap.size,3,none⟩) aK (fun h=>h)).trans (aB (aI w _ _ rfl) 3)
 go_enter Tryz.func233,Tryz.ntmps233
 go_wp2_with (go_at_call 301;refine (aNb _).mono ?_;rintro e w2 ⟨rfl,k2⟩;have e3:=HX.out w2 k2;have KK:=Lib.hid (hKA.out.tr k2);clear k2)
 go_loopw [17] (fun i wr=>i=.int .i64 0∧K0 w wr) (fun i _=>0)
 case atStart=>exact ⟨rfl,KK.out⟩
 case round=>
  obtain ⟨rfl,hk⟩:=hrel
  have HK:=Lib.hid hk
  clear hk
  go_wp2_with fail
  go_ret
  exact ⟨rfl,HK.out⟩
theorem aAw (w:World) {nb:Nat} {x y:Value} {ty:TypeId} (o:Obj) (h:w.heap[nb]?=some (.cells #[x] ty (0,0))):((w.setCell ⟨nb,0,none⟩ y).alloc o).heap[nb]?=some (.cells #[y] ty (0,0))∧aD (fun k=>k=nb) w ((w.setCell ⟨nb,0,none⟩ y).alloc o):=
 ⟨aL (aM h 0 y) o,((aD.refl (fun k=>k=nb) w).setC 0 _ (fun _=>rfl)).alloc o⟩
structure sI (w0 w:World) (b:Nat):Prop where
 blk:w.heap[b]?=some (.cells #[.int .i64 0,.string ⟨#[]⟩,.string ⟨#[]⟩,.slice none 0 0] 42 (0,0))
 keep:K0 w0 w
theorem sI.new (w:World):sI w (w.alloc (.cells #[.int .i64 0,.string ⟨#[]⟩,.string ⟨#[]⟩,.slice none 0 0] 42)) w.heap.size:=⟨aI w _ _ rfl,(aD.refl _ _).alloc _⟩
theorem sI.k0 {w0 w w':World} {b:Nat} (h:sI w0 w b) (k:K0 w w'):sI w0 w' b:=⟨(k.block b (aC h.blk) (fun h=>h)).trans h.blk,h.keep.tr k⟩
theorem sI.cells {w0 w:World} {b:Nat} (h:sI w0 w b):w.cell? ⟨b,0,none⟩=some (.int .i64 0)∧w.cell? ⟨b,1,none⟩=some (.string ⟨#[]⟩)∧w.cell? ⟨b,2,none⟩=some (.string ⟨#[]⟩)∧w.cell? ⟨b,3,none⟩=some (.slice none 0 0)∧b<w.heap.size:=
 ⟨aB h.blk 0,aB h.blk 1,aB h.blk 2,aB h.blk 3,aC h.blk⟩
theorem aKm (w:World) (nb fb:Nat) (h:w.heap[nb]?=some (.cells #[.int .i64 0] 3 (0,0))) :
  Calls Tryz.prog 300 #[noF,.pointer (some ⟨nb,0,none⟩),.pointer (some ⟨fb,0,none⟩)] w fun e w'=>e=.returned (.tuple #[])∧w'.heap[nb]?=some (.cells #[.int .i64 1] 3 (0,0))∧aD (fun k=>k=nb) w w':=by
 have hl:=aC h
 have c0:=aB h 0
 have f0:=aH h 0
 have HA:=Lib.hid (aAw w (y:=.int .i64 1) (.cells #[.int .i64 0,.string ⟨#[]⟩,.string ⟨#[]⟩,.slice none 0 0] 42) h)
 clear h
 go_enter Tryz.func300,Tryz.ntmps300
 go_wp2_with fail
 go_loopw [11] (fun i wr=>i=.int .i64 0∧wr.heap[nb]?=some (.cells #[.int .i64 1] 3 (0,0))∧aD (fun k=>k=nb) w wr) (fun i _=>0)
 case atStart=>exact ⟨rfl,HA.out.1,HA.out.2⟩
 case round=>
  obtain ⟨rfl,hk⟩:=hrel
  have HK:=Lib.hid hk
  clear hk
  go_wp2_with fail
  go_end0
  exact ⟨rfl,HK.out⟩
structure aMc (w0 w:World) (x:Int):Prop where
 blk:w.heap[w0.heap.size+1]?=some (.cells #[.int .i64 x] 3 (0,0))
 keep:K0 w0 w
theorem aMc.cell {w0 w:World} {x:Int} (h:aMc w0 w x):w.cell? ⟨w0.heap.size+1,0,none⟩=some (.int .i64 x):=aB h.blk 0
theorem aMc.call {w0 w:World} (h:aMc w0 w 0) (fb:Nat) :
  Calls Tryz.prog 300 #[noF,.pointer (some ⟨w0.heap.size+1,0,none⟩),.pointer (some ⟨fb,0,none⟩)] w fun e w'=>e=.returned (.tuple #[])∧aMc w0 w' 1:=by
 refine (aKm w _ fb h.blk).mono ?_
 rintro e w' ⟨rfl,b,k⟩
 exact ⟨rfl,b,(h.keep.trans (S:=fun _=>False) (S1:=fun k=>k=w0.heap.size+1) k (fun k hk e=>by omega))⟩
theorem aOr (w:World):Calls Tryz.prog 232 #[noF] w fun e w'=>e=.returned (.int .i64 1)∧K0 w w':=by
 have H1:Hid (∀ v:Value,∀ c:Nat,aMc w (((w.alloc (.cells #[.int .i64 0,.string ⟨#[]⟩,.string ⟨#[]⟩,.slice none 0 0] 42)).alloc (.cells #[.int .i64 0] 3)).alloc (.cells #[v] c)) 0):=fun v c=>
  ⟨aL (aI _ _ _ aK) _,(((aD.refl (fun _=>False) w).alloc _).alloc _).alloc _⟩
 go_enter Tryz.func232,Tryz.ntmps232
 go_wp2_with (go_at_call 300;refine ((H1.out _ _).call _).mono ?_;rintro e w2 ⟨rfl,hS⟩;have c0:=hS.cell;have HS:=Lib.hid hS;clear hS)
 go_ret
 exact ⟨rfl,HS.out.keep⟩
theorem kD (w:World):Calls Tryz.prog 160 #[noF] w fun e w'=>e=.returned (.int .i64 0)∧K0 w w':=by
 have HX:Hid (∀ w2,K0 (w.alloc (.cells #[.int .i64 0,.string ⟨#[]⟩,.string ⟨#[]⟩,.slice none 0 0] 42)) w2→sI w w2 w.heap.size):=fun w2 k2=>(sI.new w).k0 k2
 go_enter Tryz.func160,Tryz.ntmps160
 go_wp2_with (first
  | (go_at_call 232;refine (aOr _).mono ?_;rintro e w2 ⟨rfl,k2⟩;have H2:=HX.out w2 k2;obtain ⟨x0,x1,x2,x3,xl⟩:=H2.cells;have HH2:=Lib.hid H2;clear H2 k2)
  | (go_at_call 233;refine (aNa _ _ (by decide)).mono ?_;rintro e w3 ⟨rfl,k3⟩;have HH3:=Lib.hid (HH2.out.k0 k3);clear k3))
 go_ret
 exact ⟨rfl,HH3.out.keep⟩
theorem aU4 {w w2:World} {o o2:Obj} {g cap:Nat} (hA:pL ((w.alloc o).alloc o2) w.heap.size 5 1 (.slice none 0 0) 0 (gZ []++[.int .u8 0]) g cap w2) :
  w2.ownsRow w.heap.size 5 1 (.slice (some ⟨g,0,none⟩) 1 cap) 1 (gZ [0])∧K0 w w2:=
 ⟨by have:=hA.own;simpa [gZ] using this,(((aD.refl (fun _=>False) w).alloc _).alloc _).grown hA.grown (fun k e hlt=>by cases e)⟩
theorem aU3 {w w2:World} {o2:Obj} {g cap:Nat} (hA:pL ((w.alloc (.cells #[.int .i64 0,.string ⟨#[]⟩,.string ⟨#[]⟩,.slice none 0 0] 42)).alloc o2) w.heap.size 5 1 (.slice none 0 0) 0 (gZ []++[.int .u8 0]) g cap w2):sI w w2 w.heap.size:=
 (sI.new w).k0 (((aD.refl (fun _=>False) _).alloc _).grown hA.grown (fun k e hlt=>by cases e))
def WrF (w:World) (e:Ending) (w':World):Prop:=∃ g cap,e=.returned (.slice (some ⟨g,0,none⟩) 1 cap)∧w'.ownsRow w.heap.size 5 1 (.slice (some ⟨g,0,none⟩) 1 cap) 1 (gZ [0])∧K0 w w'
theorem aG0 (w:World):Calls Tryz.prog 249 #[.slice none 0 0,noF] w (WrF w):=by
 have HX:Hid (∀ w2,K0 (w.alloc (.cells #[.int .i64 0,.string ⟨#[]⟩,.string ⟨#[]⟩,.slice none 0 0] 42)) w2→sI w w2 w.heap.size):=fun w2 k2=>(sI.new w).k0 k2
 go_enter Tryz.func249,Tryz.ntmps249
 go_wp2_with (at_builtin;(refine bW (v:=.slice none 0 0) (n:=0) (xs:=gZ []) rfl rfl Tryz.underlying230 jN rfl aE rfl (World.ownsRow_nil _ w.heap.size _ _) rfl (aI _ _ _ aK) rfl rfl ⟨by omega,by decide⟩ bG ?_);intro g1 cap1 w1 hA;obtain ⟨x0,x1,x2,x3,xl⟩:=(aU3 hA).cells;have HA:=Lib.hid (aU4 hA);clear hA)
 go_loopw [0,47] (fun sl i wr=>sl=.slice (some ⟨g1,0,none⟩) 1 cap1∧i=.int .i64 0∧wr.ownsRow w.heap.size 5 1 (.slice (some ⟨g1,0,none⟩) 1 cap1) 1 (gZ [0])∧K0 w wr) (fun _ i _=>0)
 case atStart=>exact ⟨rfl,rfl,HA.out⟩
 case round=>
  obtain ⟨rfl,rfl,hk⟩:=hrel
  have HK:=Lib.hid hk
  clear hk
  go_wp2_with fail
  go_ret
  exact ⟨g1,cap1,rfl,HK.out⟩
theorem aUd {w w2:World} {g cap:Nat} (h:w2.ownsRow w.heap.size 5 1 (.slice (some ⟨g,0,none⟩) 1 cap) 1 (gZ [0])):(convert 230 9 (.slice (some ⟨g,0,none⟩) 1 cap)).run Tryz.prog w2=.ok (.string (bP [0])) w2:=aGm (base:=w.heap.size) (l:=[0]) h
theorem aJ8 (w:World):Calls Tryz.prog 176 #[noF] w fun e w'=>e=.returned (.tuple #[.string (bP [0]),.int .i64 0])∧K0 w w':=by
 have HX:Hid (∀ w2,K0 (w.alloc (.cells #[.int .i64 0,.string ⟨#[]⟩,.string ⟨#[]⟩,.slice none 0 0] 42)) w2→sI w w2 w.heap.size):=fun w2 k2=>(sI.new w).k0 k2
 go_enter Tryz.func176,Tryz.ntmps176
 go_wp2_with (first
  | (go_at_call 160;refine (kD _).mono ?_;rintro e w2 ⟨rfl,k2⟩;have H2:=HX.out w2 k2;obtain ⟨x0,x1,x2,x3,xl⟩:=H2.cells;have HH2:=Lib.hid H2;clear H2 k2)
  | (go_at_call 249;refine (aG0 _).mono ?_;rintro e w3 ⟨g,cap,rfl,hO,k3⟩;have hcv:=aUd hO;have HH3:=Lib.hid (HH2.out.k0 k3);clear k3 hO))
 go_ret2
 exact ⟨rfl,HH3.out.keep⟩
structure aPe (w:World) (nb o:Nat):Prop where
 c0:w.cell? ⟨nb,o,none⟩=some (.int .i64 0)
 c1:w.cell? ⟨nb,o+1,none⟩=some (.string ⟨#[]⟩)
 c2:w.cell? ⟨nb,o+2,none⟩=some (.string ⟨#[]⟩)
 c3:w.cell? ⟨nb,o+3,none⟩=some (.slice none 0 0)
 lt:nb<w.heap.size
theorem aPe.keep {w w':World} {nb o:Nat} {S:Nat→Prop} (h:aPe w nb o) (hk:aD S w w') (hn:¬ S nb):aPe w' nb o:=
 ⟨hk.cell' h.c0 hn,hk.cell' h.c1 hn,hk.cell' h.c2 hn,hk.cell' h.c3 hn,Nat.lt_of_lt_of_le h.lt hk.size⟩
theorem aMv {w:World} {cb:Nat} {s:ByteArray} {at_:Int} {bad:Bool} {nb o:Nat} (h:eW w cb s at_ false bad) (hb:aPe w nb o) (hsz:s.size≤1000000000000) :
  Calls Tryz.prog 109 #[.pointer (some ⟨cb,0,none⟩),.pointer (some ⟨nb,o,none⟩)] w (aFv w cb (s++cJ (bP [0])) at_ false bad):=by
 have hlc:cb<w.heap.size:=aC h
 have KA:K0 w (w.alloc (.cells #[.string ⟨#[]⟩] 9)):=(aD.refl (fun _=>False) w).alloc _
 have HW:Hid (lN w cb w.heap.size s at_ bad ⟨#[]⟩ (w.alloc (.cells #[.string ⟨#[]⟩] 9))):=lN.ofNew (h.keep KA (fun h=>h)) (aD.refl _ _)
 have HM:Hid (aPe (w.alloc (.cells #[.string ⟨#[]⟩] 9)) nb o):=hb.keep KA (fun h=>h)
 have HSZ:=Lib.hid hsz
 obtain ⟨b0,b1,b2,b3,bl⟩:=HM.out
 obtain ⟨x0,x1,x2,x3,x4,x5,x6⟩:=HW.out.cells
 clear h hb hsz KA
 go_enter Tryz.func109,Tryz.ntmps109
 go_wp2_with (first
  | (go_at_call 176;refine (aJ8 _).mono ?_;rintro e w3 ⟨rfl,k3⟩;have HB:=Lib.hid (HW.out.k0 k3);clear k3)
  | (go_at_call 171;refine (HB.out.want aA _).mono ?_;rintro e w4 ⟨rfl,hC⟩;obtain ⟨z0,z1,z2,z3,z4,z5,z6⟩:=hC.cells;have HC:=Lib.hid hC;clear hC)
  | (go_at_call 105;refine ((HC.out.set (by omega) (by omega) (bP [0])).text (by omega) (by rw [dC];decide) HSZ.out).mono ?_;rintro e w5 ⟨rfl,hF⟩;obtain ⟨u0,u1,u2,u3,u4,u5,u6⟩:=hF.cells;have HF:=Lib.hid hF;clear hF))
 go_end0
 have e1:decide (((bP [0]).size:Int)≤60000)=true:=mO
 exact ⟨rfl,by simpa [e1] using HF.out.cod,HF.out.keep⟩
structure aFt (w0 w:World) (cb bx:Nat) (s:ByteArray) (at_:Int) (bad:Bool):Prop where
 cod:eW w cb s at_ false bad
 box:w.cell? ⟨bx,0,none⟩=some (.pointer (some ⟨cb,0,none⟩))
 lt:bx<w.heap.size
 ne:¬ bx=cb
 keep:aD (fun k=>k=cb) w0 w
theorem aTj {w0 w:World} {cb bx nb ni:Nat} {s t:ByteArray} {at_:Int} {bad:Bool} (h:aFt w0 w cb bx s at_ bad) (hn:w.cell? ⟨nb,ni,none⟩=some (.string t)) (hl:nb<w.heap.size) (hne:¬ nb=cb) (ht:t.size≤1000000000000) (hsz:s.size≤1000000000000) :
  Calls Tryz.prog 111 #[.pointer (some ⟨nb,ni,none⟩),.pointer (some ⟨bx,0,none⟩)] w (fun e w'=>e=.returned (.tuple #[])∧aFt w0 w' cb bx (s++cJ t) at_ (bad||!decide ((t.size:Int)≤100))):=by
 have HC:Hid (Calls Tryz.prog 105 #[.pointer (some ⟨cb,0,none⟩),.pointer (some ⟨nb,ni,none⟩),.int .i64 100] w (fun e w'=>e=.returned (.tuple #[])∧aFt w0 w' cb bx (s++cJ t) at_ (bad||!decide ((t.size:Int)≤100)))):=
  (yX h.cod hn hl hne ht hsz).mono (by
   rintro e w' ⟨rfl,c,k⟩
   exact ⟨rfl,c,(k.cell (p:=⟨bx,0,none⟩) h.lt h.ne).trans h.box,Nat.lt_of_lt_of_le h.lt k.size,h.ne,h.keep.trans k (fun _ _ h=>h)⟩)
 have c0:=h.box
 clear h hn hl hne ht hsz
 go_enter Tryz.func111,Tryz.ntmps111
 go_wp2_with (go_at_call 105;refine HC.out.mono ?_;rintro e w2 ⟨rfl,k2⟩;have HK:=Lib.hid k2;clear k2)
 go_end0
 exact ⟨rfl,HK.out⟩
def lsW:ByteArray→Bool→List ByteArray→ByteArray×Bool
 | s,b,[]=>(s,b)
 | s,b,t::r=>if b=true then (s,true) else lsW (s++cJ t) (!decide ((t.size:Int)≤100)) r
theorem aTy (s:ByteArray) (l:List ByteArray):lsW s true l=(s,true):=by cases l <;> rfl
theorem aQo (s:ByteArray) {l:List ByteArray} {k:Nat} (h:k<l.length):lsW s false (l.drop k)=lsW (s++cJ l[k]) (!decide ((l[k].size:Int)≤100)) (l.drop (k+1)):=by
 rw [List.drop_eq_getElem_cons h];rfl
def aMd (w:World) (cb:Nat) (a:Option Addr) (l:List ByteArray):Prop:=∀ (i:Nat) (h:i<l.length),∃ ab ao,a=some ⟨ab,ao,none⟩∧w.cell? ⟨ab,ao+i,none⟩=some (.string l[i])∧¬ ab=cb
theorem aMd.keep {w w':World} {cb:Nat} {a:Option Addr} {l:List ByteArray} (h:aMd w cb a l) (k:aD (fun k=>k=cb) w w'):aMd w' cb a l:=fun i hi=>by
 obtain ⟨ab,ao,e,c,n⟩:=h i hi
 exact ⟨ab,ao,e,k.cell' c n,n⟩
structure aIs (w0:World) (cb bx qb qo nb cap:Nat) (a:Option Addr) (l:List ByteArray) (at_:Int) (R:ByteArray×Bool) (z k:Nat) (s:ByteArray) (b:Bool) (w:World):Prop where
 cod:aFt w0 w cb bx s at_ b
 num:w.cell? ⟨nb,0,none⟩=some (.int .i64 l.length)
 sl:w.cell? ⟨qb,qo,none⟩=some (.slice a l.length cap)
 nn:¬ nb=cb
 qn:¬ qb=cb
 row:aMd w cb a l
 run:lsW s b (l.drop k)=R
 size:b=false→s.size≤z+110*k
theorem aIs.cells {w0 w:World} {cb bx qb qo nb cap z k:Nat} {a:Option Addr} {l:List ByteArray} {at_:Int} {R:ByteArray×Bool} {s:ByteArray} {b:Bool} (h:aIs w0 cb bx qb qo nb cap a l at_ R z k s b w) :
  w.cell? ⟨nb,0,none⟩=some (.int .i64 l.length)∧w.cell? ⟨qb,qo,none⟩=some (.slice a l.length cap)∧w.cell? ⟨cb,2,none⟩=some (.bool false)∧w.cell? ⟨cb,3,none⟩=some (.bool b):=
 ⟨h.num,h.sl,h.cod.cod.all.c2,h.cod.cod.all.c3⟩
theorem aIs.call {w0 w:World} {cb bx qb qo nb cap z k:Nat} {a:Option Addr} {l:List ByteArray} {at_:Int} {R:ByteArray×Bool} {s:ByteArray} {b:Bool} (h:aIs w0 cb bx qb qo nb cap a l at_ R z k s b w) (hb:b=false) (hk:k<l.length) (hz:z+110*l.length≤1000000000000) (ht:∀ t∈l,t.size≤1000000000000) :
  Calls Tryz.prog 111 #[.pointer (some ⟨w.heap.size,0,none⟩),.pointer (some ⟨bx,0,none⟩)] (w.alloc (.cells #[.string l[k]] 9)) (fun e w'=>e=.returned (.tuple #[])∧∃ s' b',aIs w0 cb bx qb qo nb cap a l at_ R z (k+1) s' b' w'):=by
 subst hb
 have hlc:cb<w.heap.size:=aC h.cod.cod
 have KA:K0 w (w.alloc (.cells #[.string l[k]] 9)):=(aD.refl (fun _=>False) w).alloc _
 have hs:=h.size rfl
 have h1:aFt w (w.alloc (.cells #[.string l[k]] 9)) cb bx s at_ false:=⟨h.cod.cod.keep KA (fun h=>h),KA.cell' h.cod.box (fun h=>h),Nat.lt_of_lt_of_le h.cod.lt KA.size,h.cod.ne,KA.mono (fun _ _ h=>h.elim)⟩
 have htk:=ht l[k] (List.getElem_mem hk)
 refine (aTj h1 (aB (aI w _ _ rfl) 0) aK aA htk aA).mono ?_
 rintro e w' ⟨rfl,c⟩
 refine ⟨rfl,_,_,⟨⟨c.cod,c.box,c.lt,c.ne,h.cod.keep.trans c.keep (fun _ _ h=>h)⟩,c.keep.cell' h.num h.nn,c.keep.cell' h.sl h.qn,h.nn,h.qn,h.row.keep c.keep,?_,?_⟩⟩
 ·rw [← h.run,aQo s hk,Bool.false_or]
 ·intro hd
  have h100:(l[k].size:Int)≤100:=by simpa using hd
  have:=dG (s:=l[k]) aA
  rw [ByteArray.size_append];omega
theorem aTf {w0 w:World} {cb bx qb qo cap:Nat} {a:Option Addr} {l:List ByteArray} {s:ByteArray} {at_ most:Int} {bad:Bool} (h:aFt w0 w cb bx s at_ bad) (hq:w.cell? ⟨qb,qo,none⟩=some (.slice a l.length cap)) (hqn:¬ qb=cb) (hr:aMd w cb a l) (hl:l.length≤1000000000) (ht:∀ t∈l,t.size≤1000000000000) (hsz:s.size≤100000000000) :
  Calls Tryz.prog 110 #[.pointer (some ⟨cb,0,none⟩),.pointer (some ⟨qb,qo,none⟩),.int .i64 most,.func (Fn.func 111) #[] #[.pointer (some ⟨bx,0,none⟩)]] w
   (fun e w'=>e=.returned (.tuple #[])∧aFt w0 w' cb bx (lsW (s++putB l.length) (bad||!(decide (0≤(l.length:Int))&&decide ((l.length:Int)≤most))) l).1 at_ (lsW (s++putB l.length) (bad||!(decide (0≤(l.length:Int))&&decide ((l.length:Int)≤most))) l).2):=by
 obtain ⟨R,hR⟩:∃ R,R=lsW (s++putB l.length) (bad||!(decide (0≤(l.length:Int))&&decide ((l.length:Int)≤most))) l:=⟨_,rfl⟩
 rw [← hR]
 have hlc:cb<w.heap.size:=aC h.cod
 have HN:Hid (Calls Tryz.prog 104 #[.pointer (some ⟨cb,0,none⟩),.pointer (some ⟨w.heap.size,0,none⟩),.int .i64 0,.int .i64 most] (w.alloc (.cells #[.int .i64 l.length] 3)) (fun e w'=>e=.returned (.tuple #[])∧∃ s' b',aIs w0 cb bx qb qo w.heap.size cap a l at_ R (s.size+10) 0 s' b' w')):=by
  have KA:K0 w (w.alloc (.cells #[.int .i64 l.length] 3)):=(aD.refl (fun _=>False) w).alloc _
  have hn0:=aB (aI w (.cells #[.int .i64 l.length] 3) _ rfl) 0
  refine (oK (n:=l.length) (h.cod.keep KA (fun h=>h)) hn0 aK aA aA aA).mono ?_
  rintro e w' ⟨rfl,c,k⟩
  have kk:aD (fun k=>k=cb) w w':=(KA.mono (S1:=fun k=>k=cb) (fun _ _ h=>h.elim)).trans k (fun _ _ h=>h)
  refine ⟨rfl,_,_,⟨⟨c,kk.cell' h.box h.ne,Nat.lt_of_lt_of_le h.lt kk.size,h.ne,h.keep.trans kk (fun _ _ h=>h)⟩,k.cell' hn0 (by show ¬ w.heap.size=cb;omega),kk.cell' hq hqn,by omega,hqn,hr.keep kk,hR.symm,fun _=>?_⟩⟩
  have:=bU (n:=(l.length:Int)) aA
  rw [ByteArray.size_append];omega
 have hq1:(w.alloc (.cells #[.int .i64 l.length] 3)).cell? ⟨qb,qo,none⟩=some (.slice a l.length cap):=((aD.refl (fun _=>False) w).alloc _).cell' hq (fun h=>h)
 have HZ:Hid (s.size+10+110*l.length≤1000000000000):=by show _≤_;omega
 have HT:=Lib.hid ht
 clear h hr ht hsz hR hqn
 go_enter Tryz.func110,Tryz.ntmps110
 go_wp2_with (go_at_call 104;refine HN.out.mono ?_;rintro e w2 ⟨rfl,s1,b1,h1⟩;obtain ⟨y0,y1,y2,y3⟩:=h1.cells;have H1:=Lib.hid h1;clear h1)
 clear y0 y1 y2 y3
 go_loopw [9] (fun i wr=>∃ (k:Nat) (sk:ByteArray) (bk:Bool),i=.int .i64 k∧k≤l.length∧aIs w0 cb bx qb qo w.heap.size cap a l at_ R (s.size+10) k sk bk wr) (fun i _=>l.length - (intOf i).toNat)
 case atStart=>exact ⟨0,s1,b1,rfl,by omega,H1.out⟩
 case round=>
  obtain ⟨k,sk,bk,rfl,hk,hE⟩:=hrel
  have HE:=Lib.hid hE
  obtain ⟨x0,x1,x2,x3⟩:=hE.cells
  have i0:(0:Int)≤k:=aA
  by_cases hlt:k<l.length
  ·have i1:(k:Int)<l.length:=by omega
   obtain ⟨ab,ao,rfl,x4,_⟩:=hE.row k hlt
   have HC:=Lib.hid (fun hb=>hE.call hb hlt HZ.out HT.out)
   clear hE
   cases bk
   ·go_wp2_with (go_at_call 111;refine (HC.out rfl).mono ?_;rintro e w3 ⟨rfl,s3,b3,h3⟩;have H3:=Lib.hid h3;clear h3 HC HE x0 x1 x2 x3 x4)
    go_roundw
    case rel=>exact ⟨k+1,s3,b3,by go_num,by omega,H3.out⟩
    case measure=>simp [intOf];omega
   ·clear HC
    go_wp2_with fail
    go_end0
    have hE:=HE.out
    have hrun:=hE.run
    rw [aTy] at hrun
    subst hrun
    exact ⟨rfl,hE.cod⟩
  ·obtain rfl:k=l.length:=by omega
   clear hE
   go_wp2_with fail
   go_end0
   have hE:=HE.out
   have hrun:=hE.run
   rw [List.drop_length] at hrun
   subst hrun
   exact ⟨rfl,hE.cod⟩
structure fG where
 kind:Int
 name:ByteArray
 index:Int
 count:Int
 from_:Int
 flag:Bool
 bat:aR
 ba:Option Addr
 bcap:Nat
 group:ByteArray
 member:Int
 gen:Int
 topics:List ByteArray
 ta:Option Addr
 tcap:Nat
def fG.cells (q:fG):Array Value:=#[.int .i64 q.kind,.string q.name,.int .i64 q.index,.int .i64 q.count,.int .i64 q.from_,.bool q.flag,
 .int .i64 q.bat.base,.int .i64 q.bat.span,.int .i64 q.bat.prod,.int .i64 q.bat.epoch,.int .i64 q.bat.seq,.slice q.ba q.bat.recs.length q.bcap,
 .int .i64 0,.string ⟨#[]⟩,.string ⟨#[]⟩,.slice none 0 0,.string q.group,.int .i64 q.member,.int .i64 q.gen,.slice q.ta q.topics.length q.tcap]
def inI (n:Int):Prop:=-9223372036854775808≤n∧n≤9223372036854775807
structure pF (D:Nat→Prop) (w:World) (cb:Nat) (q:fG):Prop where
 kind:inI q.kind
 index:inI q.index
 count:inI q.count
 from_:inI q.from_
 member:inI q.member
 gen:inI q.gen
 name:q.name.size≤1000000000
 group:q.group.size≤1000000000
 tops:∀ t∈q.topics,t.size≤1000000000000
 tlen:q.topics.length≤1000000000
 row:aMd w cb q.ta q.topics
 bat:kP q.bat=true∨(kP q.bat=false∧dH q.bat∧gB D w q.bat q.ba q.bcap)
 dn:∀ k,D k→¬ k=cb
theorem pF.keep {D:Nat→Prop} {w w':World} {cb:Nat} {q:fG} (h:pF D w cb q) (k:aD (fun k=>k=cb) w w'):pF D w' cb q:=
 {h with row:=h.row.keep k,bat:=h.bat.elim .inl (fun x=>.inr ⟨x.1,x.2.1,x.2.2.keep k h.dn (fun _ e=>e)⟩)}
structure gP (D:Nat→Prop) (w0:World) (cb bx qb:Nat) (q:fG) (s:ByteArray) (at_:Int) (bad:Bool) (w:World):Prop where
 cod:aFt w0 w cb bx s at_ bad
 blk:w.heap[qb]?=some (.cells q.cells 45 (0,0))
 ok:pF D w cb q
 qn:¬ qb=cb
 st:bF w
 c0:¬ 0=cb
theorem gP.step {D:Nat→Prop} {w0 w w':World} {cb bx qb:Nat} {q:fG} {s s':ByteArray} {at_:Int} {bad bad':Bool} (h:gP D w0 cb bx qb q s at_ bad w) (c:eW w' cb s' at_ false bad') (k:aD (fun k=>k=cb) w w'):gP D w0 cb bx qb q s' at_ bad' w':=
 ⟨⟨c,k.cell' h.cod.box h.cod.ne,Nat.lt_of_lt_of_le h.cod.lt k.size,h.cod.ne,h.cod.keep.trans k (fun _ _ h=>h)⟩,(k.block qb (aC h.blk) h.qn).trans h.blk,h.ok.keep k,h.qn,h.st.keep k h.c0,h.c0⟩
theorem gP.k0 {D:Nat→Prop} {w0 w w':World} {cb bx qb:Nat} {q:fG} {s:ByteArray} {at_:Int} {bad:Bool} (h:gP D w0 cb bx qb q s at_ bad w) (k:K0 w w'):gP D w0 cb bx qb q s at_ bad w':=
 h.step (h.cod.cod.keep k (fun h=>h)) (k.mono (fun _ _ h=>h.elim))
theorem gP.box {D:Nat→Prop} {w0 w:World} {cb bx qb:Nat} {q:fG} {s:ByteArray} {at_:Int} {bad:Bool} (h:gP D w0 cb bx qb q s at_ bad w):w.cell? ⟨bx,0,none⟩=some (.pointer (some ⟨cb,0,none⟩)):=h.cod.box
section
variable {D:Nat→Prop} {w0 w:World} {cb bx qb:Nat} {q:fG} {s:ByteArray} {at_:Int} {bad:Bool}
theorem gP.kind (h:gP D w0 cb bx qb q s at_ bad w) (hs:s.size≤100000000000):Calls Tryz.prog 104 #[.pointer (some ⟨cb,0,none⟩),.pointer (some ⟨qb,0,none⟩),.int .i64 1,.int .i64 14] w
  (fun e w'=>e=.returned (.tuple #[])∧gP D w0 cb bx qb q (s++putB q.kind) at_ (bad||!(decide (1≤q.kind)&&decide (q.kind≤14))) w'):=
 (oK h.cod.cod (aB h.blk 0) (aC h.blk) h.qn h.ok.kind aA).mono bL
theorem gP.name (h:gP D w0 cb bx qb q s at_ bad w) (hs:s.size≤100000000000):Calls Tryz.prog 105 #[.pointer (some ⟨cb,0,none⟩),.pointer (some ⟨qb,1,none⟩),.int .i64 100] w
  (fun e w'=>e=.returned (.tuple #[])∧gP D w0 cb bx qb q (s++cJ q.name) at_ (bad||!decide ((q.name.size:Int)≤100)) w'):=
 (yX h.cod.cod (aB h.blk 1) (aC h.blk) h.qn (by have:=h.ok.name;omega) aA).mono bL
theorem gP.group (h:gP D w0 cb bx qb q s at_ bad w) (hs:s.size≤100000000000):Calls Tryz.prog 105 #[.pointer (some ⟨cb,0,none⟩),.pointer (some ⟨qb,16,none⟩),.int .i64 100] w
  (fun e w'=>e=.returned (.tuple #[])∧gP D w0 cb bx qb q (s++cJ q.group) at_ (bad||!decide ((q.group.size:Int)≤100)) w'):=
 (yX h.cod.cod (aB h.blk 16) (aC h.blk) h.qn (by have:=h.ok.group;omega) aA).mono bL
theorem gP.flag (h:gP D w0 cb bx qb q s at_ bad w) (hs:s.size≤100000000000):Calls Tryz.prog 107 #[.pointer (some ⟨cb,0,none⟩),.pointer (some ⟨qb,5,none⟩)] w
  (fun e w'=>e=.returned (.tuple #[])∧gP D w0 cb bx qb q (s++putB (kR q.flag)) at_ bad w'):=
 (aTa h.cod.cod h.blk (ni:=5) (f:=q.flag) rfl h.qn aA).mono bL
def gY (b:aR):ByteArray:=if kP b=true then ⟨#[]⟩ else aZ b
theorem gP.batM (h:gP D w0 cb bx qb q s at_ bad w):tV w qb 6 q.bat q.ba q.bcap:=⟨aB h.blk 6,aB h.blk 7,aB h.blk 8,aB h.blk 9,aB h.blk 10,aB h.blk 11,aC h.blk⟩
theorem gP.batch (h:gP D w0 cb bx qb q s at_ bad w) (hs:s.size≤100000000000):Calls Tryz.prog 108 #[.pointer (some ⟨cb,0,none⟩),.pointer (some ⟨qb,6,none⟩),.bool true] w
  (fun e w'=>e=.returned (.tuple #[])∧gP D w0 cb bx qb q (s++cJ (gY q.bat)) at_ bad w'):=by
 rcases h.ok.bat with he | ⟨he,ho,hd⟩
 ·rw [gY,if_pos he]
  refine (aPy h.cod.cod h.batM he aA).mono ?_
  rintro e w' ⟨rfl,c,k⟩
  have e0:decide (((⟨#[]⟩:ByteArray).size:Int)≤60008)=true:=aE
  rw [e0] at c
  have c2:eW w' cb (s++cJ ⟨#[]⟩) at_ false bad:=by simpa using c
  exact ⟨rfl,h.step c2 k⟩
 ·rw [gY,if_neg (by rw [he];decide)]
  exact (aGd h.cod.cod h.batM hd ho h.st he aA).mono bL
theorem gP.filter (h:gP D w0 cb bx qb q s at_ bad w) (hs:s.size≤100000000000):Calls Tryz.prog 109 #[.pointer (some ⟨cb,0,none⟩),.pointer (some ⟨qb,12,none⟩)] w
  (fun e w'=>e=.returned (.tuple #[])∧gP D w0 cb bx qb q (s++cJ (bP [0])) at_ bad w'):=
 (aMv h.cod.cod ⟨aB h.blk 12,aB h.blk 13,aB h.blk 14,aB h.blk 15,aC h.blk⟩ aA).mono bL
theorem gP.list (h:gP D w0 cb bx qb q s at_ bad w) (hs:s.size≤100000000000):Calls Tryz.prog 110 #[.pointer (some ⟨cb,0,none⟩),.pointer (some ⟨qb,19,none⟩),.int .i64 20,.func (Fn.func 111) #[] #[.pointer (some ⟨bx,0,none⟩)]] w
  (fun e w'=>e=.returned (.tuple #[])∧(eW w' cb (lsW (s++putB q.topics.length) (bad||!(decide (0≤(q.topics.length:Int))&&decide ((q.topics.length:Int)≤20))) q.topics).1 at_ false (lsW (s++putB q.topics.length) (bad||!(decide (0≤(q.topics.length:Int))&&decide ((q.topics.length:Int)≤20))) q.topics).2∧aD (fun k=>k=cb) w0 w')∧w'.cell? ⟨bx,0,none⟩=some (.pointer (some ⟨cb,0,none⟩))):=
 (aTf h.cod (aB h.blk 19) h.qn h.ok.row h.ok.tlen h.ok.tops hs).mono (by rintro e w' ⟨rfl,c⟩;exact ⟨rfl,⟨c.cod,c.keep⟩,c.box⟩)
end
end Go.Proofs.YteapahcklcldkaaGreatDoor
