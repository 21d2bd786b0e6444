/-
  The statement is proved: all that it reaches, in parts.
-/
import Derived.Test.YteapahcklcldkaaGreatDoorW03
import Derived.Test.YteapahcklcldkaaGreatDoorRows
import Derived.Sort.Walk0
set_option maxRecDepth 100000
set_option maxHeartbeats 16000000
namespace Go.Proofs.YteapahcklcldkaaGreatDoor.Tpc
open Go.RowKit Fx
section
variable {α:Type}
def gU (a b:ByteArray):Bool:=Op.bytesLess a.toList b.toList
theorem lP (a b:ByteArray):gU a b=true↔a.data.toList<b.data.toList:=by
 unfold gU
 rw [bytesLess_eq,ByteArray.toList_eq,ByteArray.toList_eq]
 simp
theorem aGq {a b:ByteArray} (h:a.data.toList=b.data.toList):a=b:=by
 cases a;cases b
 simp only [ByteArray.mk.injEq]
 exact Array.toList_inj.1 h
theorem sL (a:ByteArray):gU a a=false:=by
 have:¬ gU a a=true:=fun h=>List.lt_irrefl _ ((lP a a).1 h)
 simpa using this
theorem wA {a b c:ByteArray} (h1:gU a b=true) (h2:gU b c=true):gU a c=true:=
 (lP a c).2 (List.lt_trans ((lP a b).1 h1) ((lP b c).1 h2))
theorem aCq {a b:ByteArray} (h:a≠b) (h1:gU a b=false):gU b a=true:=by
 refine (lP b a).2 ?_
 have h2:¬ a.data.toList<b.data.toList:=fun e=>by rw [(lP a b).2 e] at h1;cases h1
 have h3:b.data.toList≤a.data.toList:=List.not_lt.1 h2
 exact Classical.byContradiction fun h4=>h (aGq (List.le_antisymm (List.not_lt.1 h4) h3))
def cR (l:List (ByteArray×α)):List ByteArray:=l.map (·.1)
def gC (l:List (ByteArray×α)):Prop:=(cR l).Pairwise fun a b=>gU a b=true
def aNh (l:List (ByteArray×α)) (s:ByteArray) (x:α):List (ByteArray×α):=l.takeWhile (fun p=>gU p.1 s)++(s,x)::l.dropWhile fun p=>gU p.1 s
theorem gC.kd {l:List (ByteArray×α)} (h:gC l):KD l:=by
 unfold KD
 refine List.Pairwise.imp ?_ h
 intro a b hab e
 subst e
 rw [sL] at hab
 cases hab
theorem xD {l1 l2:List (ByteArray×α)} (u:ByteArray):aQ (l1++l2) u=(aQ l1 u).or (aQ l2 u):=by
 induction l1 with
 | nil=>rfl
 | cons p l ih=>
  obtain ⟨k,v⟩:=p
  simp only [List.cons_append,aQ]
  split
  ·rfl
  ·exact ih
theorem aEl (l1 l2:List (ByteArray×α)):cR (l1++l2)=cR l1++cR l2:=List.map_append
theorem aMj {l:List (ByteArray×α)} {s:ByteArray} (h:aQ l s=none) (x:α) (u:ByteArray):aQ (aNh l s x) u=if s=u then some x else aQ l u:=by
 have h0:aQ l u=aQ (l.takeWhile (fun p=>gU p.1 s)++l.dropWhile fun p=>gU p.1 s) u:=by rw [List.takeWhile_append_dropWhile]
 have hn:aQ (l.takeWhile fun p=>gU p.1 s) s=none:=by
  cases hx:aQ (l.takeWhile fun p=>gU p.1 s) s with
  | none=>rfl
  | some y=>exact absurd rfl (lY h _ ((List.takeWhile_sublist _).subset (kL hx)))
 rw [h0]
 unfold aNh
 rw [xD,xD]
 by_cases e:s=u
 ·subst e
  rw [if_pos rfl,hn]
  simp [aQ]
 ·rw [if_neg e]
  simp [aQ,e]
theorem aCf {l:List (ByteArray×α)} {s:ByteArray}:∀ p∈l.takeWhile (fun p=>gU p.1 s),gU p.1 s=true:=by
 intro p hp
 exact List.all_eq_true.1 (List.all_takeWhile (p:=fun p:ByteArray×α=>gU p.1 s) (l:=l)) p hp
theorem rZ {s:ByteArray}:∀ {l:List (ByteArray×α)},gC l→aQ l s=none→∀ p∈l.dropWhile (fun p=>gU p.1 s),gU s p.1=true
 | [],_,_,p,hp=>by cases hp
 | q::l,hs,hn,p,hp=>by
  have hs':gC l:=(List.pairwise_cons.1 hs).2
  have hq:q.1≠s:=lY hn q (List.mem_cons_self ..)
  have hn':aQ l s=none:=by
   obtain ⟨k,v⟩:=q
   simp only [aQ] at hn
   rw [if_neg hq] at hn
   exact hn
  rw [List.dropWhile_cons] at hp
  split at hp
  ·exact rZ hs' hn' p hp
  ·rename_i h1
   have h2:gU s q.1=true:=aCq hq (by simpa using h1)
   rcases List.mem_cons.1 hp with rfl | hp
   ·exact h2
   ·exact wA h2 ((List.pairwise_cons.1 hs).1 p.1 (List.mem_map.2 ⟨p,hp,rfl⟩))
theorem gC.ins {l:List (ByteArray×α)} (h:gC l) {s:ByteArray} (hn:aQ l s=none) (x:α):gC (aNh l s x):=by
 have h0:gC (l.takeWhile (fun p=>gU p.1 s)++l.dropWhile fun p=>gU p.1 s):=by rw [List.takeWhile_append_dropWhile];exact h
 unfold gC aNh at *
 rw [aEl] at h0 ⊢
 obtain ⟨h1,h2,h3⟩:=List.pairwise_append.1 h0
 refine List.pairwise_append.2 ⟨h1,List.pairwise_cons.2 ⟨fun a ha=>?_,h2⟩,fun a ha b hb=>?_⟩
 ·obtain ⟨p,hp,rfl⟩:=List.mem_map.1 ha
  exact rZ h hn p hp
 ·rcases List.mem_cons.1 hb with rfl | hb
  ·obtain ⟨p,hp,rfl⟩:=List.mem_map.1 ha
   exact aCf p hp
  ·exact h3 a ha b hb
theorem wI {l:List (ByteArray×α)} {s:ByteArray} (h:(aQ l s).isSome=true) (x:α):cR (bD l s x)=cR l:=by
 induction l with
 | nil=>cases h
 | cons p l ih=>
  obtain ⟨k,v⟩:=p
  simp only [aQ] at h
  simp only [bD]
  by_cases e:k=s
  ·rw [if_pos e];simp [cR,e]
  ·rw [if_neg e] at h ⊢
   have:=ih h
   simp only [cR,List.map_cons] at this ⊢
   rw [this]
theorem gC.put {l:List (ByteArray×α)} (h:gC l) {s:ByteArray} (hs:(aQ l s).isSome=true) (x:α):gC (bD l s x):=by
 unfold gC
 rw [wI hs]
 exact h
theorem aF2 (l:List (ByteArray×α)) (s:ByteArray):(dQ l s).Sublist l:=by
 induction l with
 | nil=>exact List.Sublist.refl _
 | cons p l ih=>
  obtain ⟨k,v⟩:=p
  simp only [dQ]
  split
  ·exact List.sublist_cons_self _ _
  ·exact ih.cons_cons _
theorem gC.del {l:List (ByteArray×α)} (h:gC l) (s:ByteArray):gC (dQ l s):=List.Pairwise.sublist ((aF2 l s).map _) h
structure aK9 (l:List (ByteArray×α)) (s:ByteArray) (k:Nat):Prop where
 le:k≤l.length
 low:∀ j (hj:j<l.length),j<k→gU l[j].1 s=true
 high:∀ h:k<l.length,gU l[k].1 s=false
theorem aK9.nil {l:List (ByteArray×α)} (h:l=[]) (s:ByteArray):aK9 l s 0:=by
 subst h
 exact ⟨Nat.le_refl _,fun j hj=>absurd hj (Nat.not_lt_zero _),fun h=>absurd h (Nat.not_lt_zero _)⟩
end
theorem xP {κ α:Type} {l:List (κ×α)} (h:KD l):l.Nodup:=by
 unfold KD at h
 rw [List.Nodup,List.pairwise_map] at h
 exact h.imp (fun hne e=>hne (by rw [e]))
theorem aN4 {κ α:Type} [DecidableEq κ] {l1 l2:List (κ×α)} (h1:KD l1) (h2:KD l2) (h:∀ s,aQ l1 s=aQ l2 s):l1.Perm l2:=
 (List.perm_ext_iff_of_nodup (xP h1) (xP h2)).2 fun p=>by
  obtain ⟨s,x⟩:=p
  exact ⟨fun e=>kL (by rw [← h];exact eO h1 e),fun e=>kL (by rw [h];exact eO h2 e)⟩
theorem fS {w w':World} {S:Nat→Prop} (hk:aD S w w') {base:Nat} {e:TypeId} {size:Nat} {v:Value} {n:Nat} {xs:List Value} (h:w.ownsRow base e size v n xs) (hS:∀ k,v.ownBlock=some k→¬ S k):w'.ownsRow base e size v n xs:=by
 refine ⟨h.1,?_⟩
 rcases h.2 with hn | ⟨g,cap,cur,rfl,hb,hgg,rest⟩
 ·exact .inl hn
 ·exact .inr ⟨g,cap,cur,rfl,hb,(hk.block g (Array.getElem?_eq_some_iff.1 hgg).1 (hS g rfl)).trans hgg,rest⟩
end Go.Proofs.YteapahcklcldkaaGreatDoor.Tpc
