/-
  The statement is proved: all that it reaches, in parts.
-/
import Derived.Test.YteapahcklcldkaaGreatDoorW02
import Derived.Deep.AppendLies
import Derived.Deep.RegionLaw
set_option maxRecDepth 100000
set_option maxHeartbeats 16000000
namespace Go.Proofs.YteapahcklcldkaaGreatDoor.Fx
open Go.RowKit
theorem aI (w:World) (o:Obj) (n:Nat) (h:n=w.heap.size):(w.alloc o).heap[n]?=some o:=by subst h;exact (MapKept.heap_alloc w o).1
structure pL (w:World) (base:Nat) (e:TypeId) (size:Nat) (v:Value) (n:Nat) (xs:List Value) (g cap:Nat) (w':World):Prop where
 own:w'.ownsRow base e size (.slice (some ⟨g,0,none⟩) (n+1) cap) (n+1) xs
 grown:w.grownBy w' v.ownBlock
 at_:v.ownBlock=some g∨g=w.heap.size
 lt:g<w'.heap.size
theorem fA (w:World) (o:Obj) (n:Nat) (h:n=w.heap.size):(w.alloc o).drew.heap[n]?=some o:=aI w o n h
theorem pL.far {w w':World} {base:Nat} {e:TypeId} {size:Nat} {v:Value} {n:Nat} {xs:List Value} {g cap:Nat} (h:pL w base e size v n xs g cap w') {b:Nat} {ob:Obj} (hb:w.heap[b]?=some ob) (hne:v.ownBlock≠some b):w'.heap[b]?=some ob:=
 (h.grown.block b (Array.getElem?_eq_some_iff.1 hb).1 (fun e=>hne e.symm)).trans hb
theorem aG2 {w w1:World} {o:Obj} {r:Option Nat} (h:(w.alloc o).grownBy w1 r):w.grownBy w1 r:=
 ⟨h.os,h.tape,h.output,by have:=h.size;simp at this;omega,fun k hk hne=>(h.block k cX hne).trans (Below.heap_alloc w o k hk)⟩
theorem aB {w:World} {b:Nat} {c:Array Value} {t:TypeId} {f:Nat×Nat} (h:w.heap[b]?=some (.cells c t f)) (i:Nat):w.cell? ⟨b,i,none⟩=c[i]?:=by simp [World.cell?,h]
theorem aH {w:World} {b:Nat} {c:Array Value} {t:TypeId} (h:w.heap[b]?=some (.cells c t (0,0))) (i:Nat):w.frozen? ⟨b,i,none⟩=false:=by simp [World.frozen?,h]
theorem aC {w:World} {b:Nat} {ob:Obj} (h:w.heap[b]?=some ob):b<w.heap.size:=(Array.getElem?_eq_some_iff.1 h).1
theorem aL {w:World} {b:Nat} {ob:Obj} (h:w.heap[b]?=some ob) (o:Obj):(w.alloc o).heap[b]?=some ob:=(Below.heap_alloc w o b (aC h)).trans h
section
variable {P:Program} {w:World} {ops:Array Oper} {rest:List Oper} {o:Oper} {a:Act} {Q:Exit→Act→World→Prop}
theorem aCl {n bytes:Nat} (hn:n≤1000000∧bytes≤1000000):n+1≤maxLen∧(n+1)*bytes≤140737488355328:=by
 refine ⟨by unfold maxLen;omega,?_⟩
 have:(n+1)*bytes≤1000001*1000000:=Nat.mul_le_mul aA hn.2
 omega
theorem aXj {w:World} {B:Nat} {cs:List Value} {t:TypeId} {fr:Nat×Nat} (h:w.heap[B]?=some (.cells cs.toArray t fr)):∀ j u,cs[j]?=some u→w.cell? ((⟨B,0,none⟩:Addr).add j)=some u:=by
 intro j u hu
 have e:(⟨B,0,none⟩:Addr).add j=⟨B,j,none⟩:=by unfold Addr.add;split <;> simp_all
 rw [e]
 simp [World.cell?,h,hu]
theorem aL8 {K:Act→World→Prop} {s x:Operand} {t:TypeId} (ho:o.op=.call {callee:=.builtin .append,args:=#[s,x],argTypes:=#[t,t]})
  {base:Nat} {e:TypeId} {z:Value} {size bytes:Nat} (ht:P.underlying t=some (.slice e)) (hinfo:(P.info? e).map (fun i=>(i.zero,i.size,i.bytes))=some (some z,size,bytes)) (hzs:z.cells.size=size) (hsz:0<size)
  {v:Value} {n:Nat} {xs:List Value} (hs:a.eval s=v) (hown:w.ownsRow base e size v n xs) {B c:Nat} {cs:List Value} {t':TypeId} {fr:Nat×Nat} (hx:a.eval x=.slice (some ⟨B,0,none⟩) 1 c) (hblk:w.heap[B]?=some (.cells cs.toArray t' fr))
  (hcs:cs.length=size) (h1:(cs.all fun u=>u.oneCell')=true) (hn:n≤1000000∧bytes≤1000000) (hbase:base≤w.heap.size)
  (h:∀ g cap w',pL w base e size v n (xs++cs) g cap w'→K (a.put o.dst (.slice (some ⟨g,0,none⟩) (n+1) cap)) w'):o.wp P a w K Q:=by
 obtain ⟨i,hi,hz,hz1,hz2⟩:=info_parts hinfo
 exact wp_append_lies w s x t ho base e i z size bytes ht hi hz hz1 hz2 hzs hsz v n xs hs hown ⟨B,0,none⟩ 1 c cs hx (by rw [hcs,Nat.one_mul]) (aXj hblk) (fun u hu=>List.all_eq_true.1 h1 u hu) aE (aCl hn).1 (aCl hn).2 hbase _ rfl
  fun g cap w' h2 h3 h4 h5=>h g cap w' ⟨h2,h3,h4,h5⟩
theorem bW (hgd:o.guard=none) {s x:Operand} {t:TypeId} (ho:o.op=.call {callee:=.builtin .append,args:=#[s,x],argTypes:=#[t,t]})
  {base:Nat} {e:TypeId} {z:Value} {size bytes:Nat} (ht:P.underlying t=some (.slice e)) (hinfo:(P.info? e).map (fun i=>(i.zero,i.size,i.bytes))=some (some z,size,bytes)) (hzs:z.cells.size=size) (hsz:0<size)
  {v:Value} {n:Nat} {xs:List Value} (hs:a.eval s=v) (hown:w.ownsRow base e size v n xs) {B c:Nat} {cs:List Value} {t':TypeId} {fr:Nat×Nat} (hx:a.eval x=.slice (some ⟨B,0,none⟩) 1 c) (hblk:w.heap[B]?=some (.cells cs.toArray t' fr))
  (hcs:cs.length=size) (h1:(cs.all fun u=>u.oneCell')=true) (hn:n≤1000000∧bytes≤1000000) (hbase:base≤w.heap.size)
  (h:∀ g cap w',pL w base e size v n (xs++cs) g cap w'→wpList P ops Q rest (a.put o.dst (.slice (some ⟨g,0,none⟩) (n+1) cap)) w'):wpList P ops Q (o::rest) a w:=
 wpList_plain hgd fun _ hK=>aL8 ho ht hinfo hzs hsz hs hown hx hblk hcs h1 hn hbase fun g cap w' h2=>hK _ _ (h g cap w' h2)
theorem aDj {K:Act→World→Prop} {E:Prop} (hgd:o.guard=none) {s x:Operand} {t:TypeId} (ho:o.op=.call {callee:=.builtin .append,args:=#[s,x],argTypes:=#[t,t]})
  {base:Nat} {e:TypeId} {z:Value} {size bytes:Nat} (ht:P.underlying t=some (.slice e)) (hinfo:(P.info? e).map (fun i=>(i.zero,i.size,i.bytes))=some (some z,size,bytes)) (hzs:z.cells.size=size) (hsz:0<size)
  {v:Value} {n:Nat} {xs:List Value} (hs:a.eval s=v) (hown:w.ownsRow base e size v n xs) {B c:Nat} {cs:List Value} {t':TypeId} {fr:Nat×Nat} (hx:a.eval x=.slice (some ⟨B,0,none⟩) 1 c) (hblk:w.heap[B]?=some (.cells cs.toArray t' fr))
  (hcs:cs.length=size) (h1:(cs.all fun u=>u.oneCell')=true) (hn:n≤1000000∧bytes≤1000000) (hbase:base≤w.heap.size)
  (h:∀ g cap w',pL w base e size v n (xs++cs) g cap w'→K (a.put o.dst (.slice (some ⟨g,0,none⟩) (n+1) cap)) w') :
  if Region.wanted o (yielded ops a.tmps)=true then Oper.wp P o a w K Q else E:=by
 have hw:Region.wanted o (yielded ops a.tmps)=true:=by simp [Region.wanted,hgd]
 rw [if_pos hw]
 exact aL8 ho ht hinfo hzs hsz hs hown hx hblk hcs h1 hn hbase h
end
section
variable {P:Program} {w:World} {ops:Array Oper} {rest:List Oper} {o:Oper} {a:Act} {Q:Exit→Act→World→Prop}
end
end Go.Proofs.YteapahcklcldkaaGreatDoor.Fx
