/-
  The statement is proved: all that it reaches, in parts.
-/
import Derived.Test.YteapahcklcldkaaGreatDoorW01
import Derived.Test.YteapahcklcldkaaGreatDoorW03
import Derived.Laws.BytesArg
import Derived.Laws.BitsLemmas
import Derived.Laws.Bits64
import Derived.Laws.Bits64b
import Derived.OwnWalk
import Derived.WalkMore
import Derived.WalkSpells
import Derived.WalkLawsBesides
import Derived.Deep.QuietTactic
import Derived.BigQuiet
import Derived.Outline
import Derived.Lib.Hide
set_option maxRecDepth 100000
set_option maxHeartbeats 16000000
namespace Go.Proofs.YteapahcklcldkaaGreatDoor
open Go.RowKit Fx
def bP (l:List Nat):ByteArray:=strOfNums (l.map fun b:Nat=>(b:Int))
def putB (n:Int):ByteArray:=bP (eT (zz n))
theorem oY {w:World} {base:Nat} {e:TypeId} {size:Nat} {v:Value} {n:Nat} {xs:List Value} (h:w.ownsRow base e size v n xs):∃ a c,v=.slice a n c:=by
 rcases h.2 with ⟨rfl,rfl⟩ | ⟨g,cap,cur,rfl,_⟩
 ·exact ⟨_,_,rfl⟩
 ·exact ⟨_,_,rfl⟩
theorem jN:(Tryz.prog.info? 5).map (fun i=>(i.zero,i.size,i.bytes))=some (some (.int .u8 0),1,1):=by kernel_rfl
def gZ (l:List Nat):List Value:=l.map fun b:Nat=>.int .u8 (b:Int)
theorem aGm {w:World} {base g n cap:Nat} {l:List Nat} (h:w.ownsRow base 5 1 (.slice (some ⟨g,0,none⟩) n cap) n (gZ l)):(convert 230 9 (.slice (some ⟨g,0,none⟩) n cap)).run Tryz.prog w=.ok (.string (bP l)) w:=by
 have hl:(gZ l).length=n*1:=h.1
 have hl2:l.length=n:=by simpa [gZ] using hl
 refine run_convert_bytes_arg w 230 5 Tryz.underlying230 Tryz.underlying5 g 0 n cap (l.map fun b:Nat=>(b:Int)) (by simpa using hl2) (fun j hj=>?_) 9 Tryz.underlying9
 rw [Nat.zero_add,h.cellAt j aA]
 have hj2:j<l.length:=aA
 simp [gZ,hj2]
structure vT (w:World) (n u:Nat) (done:List Nat) (v:Value) (wr:World):Prop where
 enc:eT n=done++eT u
 lt:u<18446744073709551616
 len:done.length≤10
 own:wr.ownsRow w.heap.size 5 1 v done.length (gZ done)
 k0:K0 w wr
theorem vT.start {w:World} {n:Nat} (h:n<18446744073709551616):vT w n n [] (.slice none 0 0) w:=⟨rfl,h,by simp,World.ownsRow_nil _ _ _ _,aD.refl _ _⟩
theorem vT.step {w wr w2:World} {n u g cap:Nat} {done:List Nat} {v:Value} {o:Obj} (h:vT w n u done v wr) (hu:¬ u<128) (hn:n<18446744073709551616) (hA:pL (wr.alloc o) w.heap.size 5 1 v done.length (gZ done++[.int .u8 ((u:Int) % 128+128)]) g cap w2) :
  vT w n (u / 128) (done++[u % 128+128]) (.slice (some ⟨g,0,none⟩) (done.length+1) cap) w2:=by
 have he:eT n=(done++[u % 128+128])++eT (u / 128):=by rw [h.enc,lZ hu,List.append_assoc];rfl
 have hl:=aEc hn
 rw [he,List.length_append] at hl
 refine ⟨he,by have:=h.lt;omega,by omega,?_,(h.k0.alloc _).grown hA.grown (fun k e hlt=>absurd (h.own.lt k e).1 aA)⟩
 rw [List.length_append]
 have h1:=hA.own
 rw [show (u:Int) % 128+128=((u % 128+128:Nat):Int) by omega] at h1
 simpa only [gZ,List.map_append,List.map_cons,List.map_nil,List.length_cons,List.length_nil,Nat.zero_add] using h1
theorem vT.stop {w wr w2:World} {n u g cap:Nat} {done:List Nat} {v:Value} {o:Obj} (h:vT w n u done v wr) (hu:u<128) (hA:pL (wr.alloc o) w.heap.size 5 1 v done.length (gZ done++[.int .u8 (u:Int)]) g cap w2) :
  (convert 230 9 (.slice (some ⟨g,0,none⟩) (done.length+1) cap)).run Tryz.prog w2=.ok (.string (bP (eT n))) w2∧K0 w w2:=by
 refine ⟨?_,(h.k0.alloc _).grown hA.grown (fun k e hlt=>absurd (h.own.lt k e).1 aA)⟩
 rw [h.enc,kE hu]
 refine aGm (base:=w.heap.size) (l:=done++[u]) ?_
 have:=hA.own
 simpa [gZ] using this
end Go.Proofs.YteapahcklcldkaaGreatDoor
