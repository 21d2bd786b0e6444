/-
  The statement is proved: all that it reaches, in parts.
-/
import Derived.Test.YteapahcklcldkaaGreatDoorW09
import Derived.BigRegion
set_option maxRecDepth 100000
set_option maxHeartbeats 16000000
namespace Go.Proofs.YteapahcklcldkaaGreatDoor
open Go.RowKit Fx
theorem aNi (n:Int) (w:World) (h0:1≤n) (h1:n≤1000000):Calls Tryz.prog 273 #[.int .i64 n] w fun e w'=>e=.returned (.tuple #[.pointer (some ⟨w.heap.size,0,none⟩),.int .i64 0])∧
  w'=w.alloc (.cells #[.int .i64 n,.slice none 0 0,.slice none 0 0,.bool false,.complex .f64 0 0,.int .i64 0] 487):=by
 go_enter Tryz.func273,Tryz.ntmps273
 go_wp2
 go_ret2
 exact ⟨rfl,rfl⟩
def aG6 (n:Int):Prop:=0≤n∧n≤1099511627776
theorem xL (b:Nat) (x y z:Int) (w:World) (c0:w.cell? ⟨b,0,none⟩=some (.int .i64 x)) (c1:w.cell? ⟨b,1,none⟩=some (.int .i64 y)) (c2:w.cell? ⟨b,2,none⟩=some (.int .i64 z)) (hx:aG6 x) (hy:aG6 y) (hz:aG6 z) :
  Calls Tryz.prog 379 #[.slice (some ⟨b,0,none⟩) 3 3] w fun e w'=>e=.returned (.bool true)∧w'=w:=by
 obtain ⟨x0,x1⟩:=hx
 obtain ⟨y0,y1⟩:=hy
 obtain ⟨z0,z1⟩:=hz
 go_enter Tryz.func379,Tryz.ntmps379
 go_wp2
 refine wp_loop_rounds 4 ?_
 rw [rounds_succ]
 go_wp2
 rw [rounds_succ]
 go_wp2
 rw [rounds_succ]
 go_wp2
 rw [rounds_succ]
 go_wp2
 go_ret
 exact ⟨rfl,rfl⟩
def zP (w:World) (ib:Nat) (ev:Int):Prop:=w.heap[ib]?=some (.cells #[.int .i64 ev,.slice none 0 0,.slice none 0 0,.bool false,.complex .f64 0 0,.int .i64 0] 487 (0,0))
structure iX (w:World) (ib sb tb:Nat) (ev o:Int) (lo lp:Int):Prop where
 blk:∃ c1 c2 la,w.heap[ib]?=some (.cells #[.int .i64 ev,.slice (some ⟨sb,0,none⟩) 1 c1,.slice (some ⟨tb,0,none⟩) 1 c2,.bool true,zJ lo lp,.int .i64 la] 487 (0,0))
 spot:w.cell? ⟨sb,0,none⟩=some (zJ o 0)
 ne:sb≠ib∧tb≠ib
theorem aAt:(Tryz.prog.info? 485).map (fun i=>(i.zero,i.size,i.bytes))=some (some (.complex .f64 0 0),1,16):=by kernel_rfl
theorem aEg:(Tryz.prog.info? 3).map (fun i=>(i.zero,i.size,i.bytes))=some (some (.int .i64 0),1,8):=by kernel_rfl
noncomputable def aWq (z v:Value) (n:Nat):Array Value:=[v].toArray++Builtin.zeroCells z.cells (n - 1)
theorem aOk (z v:Value) (n:Nat):(aWq z v n)[0]?=some v:=by
 unfold aWq
 rw [Array.getElem?_append_left aK]
 rfl
theorem aPp {W:World} {t e ty:TypeId} {z:Value} {bytes B c:Nat} {v:Value} (ht:Tryz.prog.underlying t=some (.slice e)) (hinfo:(Tryz.prog.info? e).map (fun i=>(i.zero,i.size,i.bytes))=some (some z,1,bytes)) (hb:bytes≤1000) (h:W.cell? ⟨B,0,none⟩=some v) :
  (Builtin.append_ #[t,t] ty #[.slice none 0 0,.slice (some ⟨B,0,none⟩) 1 c]).run Tryz.prog W=.ok (.slice (some ⟨W.heap.size,0,none⟩) 1 (grownCap W 1 0 e)) (W.drew.alloc (.cells (aWq z v (grownCap W 1 0 e)) e)):=by
 obtain ⟨i,hi,hz,hz1,hz2⟩:=info_parts hinfo
 exact run_append_nil W t ty e i z ht hi hz ⟨B,0,none⟩ 1 c [v] (by simp [hz1]) (fun j u hu=>by
  match j,hu with
  | 0,hu=>simpa [Addr.add] using h.trans hu) (by decide) (by decide) (by rw [hz2];omega)
theorem aIh {P:Program} {w w4:World} {ops:Array Oper} {o:Oper} {a:Act} {K:Act→World→Prop} {Q:Exit→Act→World→Prop} {E:Prop} (hgd:o.guard=none) {s x:Operand} {t:TypeId}
  (ho:o.op=.call {callee:=.builtin .append,args:=#[s,x],argTypes:=#[t,t]}) {v vx r:Value} (hs:a.eval s=v) (hx:a.eval x=vx) (hrun:(Builtin.append_ #[t,t] o.type #[v,vx]).run P w=.ok r w4)
  (h:K (a.put o.dst r) w4):if Region.wanted o (yielded ops a.tmps)=true then Oper.wp P o a w K Q else E:=by
 have hw:Region.wanted o (yielded ops a.tmps)=true:=by simp [Region.wanted,hgd]
 rw [if_pos hw]
 unfold Oper.wp execOp
 simp only [ho,resolve,invoke,builtin,Sem.run_bind,Sem.run_pure,Result.andThen_ok,List.map_toArray,List.map_cons,List.map_nil,hs,hx,hrun]
 exact h
theorem jE {w:World} {ops:Array Oper} {o:Oper} {a:Act} {K:Act→World→Prop} {Q:Exit→Act→World→Prop} {E:Prop} (hgd:o.guard=none) {s x:Operand} {t:TypeId}
  (ho:o.op=.call {callee:=.builtin .append,args:=#[s,x],argTypes:=#[t,t]}) {e:TypeId} {z v:Value} {bytes B c:Nat} (hs:a.eval s=.slice none 0 0) (hx:a.eval x=.slice (some ⟨B,0,none⟩) 1 c)
  (ht:Tryz.prog.underlying t=some (.slice e)) (hinfo:(Tryz.prog.info? e).map (fun i=>(i.zero,i.size,i.bytes))=some (some z,1,bytes)) (hb:bytes≤1000) (hc:w.cell? ⟨B,0,none⟩=some v)
  (h:∀ (cap:Nat) (A:Array Value),A[0]?=some v→K (a.put o.dst (.slice (some ⟨w.heap.size,0,none⟩) 1 cap)) (w.alloc (.cells A e)).drew):if Region.wanted o (yielded ops a.tmps)=true then Oper.wp Tryz.prog o a w K Q else E:=
 aIh hgd ho hs hx (aPp ht hinfo hb hc) (h _ _ (aOk _ _ _))
end Go.Proofs.YteapahcklcldkaaGreatDoor
