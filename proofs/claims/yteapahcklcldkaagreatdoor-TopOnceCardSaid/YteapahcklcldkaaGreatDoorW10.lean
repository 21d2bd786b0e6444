/-
  The statement is proved: all that it reaches, in parts.
-/
import Derived.Test.YteapahcklcldkaaGreatDoorW09
import Derived.Laws.ResultCell
set_option maxRecDepth 100000
set_option maxHeartbeats 16000000
namespace Go.Proofs.YteapahcklcldkaaGreatDoor
open Go.RowKit Fx
theorem wV (pre rest:ByteArray) (n:Int):cF (pre++putB n++rest) pre.size=eT (zz n)++cF rest 0:=by
 have h1:(pre++putB n++rest).data.toList=pre.data.toList++((putB n).data.toList++rest.data.toList):=aK
 unfold cF
 rw [h1,List.drop_left' aBx,List.map_append,List.drop_zero]
 congr 1
 unfold putB
 rw [eZ,List.map_map]
 conv=>rhs;rw [← List.map_id (eT (zz n))]
 refine List.map_congr_left fun b hb=>?_
 have:=sQ _ b hb
 simp only [Function.comp,id,Int.toNat_natCast]
 rw [UInt8.toNat_ofNat']
 omega
theorem aBh (n:Int):(putB n).size=(eT (zz n)).length:=by
 have h:=congrArg List.length (eZ (eT (zz n)))
 rw [List.length_map] at h
 exact h
theorem qN (pre rest:ByteArray) {n:Int} (h:-9223372036854775808≤n∧n≤9223372036854775807) :
  gD (pre++putB n++rest) pre.size=0∧dE (pre++putB n++rest) pre.size=n∧dW (pre++putB n++rest) pre.size=pre.size+(putB n).size:=by
 have hb:¬ ((pre.size:Int)<0∨((pre++putB n++rest).size:Int)<pre.size):=by
  rw [ByteArray.size_append,ByteArray.size_append]
  omega
 obtain ⟨h1,h2,h3⟩:=aLm (aL9 h) (cF rest 0)
 unfold gD dE dW uL
 rw [if_neg hb,if_neg hb,if_neg hb,Int.toNat_natCast,wV,if_pos h1,h3,aVc,aBh,← h2]
 exact ⟨h1,rfl,by push_cast;omega⟩
theorem aLq (s:ByteArray):s.extract 0 s.size=s:=by simp
theorem rH (pre x rest:ByteArray):(pre++x++rest).extract pre.size (pre.size+x.size)=x:=by
 have h:((pre++x++rest).extract pre.size (pre.size+x.size)).data.toList=x.data.toList:=by
  simp only [ByteArray.data_extract,ByteArray.data_append,Array.toList_extract,Array.toList_append,List.extract_eq_take_drop]
  have h1:pre.size=pre.data.toList.length:=rfl
  have h2:x.size=x.data.toList.length:=rfl
  rw [h1,h2,List.append_assoc,List.drop_left,Nat.add_sub_cancel_left,List.take_left]
 cases hx:(pre++x++rest).extract pre.size (pre.size+x.size)
 rw [hx] at h
 cases x
 exact congrArg ByteArray.mk (Array.toList_inj.1 h)
theorem aFl (pre rest nm:ByteArray) (m:Nat) (h:nm.size≤m) (hm:m≤1000000) :
  tU (pre++(putB nm.size++nm)++rest) pre.size m=0∧tkS (pre++(putB nm.size++nm)++rest) pre.size m=nm∧tkT (pre++(putB nm.size++nm)++rest) pre.size m=pre.size+(putB nm.size++nm).size:=by
 have e1:pre++(putB (nm.size:Int)++nm)++rest=pre++putB (nm.size:Int)++(nm++rest):=gN
 have e2:pre++(putB (nm.size:Int)++nm)++rest=(pre++putB (nm.size:Int))++nm++rest:=gN
 obtain ⟨h1,h2,h3⟩:=qN pre (nm++rest) (n:=(nm.size:Int)) ⟨by omega,by omega⟩
 rw [← e1] at h1 h2 h3
 have hsz:(pre++(putB (nm.size:Int)++nm)++rest).size=pre.size+(putB (nm.size:Int)).size+nm.size+rest.size:=by
  rw [e2];simp only [ByteArray.size_append]
 have hE:tU (pre++(putB nm.size++nm)++rest) pre.size m=0:=by
  unfold tU
  rw [if_pos h1,h2,if_neg aA,h3,hsz,if_neg aA]
 refine ⟨hE,?_,?_⟩
 ·unfold tkS
  rw [if_pos hE,h2,h3,e2]
  have g1:((pre.size:Int)+((putB (nm.size:Int)).size:Int)).toNat=(pre++putB (nm.size:Int)).size:=eM
  have g2:((pre.size:Int)+((putB (nm.size:Int)).size:Int)+(nm.size:Int)).toNat=(pre++putB (nm.size:Int)).size+nm.size:=eM
  rw [g1,g2,rH]
 ·unfold tkT
  rw [if_pos hE,h2,h3,ByteArray.size_append]
  omega
structure cA (s:ByteArray) (p:Int) (n p':Int):Prop where
 e:gD s p=0
 n:dE s p=n
 t:dW s p=p'
structure fP (s:ByteArray) (p:Int) (m:Int) (y:ByteArray) (p':Int):Prop where
 e:tU s p m=0
 x:tkS s p m=y
 t:tkT s p m=p'
theorem cA.of (pre rest:ByteArray) {n:Int} (h:-9223372036854775808≤n∧n≤9223372036854775807):cA (pre++putB n++rest) pre.size n (pre.size+(putB n).size):=by
 obtain ⟨h1,h2,h3⟩:=qN pre rest h
 exact ⟨h1,h2,h3⟩
theorem fP.of (pre rest x:ByteArray) (m:Nat) (h:x.size≤m) (hm:m≤1000000):fP (pre++cJ x++rest) pre.size m x (pre.size+(cJ x).size):=by
 obtain ⟨h1,h2,h3⟩:=aFl pre rest x m h hm
 exact ⟨h1,h2,h3⟩
structure bT (r:dY):Prop where
 bare:r.bare=false
 gone:r.gone=false
 headers:r.headers=[]
 ok:jV r=true
theorem aT2 {w:World} {b:Nat} {s:ByteArray} {p n p':Int} (h:Rr 453 w b s p 0) (g:cA s p n p') (hs:s.size≤9223372036854775807) (hp:p≤s.size) :
  Calls Tryz.prog 297 #[.pointer (some ⟨b,0,none⟩)] w fun e w'=>e=.returned (.int .i64 n)∧Rr 453 w' b s p' 0∧aD (fun k=>k=b) w w':=by
 have:=aRr h hs aA
 unfold xN vO at this
 rw [if_pos rfl,if_pos rfl,if_pos rfl,g.e,g.n,g.t] at this
 exact this
theorem aXn {w:World} {b:Nat} {s x:ByteArray} {p p':Int} (h:Rr 453 w b s p 0) (g:fP s p 1000 x p') (hs:s.size≤9223372036854775807) (hp:p≤s.size) :
  Calls Tryz.prog 298 #[.pointer (some ⟨b,0,none⟩)] w fun e w'=>e=.returned (.string x)∧Rr 453 w' b s p' 0∧aD (fun k=>k=b) w w':=by
 have:=aRt h hs aA
 unfold txS wW txE at this
 rw [if_pos rfl,if_pos rfl,if_pos rfl,g.e,g.x,g.t] at this
 exact this
theorem aVi {w:World} {b:Nat} {s:ByteArray} {p:Int} (h:Rr 453 w b s p 0) :
  Calls Tryz.prog 299 #[.pointer (some ⟨b,0,none⟩),.bool true] w fun e w'=>e=.returned (.tuple #[])∧Rr 453 w' b s p 0∧aD (fun k=>k=b) w w':=nZ true h
structure qC (w:World) (A b C:Nat) (s:ByteArray) (p:Int) (cs:Array Value) (wi:World):Prop where
 k0:K0 w wi
 rd:Rr 453 wi b s p 0
 z:wi.heap[A]?=some (.cells #[.int .i64 0,.int .i64 0,.bool false,.string ⟨#[]⟩,.bool false,.string ⟨#[]⟩,.slice none 0 0] 98 (0,0))
 rc:wi.heap[C]?=some (.cells cs 98 (0,0))
 new:w.heap.size≤A∧w.heap.size≤b∧w.heap.size≤C
 ne:A≠b∧C≠b∧A≠C
theorem qC.read {w wi wj:World} {A b C:Nat} {s:ByteArray} {p p':Int} {cs:Array Value} (h:qC w A b C s p cs wi) (r:Rr 453 wj b s p' 0) (k:aD (fun k=>k=b) wi wj):qC w A b C s p' cs wj:=
 ⟨h.k0.trans k (fun k hk e=>by have:=h.new.2.1;omega),r,(k.block A (aC h.z) h.ne.1).trans h.z,(k.block C (aC h.rc) h.ne.2.1).trans h.rc,h.new,h.ne⟩
theorem qC.kept {w wi wj:World} {A b C:Nat} {s:ByteArray} {p:Int} {cs:Array Value} (h:qC w A b C s p cs wi) (k:K0 wi wj):qC w A b C s p cs wj:=
 ⟨K0.tr h.k0 k,h.rd.keep k (fun e=>e),(k.block A (aC h.z) (fun e=>e)).trans h.z,(k.block C (aC h.rc) (fun e=>e)).trans h.rc,h.new,h.ne⟩
theorem qC.put {w wi:World} {A b C:Nat} {s:ByteArray} {p:Int} {cs:Array Value} (h:qC w A b C s p cs wi) (j:Nat) (v:Value):qC w A b C s p (cs.setIfInBounds j v) (wi.setCell ⟨C,j,none⟩ v):=by
 have k:aD (fun k=>k=C) wi (wi.setCell ⟨C,j,none⟩ v):=(aD.refl _ _).setC j v (fun _=>rfl)
 exact ⟨h.k0.trans k (fun k hk e=>by have:=h.new.2.2;omega),h.rd.keep k (fun e=>h.ne.2.1 e.symm),(k.block A (aC h.z) h.ne.2.2).trans h.z,aM h.rc j v,h.new,h.ne⟩
theorem nF {fn:Func} {p u v:Tmp} {ty:TypeId} (h:fn.results=#[.cell p ty,.tmp u,.tmp v]) (tmps:Array Value) (P:Program) (w:World) :
  (results fn tmps).run P w =
   ((asAddr (tmps.getD p undef)).run P w).andThen fun a w₁=>((loadVar ty a).run P w₁).andThen fun x w₂=>.ok (.tuple #[x,tmps.getD u undef,tmps.getD v undef]) w₂:=by
 simp only [results,h]
 simp [Sem.run_bind,Result.andThen]
theorem aB9 (s:ByteArray) (r:dY) (p0 p1 p2 p3 p4 p5 p6:Int) (w:World) (hs:s.size≤9223372036854775807) (hb:p0≤s.size∧p1≤s.size∧p2≤s.size∧p3≤s.size∧p4≤s.size∧p5≤s.size)
  (g0:cA s p0 r.at_ p1) (g1:cA s p1 r.time p2) (g2:cA s p2 0 p3) (g3:fP s p3 1000 r.key p4) (g4:fP s p4 1000 r.value p5) (g5:cA s p5 0 p6) (hr:bT r) :
  Calls Tryz.prog 231 #[.string s,.int .i64 p0] w fun e w'=>e=.returned (.tuple #[.agg #[.int .i64 r.at_,.int .i64 r.time,.bool false,.string r.key,.bool false,.string r.value,.slice none 0 0],.int .i64 p6,.int .i64 0])∧K0 w w':=by
 have HC:Hid (∀ wx,Calls Tryz.prog 234 #[.agg #[.int .i64 r.at_,.int .i64 r.time,.bool false,.string r.key,.bool false,.string r.value,.slice none 0 0]] wx fun e w'=>e=.returned (.int .i64 0)∧K0 wx w'):=fun wx=>by
  obtain ⟨q1,q2,q3,_⟩:=fB hr.ok
  have:=nO (fun _=>True) r none 0 wx gI jX jX
  rw [hr.ok,hr.bare,hr.gone,hr.headers] at this
  exact this
 have hb1:bits BinOp.and IntKind.i64 0 1=0:=aD9
 have hb2:bits BinOp.and IntKind.i64 0 2=0:=aD9
 have HG:=Lib.hid (And.intro g0 (And.intro g1 (And.intro g2 (And.intro g3 (And.intro g4 g5)))))
 have HS:=Lib.hid hs
 have HB:=Lib.hid hb
 have hsz:(w.alloc (.cells #[.int .i64 0,.int .i64 0,.bool false,.string ⟨#[]⟩,.bool false,.string ⟨#[]⟩,.slice none 0 0] 98)).heap.size=w.heap.size+1:=aK
 have HR0:Hid (Rr 453 ((w.alloc (.cells #[.int .i64 0,.int .i64 0,.bool false,.string ⟨#[]⟩,.bool false,.string ⟨#[]⟩,.slice none 0 0] 98)).alloc (.cells #[.string s,.int .i64 p0,.int .i64 0] 453)) (w.heap.size+1) s p0 0):=aI _ _ _ hsz.symm
 have HZ0:Hid (((w.alloc (.cells #[.int .i64 0,.int .i64 0,.bool false,.string ⟨#[]⟩,.bool false,.string ⟨#[]⟩,.slice none 0 0] 98)).alloc (.cells #[.string s,.int .i64 p0,.int .i64 0] 453)).heap[w.heap.size]?=some (.cells #[.int .i64 0,.int .i64 0,.bool false,.string ⟨#[]⟩,.bool false,.string ⟨#[]⟩,.slice none 0 0] 98 (0,0))):=aL (aI w _ _ rfl) _
 have HK0:Hid (K0 w ((w.alloc (.cells #[.int .i64 0,.int .i64 0,.bool false,.string ⟨#[]⟩,.bool false,.string ⟨#[]⟩,.slice none 0 0] 98)).alloc (.cells #[.string s,.int .i64 p0,.int .i64 0] 453))):=((aD.refl _ _).alloc _).alloc _
 clear hs hb g0 g1 g2 g3 g4 g5 hsz
 go_enter Tryz.func231,Tryz.ntmps231
 go_wp2_with fail
 refine (aT2 HR0.out HG.out.1 HS.out HB.out.1).mono ?_
 rintro e w1 ⟨rfl,r1,k1⟩
 have HR1:=Lib.hid r1
 have HK1:=Lib.hid k1
 clear r1 k1
 go_wp2_with fail
 refine (aT2 HR1.out HG.out.2.1 HS.out HB.out.2.1).mono ?_
 rintro e w2 ⟨rfl,r2,k2⟩
 have HR2:=Lib.hid r2
 have HK2:=Lib.hid (HK1.out.trans k2 (fun _ _ e=>e))
 have hz2:=HK2.out.size
 clear r2 k2
 go_wp2_with fail
 have HD2:Hid (qC w w.heap.size (w.heap.size+1) w2.heap.size s p2 #[.int .i64 r.at_,.int .i64 r.time,.bool false,.string ⟨#[]⟩,.bool false,.string ⟨#[]⟩,.slice none 0 0] (w2.alloc (.cells #[.int .i64 r.at_,.int .i64 r.time,.bool false,.string ⟨#[]⟩,.bool false,.string ⟨#[]⟩,.slice none 0 0] 98))):=by
  have kk:=HK0.out.trans HK2.out (fun k hk e=>by omega)
  have h1:=aC HR2.out
  have hz:=(HK2.out.block _ (aC HZ0.out) aA).trans HZ0.out
  have h3:=aC hz
  exact ⟨kk.alloc _,aL HR2.out _,aL hz _,aI _ _ _ rfl,⟨by omega,by omega,by omega⟩,by omega,by omega,by omega⟩
 clear HR0 HR1 HR2 HK0 HK1 HK2 HZ0 hz2
 refine (aT2 HD2.out.rd HG.out.2.2.1 HS.out HB.out.2.2.1).mono ?_
 rintro e w3 ⟨rfl,r3,k3⟩
 have hd3:=HD2.out.read r3 k3
 have HD3:=Lib.hid hd3
 have c2:w3.cell? ⟨w2.heap.size,2,none⟩=some (.bool false):=aB hd3.rc 2
 have c4:w3.cell? ⟨w2.heap.size,4,none⟩=some (.bool false):=aB hd3.rc 4
 have f2:=aH hd3.rc 2
 have f4:=aH hd3.rc 4
 have hl:=aC hd3.rc
 have HD4:=Lib.hid ((hd3.put 2 (.bool false)).put 4 (.bool false))
 clear hd3 r3 k3 HD2
 go_wp2_with fail
 refine (aXn HD4.out.rd HG.out.2.2.2.1 HS.out HB.out.2.2.2.1).mono ?_
 rintro e w4 ⟨rfl,r4,k4⟩
 have HD5:=Lib.hid (HD4.out.read r4 k4)
 clear r4 k4 HD4 HD3 c2 c4 f2 f4 hl
 go_wp2_with fail
 refine (aXn HD5.out.rd HG.out.2.2.2.2.1 HS.out HB.out.2.2.2.2.1).mono ?_
 rintro e w5 ⟨rfl,r5,k5⟩
 have hd6:=HD5.out.read r5 k5
 have c3:w5.cell? ⟨w2.heap.size,3,none⟩=some (.string ⟨#[]⟩):=aB hd6.rc 3
 have c5:w5.cell? ⟨w2.heap.size,5,none⟩=some (.string ⟨#[]⟩):=aB hd6.rc 5
 have f3:=aH hd6.rc 3
 have f5:=aH hd6.rc 5
 have hl:=aC hd6.rc
 have HD6:=Lib.hid ((hd6.put 3 (.string r.key)).put 5 (.string r.value))
 clear hd6 r5 k5 HD5
 go_wp2_with fail
 refine (aT2 HD6.out.rd HG.out.2.2.2.2.2 HS.out HB.out.2.2.2.2.2).mono ?_
 rintro e w6 ⟨rfl,r6,k6⟩
 have HD7:=Lib.hid (HD6.out.read r6 k6)
 clear r6 k6 HD6 c3 c5 f3 f5 hl
 go_wp2_with fail
 refine (aVi HD7.out.rd).mono ?_
 rintro e w7 ⟨rfl,r7,k7⟩
 have hd8:=HD7.out.read r7 k7
 have HD8:=Lib.hid hd8
 clear r7 k7 HD7 hd8
 have hd9:qC w w.heap.size (w.heap.size+1) w2.heap.size s p6 #[.int .i64 r.at_,.int .i64 r.time,.bool false,.string r.key,.bool false,.string r.value,.slice none 0 0] w7:=HD8.out
 have a0:w7.cell? ⟨w2.heap.size,0,none⟩=some (.int .i64 r.at_):=aB hd9.rc 0
 have a1:w7.cell? ⟨w2.heap.size,1,none⟩=some (.int .i64 r.time):=aB hd9.rc 1
 have a2:w7.cell? ⟨w2.heap.size,2,none⟩=some (.bool false):=aB hd9.rc 2
 have a3:w7.cell? ⟨w2.heap.size,3,none⟩=some (.string r.key):=aB hd9.rc 3
 have a4:w7.cell? ⟨w2.heap.size,4,none⟩=some (.bool false):=aB hd9.rc 4
 have a5:w7.cell? ⟨w2.heap.size,5,none⟩=some (.string r.value):=aB hd9.rc 5
 have a6:w7.cell? ⟨w2.heap.size,6,none⟩=some (.slice none 0 0):=aB hd9.rc 6
 have hl:=aC hd9.rc
 have HD9:=Lib.hid hd9
 clear hd9 HD8
 go_wp2_with fail
 refine wp_loop_once ?_
 go_wp2_with fail
 refine (HC.out _).mono ?_
 rintro e w8 ⟨rfl,k8⟩
 have HDA:=Lib.hid (HD9.out.kept k8)
 clear k8 HD9 a0 a1 a2 a3 a4 a5 a6 hl
 go_wp2_with fail
 refine (aVi HDA.out.rd).mono ?_
 rintro e w9 ⟨rfl,r9,k9⟩
 have hdb:=HDA.out.read r9 k9
 have a0:w9.cell? ⟨w2.heap.size,0,none⟩=some (.int .i64 r.at_):=aB hdb.rc 0
 have a1:w9.cell? ⟨w2.heap.size,1,none⟩=some (.int .i64 r.time):=aB hdb.rc 1
 have a2:w9.cell? ⟨w2.heap.size,2,none⟩=some (.bool false):=aB hdb.rc 2
 have a3:w9.cell? ⟨w2.heap.size,3,none⟩=some (.string r.key):=aB hdb.rc 3
 have a4:w9.cell? ⟨w2.heap.size,4,none⟩=some (.bool false):=aB hdb.rc 4
 have a5:w9.cell? ⟨w2.heap.size,5,none⟩=some (.string r.value):=aB hdb.rc 5
 have a6:w9.cell? ⟨w2.heap.size,6,none⟩=some (.slice none 0 0):=aB hdb.rc 6
 have hl:=aC hdb.rc
 have b1:w9.cell? ⟨w.heap.size+1,1,none⟩=some (.int .i64 p6):=aB hdb.rd 1
 have b2:w9.cell? ⟨w.heap.size+1,2,none⟩=some (.int .i64 0):=aB hdb.rd 2
 have hm:=aC hdb.rd
 have z0:w9.cell? ⟨w.heap.size,0,none⟩=some (.int .i64 0):=aB hdb.z 0
 have z1:w9.cell? ⟨w.heap.size,1,none⟩=some (.int .i64 0):=aB hdb.z 1
 have z2:w9.cell? ⟨w.heap.size,2,none⟩=some (.bool false):=aB hdb.z 2
 have z3:w9.cell? ⟨w.heap.size,3,none⟩=some (.string ⟨#[]⟩):=aB hdb.z 3
 have z4:w9.cell? ⟨w.heap.size,4,none⟩=some (.bool false):=aB hdb.z 4
 have z5:w9.cell? ⟨w.heap.size,5,none⟩=some (.string ⟨#[]⟩):=aB hdb.z 5
 have z6:w9.cell? ⟨w.heap.size,6,none⟩=some (.slice none 0 0):=aB hdb.z 6
 have hn:=aC hdb.z
 have q0:=aH hdb.z 0
 have q1:=aH hdb.z 1
 have q2:=aH hdb.z 2
 have q3:=aH hdb.z 3
 have q4:=aH hdb.z 4
 have q5:=aH hdb.z 5
 have q6:=aH hdb.z 6
 have HDB:=Lib.hid hdb
 clear hdb r9 k9 HDA
 go_wp2_with fail
 go_region
 all_goals
  go_wp2
  (try simp only [Exit.inBlock,Exit.then])
  refine bodyPost_ret (v:=.tuple #[.agg #[.int .i64 r.at_,.int .i64 r.time,.bool false,.string r.key,.bool false,.string r.value,.slice none 0 0],.int .i64 p6,.int .i64 0]) ?_ rfl ?_
  ·rw [nF rfl]
   go_simp
  ·exact ⟨rfl,by first | exact (((((((HDB.out.k0.setC 0 _ (fun h=>absurd h (Nat.lt_irrefl _))).setC 1 _ (fun h=>absurd h (Nat.lt_irrefl _))).setC 2 _ (fun h=>absurd h (Nat.lt_irrefl _))).setC 3 _ (fun h=>absurd h (Nat.lt_irrefl _))).setC 4 _ (fun h=>absurd h (Nat.lt_irrefl _))).setC 5 _ (fun h=>absurd h (Nat.lt_irrefl _))).setC 6 _ (fun h=>absurd h (Nat.lt_irrefl _))).drew | exact (((((((HDB.out.k0.setC 0 _ (fun h=>absurd h (Nat.lt_irrefl _))).setC 1 _ (fun h=>absurd h (Nat.lt_irrefl _))).setC 2 _ (fun h=>absurd h (Nat.lt_irrefl _))).setC 3 _ (fun h=>absurd h (Nat.lt_irrefl _))).setC 4 _ (fun h=>absurd h (Nat.lt_irrefl _))).setC 5 _ (fun h=>absurd h (Nat.lt_irrefl _))).setC 6 _ (fun h=>absurd h (Nat.lt_irrefl _)))⟩
theorem wB {x y:ByteArray} (h:x.data.toList=y.data.toList):x=y:=by
 cases x
 cases y
 exact congrArg ByteArray.mk (Array.toList_inj.1 h)
theorem iP (x:ByteArray):(⟨#[]⟩:ByteArray)++x=x:=wB (by rw [ByteArray.data_append];simp)
theorem mX (x:ByteArray):x++(⟨#[]⟩:ByteArray)=x:=wB (by rw [ByteArray.data_append];simp)
theorem aA6 (b:aR):∀ j k,k+j=6→∃ rest,iH b 6=iH b k++rest
 | 0,k,h=>⟨⟨#[]⟩,by rw [show k=6 by omega,mX]⟩
 | j+1,k,h=>by
  obtain ⟨rest,e⟩:=aA6 b j (k+1) aA
  have hl:k<(nU b).length:=by show k<6;omega
  rw [nT b hl] at e
  exact ⟨putB (nU b)[k]++rest,by rw [e,ByteArray.append_assoc]⟩
theorem uE (b:aR):∀ j k,k+j=b.recs.length→∃ rest,bV b=lI b k++rest
 | 0,k,h=>⟨⟨#[]⟩,by rw [show k=b.recs.length by omega,rF,mX]⟩
 | j+1,k,h=>by
  obtain ⟨rest,e⟩:=uE b j (k+1) aA
  rw [oH b aA] at e
  exact ⟨lU b.recs[k]++rest,by rw [e,ByteArray.append_assoc]⟩
theorem sY {b:aR} (h:dH b) {k:Nat} (hk:k<6):cA (bV b) (iH b k).size ((nU b).getD k 0) (iH b (k+1)).size:=by
 obtain ⟨r1,e1⟩:=uE b b.recs.length 0 aA
 have hl:k<(nU b).length:=hk
 obtain ⟨r2,e2⟩:=aA6 b (5 - k) (k+1) aA
 have hi:=aEn h hl
 have e3:bV b=iH b k++putB (nU b)[k]++(r2++r1):=by
  rw [e1,oI,e2,nT b hl]
  simp only [ByteArray.append_assoc]
 have:=cA.of (iH b k) (r2++r1) (n:=(nU b)[k]) aA
 rw [← e3] at this
 rw [List.getD_eq_getElem?_getD,List.getElem?_eq_getElem hl,nT b hl,ByteArray.size_append]
 simpa using this
theorem aV8 {b:aR} {k:Nat} (hk:k≤6):(iH b k).size≤(bV b).size:=by
 obtain ⟨r1,e1⟩:=uE b b.recs.length 0 aA
 obtain ⟨r2,e2⟩:=aA6 b (6 - k) k aA
 rw [e1,oI,e2]
 simp only [ByteArray.size_append]
 omega
theorem aV2 {s:ByteArray} {p n p':Int} (g:cA s p n p') (w:World) (hs:s.size≤9223372036854775807) (hp:p≤s.size) :
  Calls Tryz.prog 170 #[.string s,.int .i64 p] w fun e w'=>e=.returned (.tuple #[.int .i64 n,.int .i64 p',.int .i64 0])∧w'=w:=by
 have:=vI s p w hs aA
 unfold iO at this
 rw [g.e,g.n,g.t] at this
 exact this
theorem cA.cast {s:ByteArray} {p n p' q q':Int} (h:cA s p n p') (h1:p=q) (h2:p'=q'):cA s q n q':=by subst h1;subst h2;exact h
theorem fP.cast {s x:ByteArray} {p m p' q q':Int} (h:fP s p m x p') (h1:p=q) (h2:p'=q'):fP s q m x q':=by subst h1;subst h2;exact h
theorem aJ9 {r:dY} (h:bT r):lU r=putB r.at_++putB r.time++putB 0++cJ r.key++cJ r.value++putB 0:=by
 unfold lU lV hY
 rw [h.headers,h.bare,h.gone,List.foldl_nil,iP]
 show putB r.at_++putB r.time++putB 0++(cJ r.key++cJ r.value++putB 0)=_
 simp only [ByteArray.append_assoc]
theorem aWm (pre rest:ByteArray) {r:dY} (h:bT r):∃ p1 p2 p3 p4 p5:Nat,cA (pre++lU r++rest) pre.size r.at_ p1∧cA (pre++lU r++rest) p1 r.time p2∧cA (pre++lU r++rest) p2 0 p3∧fP (pre++lU r++rest) p3 1000 r.key p4∧fP (pre++lU r++rest) p4 1000 r.value p5∧
  cA (pre++lU r++rest) p5 0 (pre++lU r).size∧pre.size≤(pre++lU r++rest).size∧p1≤(pre++lU r++rest).size∧p2≤(pre++lU r++rest).size∧p3≤(pre++lU r++rest).size∧p4≤(pre++lU r++rest).size∧p5≤(pre++lU r++rest).size:=by
 obtain ⟨q1,q2,q3,_⟩:=fB h.ok
 rw [aJ9 h]
 have e0:=cA.of pre (putB r.time++putB 0++cJ r.key++cJ r.value++putB 0++rest) (n:=r.at_) aA
 have e1:=cA.of (pre++putB r.at_) (putB 0++cJ r.key++cJ r.value++putB 0++rest) (n:=r.time) aA
 have e2:=cA.of (pre++putB r.at_++putB r.time) (cJ r.key++cJ r.value++putB 0++rest) (n:=0) aA
 have e3:=fP.of (pre++putB r.at_++putB r.time++putB 0) (cJ r.value++putB 0++rest) r.key 1000 aA aA
 have e4:=fP.of (pre++putB r.at_++putB r.time++putB 0++cJ r.key) (putB 0++rest) r.value 1000 aA aA
 have e5:=cA.of (pre++putB r.at_++putB r.time++putB 0++cJ r.key++cJ r.value) rest (n:=0) aA
 simp only [ByteArray.append_assoc,ByteArray.size_append] at e0 e1 e2 e3 e4 e5 ⊢
 refine ⟨pre.size+(putB r.at_).size,pre.size+((putB r.at_).size+(putB r.time).size),pre.size+((putB r.at_).size+((putB r.time).size+(putB 0).size)),pre.size+((putB r.at_).size+((putB r.time).size+((putB 0).size+(cJ r.key).size))),pre.size+((putB r.at_).size+((putB r.time).size+((putB 0).size+((cJ r.key).size+(cJ r.value).size)))),?_,?_,?_,?_,?_,?_,?_,?_,?_,?_,?_,?_⟩
 ·exact e0.cast cO cO
 ·exact e1.cast cO cO
 ·exact e2.cast cO cO
 ·exact e3.cast cO cO
 ·exact e4.cast cO cO
 ·exact e5.cast cO cO
 all_goals omega
def bA (r:dY):List Value:=[.int .i64 r.at_,.int .i64 r.time,.bool false,.string r.key,.bool false,.string r.value,.slice none 0 0]
theorem aEh:(Tryz.prog.info? 98).map (fun i=>(i.zero,i.size,i.bytes))=some (some (.agg #[.int .i64 0,.int .i64 0,.bool false,.string ⟨#[]⟩,.bool false,.string ⟨#[]⟩,.slice none 0 0]),7,88):=by kernel_rfl
structure InR (b:aR) (w:World) (k:Nat) (v:Value) (wr:World):Prop where
 blk:wr.heap[w.heap.size]?=some (.cells #[.int .i64 b.base,.int .i64 b.span,.int .i64 b.prod,.int .i64 b.epoch,.int .i64 b.seq,v] 39 (0,0))
 own:wr.ownsRow (w.heap.size+3) 98 7 v k ((b.recs.take k).flatMap bA)
 k0:K0 w wr
 sz:w.heap.size+3≤wr.heap.size
 nil0:k=0→v=.slice none 0 0
theorem aRa {w w':World} {B:Nat} {e:TypeId} {n:Nat} {v:Value} {k:Nat} {xs:List Value} (h:w.ownsRow B e n v k xs) (hk:K0 w w'):w'.ownsRow B e n v k xs:=
 h.kept (row:=none) ⟨hk.os,hk.tape,hk.output,hk.size,fun k hk' _=>hk.block k hk' (fun e=>e)⟩ (by by_cases hv:v.ownBlock=none;exact .inl hv;exact .inr hv)
theorem InR.kept {b:aR} {w wr wr':World} {k:Nat} {v:Value} (h:InR b w k v wr) (hk:K0 wr wr'):InR b w k v wr':=
 ⟨(hk.block _ (aC h.blk) (fun e=>e)).trans h.blk,aRa h.own hk,K0.tr h.k0 hk,Nat.le_trans h.sz hk.size,h.nil0⟩
theorem InR.app {b:aR} {w w2 w5:World} {k g cap:Nat} {v:Value} (h:InR b w k v w2) (hk:k<b.recs.length) (hA:pL w2 (w.heap.size+3) 98 7 v k ((b.recs.take k).flatMap bA++bA b.recs[k]) g cap w5) :
  InR b w (k+1) (.slice (some ⟨g,0,none⟩) (k+1) cap) (w5.setCell ⟨w.heap.size,5,none⟩ (.slice (some ⟨g,0,none⟩) (k+1) cap)):=by
 have hne:v.ownBlock≠some w.heap.size:=fun e=>by have:=(h.own.lt _ e).1;omega
 have hb:=hA.far h.blk hne
 have hg:w.heap.size+3≤g:=by
  rcases hA.at_ with e | e
  ·exact (h.own.lt _ e).1
  ·have:=h.sz;omega
 have hk5:K0 w w5:=h.k0.grown hA.grown fun j e hj=>absurd (h.own.lt _ e).1 aA
 refine ⟨aM hb 5 _,?_,hk5.setC 5 _ (fun e=>absurd e (Nat.lt_irrefl _)),?_,fun e=>absurd e (Nat.succ_ne_zero _)⟩
 ·rw [List.take_succ_eq_append_getElem hk,List.flatMap_append]
  have:=hA.own
  simp only [List.flatMap_cons,List.flatMap_nil,List.append_nil]
  exact this.kept (row:=some w.heap.size) ⟨rfl,rfl,rfl,by simp [World.setCell],fun j _ hj=>Below.heap_setCell _ _ _ _ (fun e=>hj (by simp [e]))⟩ (Or.inr (by simp [Value.ownBlock];omega))
 ·have:=hA.lt
  have h2:(w5.setCell ⟨w.heap.size,5,none⟩ (.slice (some ⟨g,0,none⟩) (k+1) cap)).heap.size=w5.heap.size:=by simp [World.setCell]
  rw [h2]
  omega
theorem aE3 {D:Nat→Prop} {w:World} {r:dY} (h:bT r):aH1 D w (bA r) r:=by
 obtain ⟨_,q2,q3,_⟩:=fB h.ok
 refine ⟨⟨none,0,?_,?_⟩,by unfold maxLen;omega,by unfold maxLen;omega⟩
 ·rw [h.bare,h.gone,h.headers];rfl
 ·rw [h.headers]
  exact ⟨⟨Nat.le_refl _,by unfold maxLen;omega,fun e=>absurd rfl e⟩,fun e=>absurd rfl e⟩
structure dN (D:Nat→Prop) (w:World) (b:aR) (a:Option Addr) (cap:Nat):Prop where
 at_:gB D w b a cap
 rec_:∀ i (h:i<b.recs.length),∃ g off,a=some ⟨g,off,none⟩∧∀ j,j<7→w.cell? ⟨g,off+i*7+j,none⟩=(bA b.recs[i])[j]?
 nil:b.recs=[]→a=none∧cap=0
theorem dN.keep {D D' S:Nat→Prop} {w w':World} {b:aR} {a:Option Addr} {cap:Nat} (h:dN D w b a cap) (hk:aD S w w') (hD:∀ k,D k→¬ S k) (hDD:∀ k,D k→D' k):dN D' w' b a cap:=
 ⟨h.at_.keep hk hD hDD,fun i hi=>by
  obtain ⟨g,off,e,hc⟩:=h.rec_ i hi
  obtain ⟨g',off',e',hg⟩:=zS.addr h.at_ hi
  rw [e] at e'
  cases e'
  refine ⟨g,off,e,fun j hj=>?_⟩
  have h1:=hc j hj
  have h2:(bA b.recs[i])[j]?=some ((bA b.recs[i])[j]'(by simpa [bA] using hj)):=List.getElem?_eq_getElem _
  rw [h2] at h1 ⊢
  exact hk.cell' h1 (hD g hg),h.nil⟩
theorem dN.keep0 {D:Nat→Prop} {w w':World} {b:aR} {a:Option Addr} {cap:Nat} (h:dN D w b a cap) (hk:K0 w w'):dN D w' b a cap:=h.keep hk (fun _ _ e=>e) (fun _ e=>e)
theorem InR.bat {b:aR} {w wr:World} {va:Option Addr} {vc:Nat} (h:InR b w b.recs.length (.slice va b.recs.length vc) wr) (hp:∀ k (h:k<b.recs.length),bT b.recs[k]):dN (fun k=>w.heap.size+3≤k) wr b va vc:=by
 have ho:=h.own
 rw [List.take_length] at ho
 rcases ho.2 with ⟨hv,h0⟩ | ⟨g,cap,cur,hv,hb,hg,hc,hm,_⟩
 ·have hr:b.recs=[]:=List.eq_nil_of_length_eq_zero h0
  simp only [Value.slice.injEq] at hv
  obtain ⟨rfl,_,rfl⟩:=hv
  exact ⟨gB.nil _ _ _ hr,fun i hi=>by rw [hr] at hi;exact absurd hi (Nat.not_lt_zero _),fun _=>⟨rfl,rfl⟩⟩
 ·cases hv
  have hall:∀ i (hi:i<b.recs.length),∀ j,j<7→wr.cell? ⟨g,0+i*7+j,none⟩=(bA b.recs[i])[j]?:=fun i hi j hj=>by
   have hcell:=ho.cellAt (i*7+j) (by
    have:(i+1)*7≤b.recs.length*7:=Nat.mul_le_mul_right _ hi
    omega)
   rw [show 0+i*7+j=i*7+j by omega,hcell]
   exact fR bA 7 (fun _=>rfl) b.recs i j hi hj
  exact ⟨⟨⟨hc,hm,fun _=>⟨g,0,rfl,fun i hi=>⟨bA b.recs[i],rfl,hall i hi,aE3 (hp i hi)⟩⟩⟩,fun _=>⟨g,0,rfl,by omega⟩⟩,fun i hi=>⟨g,0,rfl,hall i hi⟩,fun hr=>by have:=h.nil0 (by rw [hr];rfl);simp at this⟩
theorem aQi (b:aR) (w:World) (ho:dH b) (hp:∀ k (h:k<b.recs.length),bT b.recs[k]) :
  Calls Tryz.prog 158 #[.string (bV b)] w fun e w'=>∃ a cap,e=.returned (.tuple #[.agg #[.int .i64 b.base,.int .i64 b.span,.int .i64 b.prod,.int .i64 b.epoch,.int .i64 b.seq,.slice a b.recs.length cap],.bool true])∧dN (fun k=>w.heap.size≤k) w' b a cap∧K0 w w':=by
 have HS:Hid ((bV b).size≤60000):=ho.size
 have hn0:=sY ho (k:=0) aE
 have hn1:=sY ho (k:=1) aE
 have hn2:=sY ho (k:=2) aE
 have hn3:=sY ho (k:=3) aE
 have hn4:=sY ho (k:=4) aE
 have hn5:=sY ho (k:=5) aE
 have hl:=fun k (h:k≤6)=>aV8 (b:=b) h
 have G:∀ k,k<6→∀ wx,Calls Tryz.prog 170 #[.string (bV b),.int .i64 (iH b k).size] wx fun e w'=>e=.returned (.tuple #[.int .i64 ((nU b).getD k 0),.int .i64 (iH b (k+1)).size,.int .i64 0])∧w'=wx:=fun k hk wx=>
  aV2 (sY ho hk) wx (by have:=HS.out;omega) (by have:=hl k aA;omega)
 have G0:Hid (∀ wx,Calls Tryz.prog 170 #[.string (bV b),.int .i64 0] wx fun e w'=>e=.returned (.tuple #[.int .i64 b.base,.int .i64 (iH b 1).size,.int .i64 0])∧w'=wx):=G 0 aE
 have G1:Hid (∀ wx,Calls Tryz.prog 170 #[.string (bV b),.int .i64 (iH b 1).size] wx fun e w'=>e=.returned (.tuple #[.int .i64 b.span,.int .i64 (iH b 2).size,.int .i64 0])∧w'=wx):=G 1 aE
 have G2:Hid (∀ wx,Calls Tryz.prog 170 #[.string (bV b),.int .i64 (iH b 2).size] wx fun e w'=>e=.returned (.tuple #[.int .i64 b.prod,.int .i64 (iH b 3).size,.int .i64 0])∧w'=wx):=G 2 aE
 have G3:Hid (∀ wx,Calls Tryz.prog 170 #[.string (bV b),.int .i64 (iH b 3).size] wx fun e w'=>e=.returned (.tuple #[.int .i64 b.epoch,.int .i64 (iH b 4).size,.int .i64 0])∧w'=wx):=G 3 aE
 have G4:Hid (∀ wx,Calls Tryz.prog 170 #[.string (bV b),.int .i64 (iH b 4).size] wx fun e w'=>e=.returned (.tuple #[.int .i64 b.seq,.int .i64 (iH b 5).size,.int .i64 0])∧w'=wx):=G 4 aE
 have G5:Hid (∀ wx,Calls Tryz.prog 170 #[.string (bV b),.int .i64 (iH b 5).size] wx fun e w'=>e=.returned (.tuple #[.int .i64 b.recs.length,.int .i64 (iH b 6).size,.int .i64 0])∧w'=wx):=G 5 aE
 clear hn0 hn1 hn2 hn3 hn4 hn5 hl G
 have HO:=Lib.hid ho
 have HP:=Lib.hid hp
 have HW:Hid (vK b.recs.length 0 50=true):=by show _=_;have:=ho.len;simp [vK];omega
 clear ho hp
 go_enter Tryz.func158,Tryz.ntmps158
 go_wp2
 refine wp_loop_rounds 7 ?_
 rw [rounds_succ]
 go_wp2_with fail
 refine (G0.out _).mono ?_
 rintro e w1 ⟨rfl,rfl⟩
 go_wp2_with fail
 rw [rounds_succ]
 go_wp2_with fail
 refine (G1.out _).mono ?_
 rintro e w1 ⟨rfl,rfl⟩
 go_wp2_with fail
 rw [rounds_succ]
 go_wp2_with fail
 refine (G2.out _).mono ?_
 rintro e w1 ⟨rfl,rfl⟩
 go_wp2_with fail
 rw [rounds_succ]
 go_wp2_with fail
 refine (G3.out _).mono ?_
 rintro e w1 ⟨rfl,rfl⟩
 go_wp2_with fail
 rw [rounds_succ]
 go_wp2_with fail
 refine (G4.out _).mono ?_
 rintro e w1 ⟨rfl,rfl⟩
 go_wp2_with fail
 rw [rounds_succ]
 go_wp2_with fail
 refine (G5.out _).mono ?_
 rintro e w1 ⟨rfl,rfl⟩
 go_wp2_with fail
 rw [rounds_succ]
 go_wp2_with fail
 refine (qH _ _ _ _).mono ?_
 rintro e w1 ⟨rfl,rfl⟩
 rw [HW.out]
 go_wp2_with fail
 have HI0:Hid (InR b w 0 (.slice none 0 0) (((w.alloc (.cells #[.int .i64 b.base,.int .i64 b.span,.int .i64 b.prod,.int .i64 b.epoch,.int .i64 b.seq,.slice none 0 0] 39)).alloc (.cells #[.int .i64 b.recs.length] 3)).alloc (.cells #[.pointer (some ⟨w.heap.size,0,none⟩),.pointer (some ⟨w.heap.size,1,none⟩),.pointer (some ⟨w.heap.size,2,none⟩),.pointer (some ⟨w.heap.size,3,none⟩),.pointer (some ⟨w.heap.size,4,none⟩),.pointer (some ⟨w.heap.size+1,0,none⟩)] 215))):=
  ⟨aL (aL (aI w _ _ rfl) _) _,by simpa using World.ownsRow_nil _ _ _ _,(((aD.refl _ _).alloc _).alloc _).alloc _,by simp,fun _=>rfl⟩
 generalize ((w.alloc (.cells #[.int .i64 b.base,.int .i64 b.span,.int .i64 b.prod,.int .i64 b.epoch,.int .i64 b.seq,.slice none 0 0] 39)).alloc (.cells #[.int .i64 b.recs.length] 3)).alloc (.cells #[.pointer (some ⟨w.heap.size,0,none⟩),.pointer (some ⟨w.heap.size,1,none⟩),.pointer (some ⟨w.heap.size,2,none⟩),.pointer (some ⟨w.heap.size,3,none⟩),.pointer (some ⟨w.heap.size,4,none⟩),.pointer (some ⟨w.heap.size+1,0,none⟩)] 215)=W0 at HI0 ⊢
 go_loopw [41,4] (fun i v wr=>∃ k:Nat,i=.int .i64 k∧k≤b.recs.length∧v=.int .i64 (lI b k).size∧∃ va vc,InR b w k (.slice va k vc) wr) (fun i _ _=>b.recs.length - (intOf i).toNat)
 case atStart=>exact ⟨0,rfl,by omega,by rw [oI],none,0,HI0.out⟩
 case round=>
  obtain ⟨k,rfl,hk,rfl,va,vc,hI⟩:=hrel
  by_cases hlt:k<b.recs.length
  ·have HIN:=Lib.hid hI
   have HL50:Hid (k≤50):=by have:=HO.out.len;show _≤_;omega
   have HDC:Hid (Calls Tryz.prog 231 #[.string (bV b),.int .i64 (lI b k).size] wr fun e w'=>e=.returned (.tuple #[.agg #[.int .i64 b.recs[k].at_,.int .i64 b.recs[k].time,.bool false,.string b.recs[k].key,.bool false,.string b.recs[k].value,.slice none 0 0],.int .i64 (lI b (k+1)).size,.int .i64 0])∧K0 wr w'):=by
    obtain ⟨rest,e⟩:=uE b (b.recs.length - (k+1)) (k+1) aA
    rw [oH b hlt] at e ⊢
    obtain ⟨p1,p2,p3,p4,p5,g0,g1,g2,g3,g4,g5,h0,h1,h2,h3,h4,h5⟩:=aWm (lI b k) rest (HP.out k hlt)
    rw [← e] at g0 g1 g2 g3 g4 g5 h0 h1 h2 h3 h4 h5
    exact aB9 (bV b) b.recs[k] _ _ _ _ _ _ _ wr (by have:=HS.out;omega) ⟨by omega,by omega,by omega,by omega,by omega,by omega⟩ g0 g1 g2 g3 g4 g5 (HP.out k hlt)
   have HAP:Hid (∀ w2 w5 g cap,InR b w k (.slice va k vc) w2→pL w2 (w.heap.size+3) 98 7 (.slice va k vc) k ((b.recs.take k).flatMap bA++bA b.recs[k]) g cap w5→InR b w (k+1) (.slice (some ⟨g,0,none⟩) (k+1) cap) (w5.setCell ⟨w.heap.size,5,none⟩ (.slice (some ⟨g,0,none⟩) (k+1) cap))):=fun w2 w5 g cap h1 h2=>h1.app hlt h2
   have i0:(0:Int)≤k:=aA
   have i1:(k:Int)<b.recs.length:=aA
   have i2:(b.recs.length:Int)≤9223372036854775807:=by have:=HO.out.len;omega
   unfold bA at HAP
   clear hI
   generalize b.recs[k]=r at HDC HAP
   go_wp2_with fail
   refine HDC.out.mono ?_
   rintro e w3 ⟨rfl,k3⟩
   have HI2:Hid (∀ o1 o2,InR b w k (.slice va k vc) ((w3.alloc o1).alloc o2)):=fun o1 o2=>(HIN.out.kept k3).kept (((aD.refl _ _).alloc _).alloc _)
   have hi3:=HIN.out.kept k3
   have d5:w3.cell? ⟨w.heap.size,5,none⟩=some (.slice va k vc):=aB hi3.blk 5
   have f5:=aH hi3.blk 5
   have hlA:=aC hi3.blk
   clear hi3 k3 HDC HIN HI0
   go_wp2_with (at_builtin;refine bW (v:=.slice va k vc) rfl rfl Tryz.underlying37 aEh rfl aE rfl (HI2.out _ _).own rfl (aI _ _ _ aK) rfl rfl ⟨by have:=HL50.out;omega,by decide⟩ (by have:=(HI2.out (.map #[] 0) (.map #[] 0)).sz;simp at this ⊢;omega) ?_;intro g cap w5 hA;have hbf:=hA.far (HI2.out _ _).blk (fun e=>by have:=((HI2.out (.map #[] 0) (.map #[] 0)).own.lt _ e).1;omega);have e5:w5.cell? ⟨w.heap.size,5,none⟩=some (.slice va k vc):=aB hbf 5;have g5:=aH hbf 5;have hlB:=aC hbf;have HFIN:=Lib.hid (HAP.out _ _ _ _ (HI2.out _ _) hA);clear hA hbf)
   clear HAP HI2 d5 f5 hlA
   go_wp2
   go_roundw
   case rel=>exact ⟨k+1,by go_num,by omega,rfl,_,_,HFIN.out⟩
   case measure=>simp [intOf];omega
  ·obtain rfl:k=b.recs.length:=by omega
   rw [rF]
   have HIN:=Lib.hid hI
   clear hI
   have a0:wr.cell? ⟨w.heap.size,0,none⟩=some (.int .i64 b.base):=aB HIN.out.blk 0
   have a1:wr.cell? ⟨w.heap.size,1,none⟩=some (.int .i64 b.span):=aB HIN.out.blk 1
   have a2:wr.cell? ⟨w.heap.size,2,none⟩=some (.int .i64 b.prod):=aB HIN.out.blk 2
   have a3:wr.cell? ⟨w.heap.size,3,none⟩=some (.int .i64 b.epoch):=aB HIN.out.blk 3
   have a4:wr.cell? ⟨w.heap.size,4,none⟩=some (.int .i64 b.seq):=aB HIN.out.blk 4
   have a5:wr.cell? ⟨w.heap.size,5,none⟩=some (.slice va b.recs.length vc):=aB HIN.out.blk 5
   have hl:=aC HIN.out.blk
   have HBAT:Hid (∀ w',K0 wr w'→dN (fun k=>w.heap.size+3≤k) w' b va vc):=fun w' k=>(HIN.out.bat HP.out).keep0 k
   have z0:=aH HIN.out.blk 0
   have z1:=aH HIN.out.blk 1
   have z2:=aH HIN.out.blk 2
   have z3:=aH HIN.out.blk 3
   have z4:=aH HIN.out.blk 4
   have z5:=aH HIN.out.blk 5
   have HCELL:Hid (∀ w',K0 wr w'→w'.cell? ⟨w.heap.size,0,none⟩=some (.int .i64 b.base)∧w'.cell? ⟨w.heap.size,1,none⟩=some (.int .i64 b.span)∧w'.cell? ⟨w.heap.size,2,none⟩=some (.int .i64 b.prod)∧w'.cell? ⟨w.heap.size,3,none⟩=some (.int .i64 b.epoch)∧w'.cell? ⟨w.heap.size,4,none⟩=some (.int .i64 b.seq)∧w'.cell? ⟨w.heap.size,5,none⟩=some (.slice va b.recs.length vc)∧w.heap.size<w'.heap.size∧
     w'.frozen? ⟨w.heap.size,0,none⟩=false∧w'.frozen? ⟨w.heap.size,1,none⟩=false∧w'.frozen? ⟨w.heap.size,2,none⟩=false∧w'.frozen? ⟨w.heap.size,3,none⟩=false∧w'.frozen? ⟨w.heap.size,4,none⟩=false∧w'.frozen? ⟨w.heap.size,5,none⟩=false):=fun w' k=>by
    have hb:=(k.block _ (aC HIN.out.blk) (fun e=>e)).trans HIN.out.blk
    exact ⟨aB hb 0,aB hb 1,aB hb 2,aB hb 3,aB hb 4,aB hb 5,aC hb,aH hb 0,aH hb 1,aH hb 2,aH hb 3,aH hb 4,aH hb 5⟩
   have HF:Hid (∀ w',K0 wr w'→∀ wf,aD (fun k=>k=w.heap.size) w' wf→dN (fun k=>w.heap.size≤k) wf b va vc∧K0 w wf):=fun w' k wf kf=>
    ⟨(HBAT.out w' k).keep kf (fun j hj e=>by omega) (fun j hj=>by omega),(K0.tr HIN.out.k0 k).trans kf (fun j hj e=>by omega)⟩
   have kd:K0 wr wr:=aD.refl _ _
   have kd2:K0 wr wr.drew:=(aD.refl _ _).drew
   go_wp2_with fail
   go_region_with (go_at_call 212;refine (rE _ b va vc _ (HBAT.out _ aG).at_ HO.out).mono ?_;rintro e w' ⟨rfl,hk⟩;have kd3:=K0.tr (by assumption:K0 wr _) hk;obtain ⟨y0,y1,y2,y3,y4,y5,y6,y7,y8,y9,y10,y11,y12⟩:=HCELL.out _ kd3)
   all_goals
    go_wp2
    (try simp only [Exit.inBlock,Exit.then])
    refine bodyPost_ret (v:=.tuple #[.agg #[.int .i64 b.base,.int .i64 b.span,.int .i64 b.prod,.int .i64 b.epoch,.int .i64 b.seq,.slice va b.recs.length vc],.bool true]) ?_ rfl ?_
    ·rw [results_cell_tmp rfl]
     go_simp
    ·have hfin:=fun wf kf=>HF.out _ kd3 wf kf
     refine ⟨va,vc,rfl,hfin _ ?_⟩
     repeat (with_reducible first | refine aD.setC ?_ _ _ (fun _=>rfl) | apply aD.drew | exact aD.refl _ _)
theorem aF4 (s:ByteArray) (a:Int) (w:World) (hs:s.size≤9223372036854775807) (ha:a≤9223372036854775807) (h:rdE s a≠0) :
  Calls Tryz.prog 94 #[.string s,.int .i64 a] w fun e w'=>e=.returned (.tuple #[.agg #[.int .i64 0,.int .i64 0,.int .i64 0,.int .i64 0,.int .i64 0,.slice none 0 0],.int .i64 0,.int .i64 (rdE s a)])∧K0 w w':=by
 have HR:Hid (∀ wx,Calls Tryz.prog 56 #[.string s,.int .i64 a,.int .i64 4] wx fun e w'=>e=.returned (.tuple #[.int .i64 0,.int .i64 0,.int .i64 (rdE s a)])∧K0 wx w'):=fun wx=>aRp s a wx hs ha h
 have he:(rdE s a != 0)=true:=by simpa using h
 generalize rdE s a=x at HR he
 have hb0:=aI w (.cells #[.int .i64 0,.int .i64 0,.int .i64 0,.int .i64 0,.int .i64 0,.slice none 0 0] 39) _ rfl
 have HB0:=Lib.hid hb0
 clear hb0 h
 go_enter Tryz.func94,Tryz.ntmps94
 go_wp2_with fail
 refine (HR.out _).mono ?_
 rintro e w1 ⟨rfl,k1⟩
 have hb1:=(k1.block _ (aC HB0.out) (fun e=>e)).trans HB0.out
 have a0:w1.cell? ⟨w.heap.size,0,none⟩=some (.int .i64 0):=aB hb1 0
 have a1:w1.cell? ⟨w.heap.size,1,none⟩=some (.int .i64 0):=aB hb1 1
 have a2:w1.cell? ⟨w.heap.size,2,none⟩=some (.int .i64 0):=aB hb1 2
 have a3:w1.cell? ⟨w.heap.size,3,none⟩=some (.int .i64 0):=aB hb1 3
 have a4:w1.cell? ⟨w.heap.size,4,none⟩=some (.int .i64 0):=aB hb1 4
 have a5:w1.cell? ⟨w.heap.size,5,none⟩=some (.slice none 0 0):=aB hb1 5
 have z0:=aH hb1 0
 have z1:=aH hb1 1
 have z2:=aH hb1 2
 have z3:=aH hb1 3
 have z4:=aH hb1 4
 have z5:=aH hb1 5
 have hl:=aC hb1
 have HK:=Lib.hid (K0.tr ((aD.refl (fun _=>False) w).alloc _) k1)
 clear k1 hb1
 go_wp2
 (try simp only [Exit.inBlock,Exit.then])
 refine bodyPost_ret (v:=.tuple #[.agg #[.int .i64 0,.int .i64 0,.int .i64 0,.int .i64 0,.int .i64 0,.slice none 0 0],.int .i64 0,.int .i64 x]) ?_ rfl ?_
 ·rw [nF rfl]
  go_simp
 ·refine ⟨rfl,?_⟩
  have hf:∀ wf,aD (fun k=>k=w.heap.size) w1 wf→K0 w wf:=fun wf kf=>HK.out.trans kf (fun j hj e=>by omega)
  refine hf _ ?_
  repeat (with_reducible first | refine aD.setC ?_ _ _ (fun _=>rfl) | apply aD.drew | exact aD.refl _ _)
theorem aB2 (pre rest:ByteArray) {b:aR} (ho:dH b) :
  rd4 (pre++aZ b++rest) pre.size=(bV b).size∧rd4 (pre++aZ b++rest) (pre.size+4)=crc (bV b)∧(pre++aZ b++rest).extract (pre.size+8) (pre.size+8+(bV b).size)=bV b∧(pre++aZ b++rest).size=pre.size+8+(bV b).size+rest.size:=by
 have hs:=ho.size
 have hc:=aJf (bV b)
 have e1:pre++aZ b++rest=pre++(dR (bV b).size++(dR (crc (bV b))++bV b++rest)):=iJ
 have e2:pre++aZ b++rest=(pre++dR (bV b).size)++(dR (crc (bV b))++(bV b++rest)):=iJ
 have e3:pre++aZ b++rest=(pre++dR (bV b).size++dR (crc (bV b)))++bV b++rest:=iJ
 refine ⟨?_,?_,?_,?_⟩
 ·rw [e1];exact aE5 _ _ _ aA
 ·rw [e2]
  have:=aE5 (pre++dR (bV b).size) (bV b++rest) (crc (bV b)) hc
  rwa [ByteArray.size_append,dB] at this
 ·rw [e3]
  have:=rH (pre++dR (bV b).size++dR (crc (bV b))) (bV b) rest
  rwa [ByteArray.size_append,ByteArray.size_append,dB,dB,show pre.size+4+4=pre.size+8 by omega] at this
 ·rw [e3]
  simp only [ByteArray.size_append,dB]
theorem aAb (pre rest:ByteArray) (b:aR) (w:World) (ho:dH b) (hp:∀ k (h:k<b.recs.length),bT b.recs[k]) (hst:bF w) (hs:(pre++aZ b++rest).size≤9223372036854775807) :
  Calls Tryz.prog 94 #[.string (pre++aZ b++rest),.int .i64 pre.size] w fun e w'=>∃ a cap,e=.returned (.tuple #[.agg #[.int .i64 b.base,.int .i64 b.span,.int .i64 b.prod,.int .i64 b.epoch,.int .i64 b.seq,.slice a b.recs.length cap],.int .i64 (pre++aZ b).size,.int .i64 0])∧dN (fun k=>w.heap.size≤k) w' b a cap∧K0 w w':=by
 obtain ⟨p1,p2,p3,p4⟩:=aB2 pre rest ho
 have HE:Hid (((pre++aZ b).size:Int)=pre.size+8+(bV b).size):=by show _=_;rw [ByteArray.size_append,dX];omega
 have hbs:=ho.size
 generalize pre++aZ b++rest=s at hs p1 p2 p3 p4
 have R1:Hid (∀ wx,Calls Tryz.prog 56 #[.string s,.int .i64 pre.size,.int .i64 4] wx fun e w'=>e=.returned (.tuple #[.int .i64 (bV b).size,.int .i64 ((pre.size:Int)+4),.int .i64 0])∧K0 wx w'):=fun wx=>by
  have:=aE7 s pre.size wx hs aA
  rwa [p1] at this
 have R2:Hid (∀ wx,Calls Tryz.prog 56 #[.string s,.int .i64 ((pre.size:Int)+4),.int .i64 4] wx fun e w'=>e=.returned (.tuple #[.int .i64 (crc (bV b)),.int .i64 ((pre.size:Int)+8),.int .i64 0])∧K0 wx w'):=fun wx=>by
  have:=aE7 s (pre.size+4) wx hs aA
  rw [p2] at this
  have e1:((pre.size+4:Nat):Int)=(pre.size:Int)+4:=aA
  have e2:((pre.size+4:Nat):Int)+4=(pre.size:Int)+8:=aA
  rwa [e2,e1] at this
 have RS:Hid (∀ wx,K0 w wx→Calls Tryz.prog 153 #[.string (bV b)] wx fun e w'=>e=.returned (.int .u32 (crc (bV b):Nat))∧K0 wx w'):=fun wx k=>aL4 _ wx (hst.keep0 k) aA
 have RI:Hid (∀ wx,Calls Tryz.prog 158 #[.string (bV b)] wx fun e w'=>∃ a cap,e=.returned (.tuple #[.agg #[.int .i64 b.base,.int .i64 b.span,.int .i64 b.prod,.int .i64 b.epoch,.int .i64 b.seq,.slice a b.recs.length cap],.bool true])∧dN (fun k=>wx.heap.size≤k) w' b a cap∧K0 wx w'):=fun wx=>aQi b wx ho hp
 have hcr:=aJf (bV b)
 have HBN:=Lib.hid (aI w (.cells #[.int .i64 0,.int .i64 0,.int .i64 0,.int .i64 0,.int .i64 0,.slice none 0 0] 39) _ rfl)
 clear p1 p2 hst ho hp
 generalize bV b=B at R1 R2 RS RI p3 p4 hbs hcr HE
 have i1:(pre.size:Int)+8+B.size≤s.size:=aA
 have i2:(B.size:Int)≤60000:=aA
 have i3:(crc B:Int)≤4294967295:=aA
 clear p4 hbs hcr
 go_enter Tryz.func94,Tryz.ntmps94
 go_wp2_with fail
 refine (R1.out _).mono ?_
 rintro e w1 ⟨rfl,k1⟩
 have HK1:=Lib.hid k1
 clear k1
 go_wp2_with fail
 refine (R2.out _).mono ?_
 rintro e w2 ⟨rfl,k2⟩
 have HK2:=Lib.hid (K0.tr HK1.out k2)
 clear k2
 go_wp2_with fail
 refine (RS.out _ (K0.tr ((aD.refl _ _).alloc _) HK2.out)).mono ?_
 rintro e w3 ⟨rfl,k3⟩
 have HK3:=Lib.hid (K0.tr HK2.out k3)
 clear k3
 go_wp2_with fail
 refine (RI.out _).mono ?_
 rintro e w4 ⟨a,cap,rfl,hB4,k4⟩
 have HK4:=Lib.hid (K0.tr HK3.out k4)
 have hz:=k4.size
 have hz3:=HK3.out.size
 have HB4:Hid (dN (fun k=>w.heap.size+1≤k) w4 b a cap):=hB4.keep (S:=fun _=>False) (aD.refl _ _) (fun _ _ e=>e) (fun k hk=>by rw [World.size_alloc] at hz3;omega)
 have hbn:=(HK4.out.block _ (aC HBN.out) (fun e=>e)).trans HBN.out
 have a0:w4.cell? ⟨w.heap.size,0,none⟩=some (.int .i64 0):=aB hbn 0
 have a1:w4.cell? ⟨w.heap.size,1,none⟩=some (.int .i64 0):=aB hbn 1
 have a2:w4.cell? ⟨w.heap.size,2,none⟩=some (.int .i64 0):=aB hbn 2
 have a3:w4.cell? ⟨w.heap.size,3,none⟩=some (.int .i64 0):=aB hbn 3
 have a4:w4.cell? ⟨w.heap.size,4,none⟩=some (.int .i64 0):=aB hbn 4
 have a5:w4.cell? ⟨w.heap.size,5,none⟩=some (.slice none 0 0):=aB hbn 5
 have z0:=aH hbn 0
 have z1:=aH hbn 1
 have z2:=aH hbn 2
 have z3:=aH hbn 3
 have z4:=aH hbn 4
 have z5:=aH hbn 5
 have hl:=aC hbn
 have HF:Hid (∀ wf,aD (fun k=>k=w.heap.size) w4 wf→dN (fun k=>w.heap.size≤k) wf b a cap∧K0 w wf):=fun wf kf=>
  ⟨HB4.out.keep kf (fun j hj e=>by omega) (fun j hj=>by omega),(K0.tr ((aD.refl (fun _=>False) w).alloc _) HK4.out).trans kf (fun j hj e=>by omega)⟩
 clear hB4 k4 hz hz3 hbn
 go_wp2
 (try simp only [Exit.inBlock,Exit.then])
 refine bodyPost_ret (v:=.tuple #[.agg #[.int .i64 b.base,.int .i64 b.span,.int .i64 b.prod,.int .i64 b.epoch,.int .i64 b.seq,.slice a b.recs.length cap],.int .i64 ((pre.size:Int)+8+B.size),.int .i64 0]) ?_ rfl ?_
 ·rw [nF rfl]
  go_simp
 ·refine ⟨a,cap,by rw [HE.out],HF.out _ ?_⟩
  repeat (with_reducible first | refine aD.setC ?_ _ _ (fun _=>rfl) | apply aD.drew | apply aD.alloc | exact aD.refl _ _)
def eW (w:World) (cb:Nat) (s:ByteArray) (at_:Int) (rd bad:Bool):Prop:=w.heap[cb]?=some (.cells #[.string s,.int .i64 at_,.bool rd,.bool bad] 212 (0,0))
theorem eW.keep {w w':World} {cb:Nat} {s:ByteArray} {at_:Int} {rd bad:Bool} {S:Nat→Prop} (h:eW w cb s at_ rd bad) (hk:aD S w w') (hb:¬ S cb):eW w' cb s at_ rd bad:=(hk.block cb (aC h) hb).trans h
structure aXt (w:World) (cb:Nat) (s:ByteArray) (at_:Int) (rd bad:Bool):Prop where
 c0:w.cell? ⟨cb,0,none⟩=some (.string s)
 c1:w.cell? ⟨cb,1,none⟩=some (.int .i64 at_)
 c2:w.cell? ⟨cb,2,none⟩=some (.bool rd)
 c3:w.cell? ⟨cb,3,none⟩=some (.bool bad)
 f0:w.frozen? ⟨cb,0,none⟩=false
 f1:w.frozen? ⟨cb,1,none⟩=false
 f3:w.frozen? ⟨cb,3,none⟩=false
 lt:cb<w.heap.size
theorem eW.all {w:World} {cb:Nat} {s:ByteArray} {at_:Int} {rd bad:Bool} (h:eW w cb s at_ rd bad):aXt w cb s at_ rd bad:=
 ⟨aB h 0,aB h 1,aB h 2,aB h 3,aH h 0,aH h 1,aH h 3,aC h⟩
theorem eW.set0 {w:World} {cb:Nat} {s:ByteArray} {at_:Int} {rd bad:Bool} (h:eW w cb s at_ rd bad) (t:ByteArray):eW (w.setCell ⟨cb,0,none⟩ (.string t)) cb t at_ rd bad:=aM h 0 _
theorem eW.set1 {w:World} {cb:Nat} {s:ByteArray} {at_:Int} {rd bad:Bool} (h:eW w cb s at_ rd bad) (x:Int):eW (w.setCell ⟨cb,1,none⟩ (.int .i64 x)) cb s x rd bad:=aM h 1 _
theorem eW.set3 {w:World} {cb:Nat} {s:ByteArray} {at_:Int} {rd bad:Bool} (h:eW w cb s at_ rd bad) (x:Bool):eW (w.setCell ⟨cb,3,none⟩ (.bool x)) cb s at_ rd x:=aM h 3 _
def aFv (w:World) (cb:Nat) (s:ByteArray) (at_:Int) (rd bad:Bool) (e:Ending) (w':World):Prop:=e=.returned (.tuple #[])∧eW w' cb s at_ rd bad∧aD (fun k=>k=cb) w w'
theorem jA {w:World} {cb:Nat} {s:ByteArray} {at_:Int} {rd bad:Bool} (h:eW w cb s at_ rd bad) (is:Bool) :
  Calls Tryz.prog 171 #[.pointer (some ⟨cb,0,none⟩),.bool is] w (aFv w cb s at_ rd (bad||!is)):=by
 obtain ⟨c0,c1,c2,c3,f0,f1,f3,lt⟩:=h.all
 have HH:=Lib.hid h
 clear h
 cases bad <;> cases is
 all_goals
  go_enter Tryz.func171,Tryz.ntmps171
  go_wp2
  first | (go_region;all_goals go_wp2) | (go_quiet (fail);go_wp2) | skip
  all_goals
   go_end0
   first
    | exact ⟨rfl,HH.out.set3 _,(aD.refl _ _).setC 3 _ (fun _=>rfl)⟩
    | exact ⟨rfl,(HH.out.set3 _:_),((aD.refl (fun k=>k=cb) w).drew.setC 3 _ (fun _=>rfl))⟩
    | exact ⟨rfl,(HH.out.set3 _:_),((aD.refl (fun k=>k=cb) w).setC 3 _ (fun _=>rfl)).drew⟩
end Go.Proofs.YteapahcklcldkaaGreatDoor
