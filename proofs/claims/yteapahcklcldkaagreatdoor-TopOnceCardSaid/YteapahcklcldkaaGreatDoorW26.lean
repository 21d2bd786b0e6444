/-
  The statement is proved: all that it reaches, in parts.
-/
import Derived.Test.YteapahcklcldkaaGreatDoorW25
set_option maxRecDepth 100000
set_option maxHeartbeats 16000000
namespace Go.Proofs.YteapahcklcldkaaGreatDoor
open Go.RowKit Fx
def jR:Nat→Nat→List Nat
 | 0,_=>[]
 | k+1,n=>jR k (n / 10)++[48+n % 10]
theorem jL (k n:Nat):(jR k n).length=k:=by
 induction k generalizing n with
 | zero=>rfl
 | succ k ih=>simp [jR,ih]
def bB (pre:ByteArray) (n:Nat):ByteArray:=pre++⟨#[45]⟩++bP (jR 13 n)
theorem kG (pre:ByteArray) (n:Nat):(bB pre n).size=pre.size+14:=by
 unfold bB
 rw [ByteArray.size_append,ByteArray.size_append,dC,jL]
 show pre.size+1+13=_
 omega
theorem aM1 {w:World} {g cap n:Nat} (l:List Nat) (hl:l.length=n) (h:∀ j (hj:j<l.length),w.cell? ⟨g,j,none⟩=some (.int .u8 (l[j]:Int))) :
  (convert 230 9 (.slice (some ⟨g,0,none⟩) n cap)).run Tryz.prog w=.ok (.string (bP l)) w:=by
 subst hl
 refine run_convert_bytes_arg w 230 5 Tryz.underlying230 Tryz.underlying5 g 0 l.length cap (l.map fun b:Nat=>(b:Int)) aK (fun j hj=>?_) 9 Tryz.underlying9
 rw [Nat.zero_add]
 have hj':j<l.length:=(by simpa using hj)
 rw [h j hj']
 simp [hj']
theorem aCu (pre:ByteArray) (lim ev:Int) (n:Nat) (w:World) (h:pre.size≤20) (hn:n≤1000000000) :
  Calls Tryz.prog 216 #[.agg #[.string pre,.int .i64 lim,.int .i64 ev],.int .i64 n] w fun e w'=>e=.returned (.string (bB pre n))∧K0 w w':=by
 obtain ⟨q1,hq1⟩:∃ q,q=n / 10:=⟨_,rfl⟩
 obtain ⟨d0,hd0⟩:∃ d,d=n % 10:=⟨_,rfl⟩
 obtain ⟨q2,hq2⟩:∃ q,q=q1 / 10:=⟨_,rfl⟩
 obtain ⟨d1,hd1⟩:∃ d,d=q1 % 10:=⟨_,rfl⟩
 obtain ⟨q3,hq3⟩:∃ q,q=q2 / 10:=⟨_,rfl⟩
 obtain ⟨d2,hd2⟩:∃ d,d=q2 % 10:=⟨_,rfl⟩
 obtain ⟨q4,hq4⟩:∃ q,q=q3 / 10:=⟨_,rfl⟩
 obtain ⟨d3,hd3⟩:∃ d,d=q3 % 10:=⟨_,rfl⟩
 obtain ⟨q5,hq5⟩:∃ q,q=q4 / 10:=⟨_,rfl⟩
 obtain ⟨d4,hd4⟩:∃ d,d=q4 % 10:=⟨_,rfl⟩
 obtain ⟨q6,hq6⟩:∃ q,q=q5 / 10:=⟨_,rfl⟩
 obtain ⟨d5,hd5⟩:∃ d,d=q5 % 10:=⟨_,rfl⟩
 obtain ⟨q7,hq7⟩:∃ q,q=q6 / 10:=⟨_,rfl⟩
 obtain ⟨d6,hd6⟩:∃ d,d=q6 % 10:=⟨_,rfl⟩
 obtain ⟨q8,hq8⟩:∃ q,q=q7 / 10:=⟨_,rfl⟩
 obtain ⟨d7,hd7⟩:∃ d,d=q7 % 10:=⟨_,rfl⟩
 obtain ⟨q9,hq9⟩:∃ q,q=q8 / 10:=⟨_,rfl⟩
 obtain ⟨d8,hd8⟩:∃ d,d=q8 % 10:=⟨_,rfl⟩
 obtain ⟨q10,hq10⟩:∃ q,q=q9 / 10:=⟨_,rfl⟩
 obtain ⟨d9,hd9⟩:∃ d,d=q9 % 10:=⟨_,rfl⟩
 obtain ⟨q11,hq11⟩:∃ q,q=q10 / 10:=⟨_,rfl⟩
 obtain ⟨d10,hd10⟩:∃ d,d=q10 % 10:=⟨_,rfl⟩
 obtain ⟨q12,hq12⟩:∃ q,q=q11 / 10:=⟨_,rfl⟩
 obtain ⟨d11,hd11⟩:∃ d,d=q11 % 10:=⟨_,rfl⟩
 obtain ⟨q13,hq13⟩:∃ q,q=q12 / 10:=⟨_,rfl⟩
 obtain ⟨d12,hd12⟩:∃ d,d=q12 % 10:=⟨_,rfl⟩
 have HD:Hid (jR 13 n=[48+d12,48+d11,48+d10,48+d9,48+d8,48+d7,48+d6,48+d5,48+d4,48+d3,48+d2,48+d1,48+d0]):=by
  show _=_
  simp only [jR,hd0,hd1,hd2,hd3,hd4,hd5,hd6,hd7,hd8,hd9,hd10,hd11,hd12,hq1,hq2,hq3,hq4,hq5,hq6,hq7,hq8,hq9,hq10,hq11,hq12,List.nil_append,List.cons_append]
 have r0:(n:Int) % 10=d0:=aA
 have v0:(n:Int) / 10=q1:=aA
 have b0:d0≤9:=aA
 have u0:IntKind.u8.wrap (48+(d0:Int))=48+d0:=IntWalk.u8_in _ aA
 have z1:q1≤1000000000:=aA
 have r1:(q1:Int) % 10=d1:=aA
 have v1:(q1:Int) / 10=q2:=aA
 have b1:d1≤9:=aA
 have u1:IntKind.u8.wrap (48+(d1:Int))=48+d1:=IntWalk.u8_in _ aA
 have z2:q2≤1000000000:=aA
 have r2:(q2:Int) % 10=d2:=aA
 have v2:(q2:Int) / 10=q3:=aA
 have b2:d2≤9:=aA
 have u2:IntKind.u8.wrap (48+(d2:Int))=48+d2:=IntWalk.u8_in _ aA
 have z3:q3≤1000000000:=aA
 have r3:(q3:Int) % 10=d3:=aA
 have v3:(q3:Int) / 10=q4:=aA
 have b3:d3≤9:=aA
 have u3:IntKind.u8.wrap (48+(d3:Int))=48+d3:=IntWalk.u8_in _ aA
 have z4:q4≤1000000000:=aA
 have r4:(q4:Int) % 10=d4:=aA
 have v4:(q4:Int) / 10=q5:=aA
 have b4:d4≤9:=aA
 have u4:IntKind.u8.wrap (48+(d4:Int))=48+d4:=IntWalk.u8_in _ aA
 have z5:q5≤1000000000:=aA
 have r5:(q5:Int) % 10=d5:=aA
 have v5:(q5:Int) / 10=q6:=aA
 have b5:d5≤9:=aA
 have u5:IntKind.u8.wrap (48+(d5:Int))=48+d5:=IntWalk.u8_in _ aA
 have z6:q6≤1000000000:=aA
 have r6:(q6:Int) % 10=d6:=aA
 have v6:(q6:Int) / 10=q7:=aA
 have b6:d6≤9:=aA
 have u6:IntKind.u8.wrap (48+(d6:Int))=48+d6:=IntWalk.u8_in _ aA
 have z7:q7≤1000000000:=aA
 have r7:(q7:Int) % 10=d7:=aA
 have v7:(q7:Int) / 10=q8:=aA
 have b7:d7≤9:=aA
 have u7:IntKind.u8.wrap (48+(d7:Int))=48+d7:=IntWalk.u8_in _ aA
 have z8:q8≤1000000000:=aA
 have r8:(q8:Int) % 10=d8:=aA
 have v8:(q8:Int) / 10=q9:=aA
 have b8:d8≤9:=aA
 have u8:IntKind.u8.wrap (48+(d8:Int))=48+d8:=IntWalk.u8_in _ aA
 have z9:q9≤1000000000:=aA
 have r9:(q9:Int) % 10=d9:=aA
 have v9:(q9:Int) / 10=q10:=aA
 have b9:d9≤9:=aA
 have u9:IntKind.u8.wrap (48+(d9:Int))=48+d9:=IntWalk.u8_in _ aA
 have z10:q10≤1000000000:=aA
 have r10:(q10:Int) % 10=d10:=aA
 have v10:(q10:Int) / 10=q11:=aA
 have b10:d10≤9:=aA
 have u10:IntKind.u8.wrap (48+(d10:Int))=48+d10:=IntWalk.u8_in _ aA
 have z11:q11≤1000000000:=aA
 have r11:(q11:Int) % 10=d11:=aA
 have v11:(q11:Int) / 10=q12:=aA
 have b11:d11≤9:=aA
 have u11:IntKind.u8.wrap (48+(d11:Int))=48+d11:=IntWalk.u8_in _ aA
 have z12:q12≤1000000000:=aA
 have r12:(q12:Int) % 10=d12:=aA
 have v12:(q12:Int) / 10=q13:=aA
 have b12:d12≤9:=aA
 have u12:IntKind.u8.wrap (48+(d12:Int))=48+d12:=IntWalk.u8_in _ aA
 have z13:q13≤1000000000:=aA
 clear hq1 hd0 hq2 hd1 hq3 hd2 hq4 hd3 hq5 hd4 hq6 hd5 hq7 hd6 hq8 hd7 hq9 hd8 hq10 hd9 hq11 hd10 hq12 hd11 hq13 hd12
 have HN:=Lib.hid h
 go_enter Tryz.func216,Tryz.ntmps216
 go_wp2_with fail
 refine wp_loop_rounds 14 ?_
 rw [rounds_succ]
 go_wp2_with fail
 rw [rounds_succ]
 go_wp2_with fail
 rw [rounds_succ]
 go_wp2_with fail
 rw [rounds_succ]
 go_wp2_with fail
 rw [rounds_succ]
 go_wp2_with fail
 rw [rounds_succ]
 go_wp2_with fail
 rw [rounds_succ]
 go_wp2_with fail
 rw [rounds_succ]
 go_wp2_with fail
 rw [rounds_succ]
 go_wp2_with fail
 rw [rounds_succ]
 go_wp2_with fail
 rw [rounds_succ]
 go_wp2_with fail
 rw [rounds_succ]
 go_wp2_with fail
 rw [rounds_succ]
 go_wp2_with fail
 rw [rounds_succ]
 go_wp2_with fail
 obtain ⟨W,hW⟩:∃ W,W=(w.alloc (.cells #[.string pre,.int .i64 lim,.int .i64 ev] 368)).alloc (.cells #[.int .u8 (48+d12),.int .u8 (48+d11),.int .u8 (48+d10),.int .u8 (48+d9),.int .u8 (48+d8),.int .u8 (48+d7),.int .u8 (48+d6),.int .u8 (48+d5),.int .u8 (48+d4),.int .u8 (48+d3),.int .u8 (48+d2),.int .u8 (48+d1),.int .u8 (48+d0)] 431):=⟨_,rfl⟩
 rw [← hW]
 have HK:Hid (K0 w W):=(by rw [hW];exact ((aD.refl _ _).alloc _).alloc _)
 have hb:W.heap[w.heap.size+1]?=some (.cells #[.int .u8 (48+d12),.int .u8 (48+d11),.int .u8 (48+d10),.int .u8 (48+d9),.int .u8 (48+d8),.int .u8 (48+d7),.int .u8 (48+d6),.int .u8 (48+d5),.int .u8 (48+d4),.int .u8 (48+d3),.int .u8 (48+d2),.int .u8 (48+d1),.int .u8 (48+d0)] 431 (0,0)):=(by rw [hW];exact aI _ _ _ (by simp))
 have q0:W.cell? ⟨w.heap.size,0,none⟩=some (.string pre):=(by rw [hW];exact aB (aL (aI w _ _ rfl) _) 0)
 have hcv:(convert 230 9 (.slice (some ⟨w.heap.size+1,0,none⟩) 13 13)).run Tryz.prog W.drew=.ok (.string (bP (jR 13 n))) W.drew:=by
  rw [HD.out]
  refine aM1 _ rfl (fun j hj=>?_)
  have hc:=aB (w:=W.drew) hb j
  rw [hc]
  match j,hj with
  | 0,_=>rfl
  | 1,_=>rfl
  | 2,_=>rfl
  | 3,_=>rfl
  | 4,_=>rfl
  | 5,_=>rfl
  | 6,_=>rfl
  | 7,_=>rfl
  | 8,_=>rfl
  | 9,_=>rfl
  | 10,_=>rfl
  | 11,_=>rfl
  | 12,_=>rfl
 have z1:¬ 9223372036854775807<pre.size+(⟨#[45]⟩:ByteArray).size:=(by show ¬ _<pre.size+1;omega)
 have z2:¬ 9223372036854775807<(pre++⟨#[45]⟩).size+(bP (jR 13 n)).size:=by rw [ByteArray.size_append,dC,jL];show ¬ _<pre.size+1+13;omega
 have z3:¬ 9223372036854775807<pre.size+1:=aA
 have z4:¬ 9223372036854775807<pre.size+1+(bP (jR 13 n)).size:=(by rw [dC,jL];omega)
 have z5:(pre.size:Int)+1≤9223372036854775807:=aA
 have z6:(pre.size:Int)+1+(bP (jR 13 n)).size≤9223372036854775807:=(by rw [dC,jL];omega)
 have z7:pre.size+1≤9223372036854775807:=aA
 have z8:pre.size+1+(bP (jR 13 n)).size≤9223372036854775807:=(by rw [dC,jL];omega)
 clear hW hb HD h
 clear r0 v0 b0 u0 r1 v1 b1 u1 r2 v2 b2 u2 r3 v3 b3 u3 r4 v4 b4 u4 r5 v5 b5 u5 r6 v6 b6 u6 r7 v7 b7 u7 r8 v8 b8 u8 r9 v9 b9 u9 r10 v10 b10 u10 r11 v11 b11 u11 r12 v12 b12 u12
 go_region_held3 (fun w':World=>w'=W.drew)
  (first | rfl | assumption)
  (fail)
 go_wp2_with fail
 go_ret
 exact ⟨rfl,HK.out.drew⟩
theorem zB:(Tryz.prog.info? 365).map (fun i=>(i.zero,i.size,i.bytes))=some (some (.pointer none),1,8):=by kernel_rfl
theorem aAz {w wr w2:World} {F G:Nat→Prop} {lb db:Nat} {pre:ByteArray} {lim ev:Int} {Ss:List fO} {v:Value} {FS:Nat→Nat→Prop} (h:fJ w F lb db pre lim ev Ss v FS) {s:fO} {L:List cK} (hs:dT w G s.sb db s.nm s.base ev L) (hl:gJ L s.Bs) (hG:∀ k,G k→¬ F k)
  (hk:K0 w wr) {g cp:Nat} (hA:pL wr 0 365 1 v Ss.length (Ss.map mM++[mM s]) g cp w2) (hf:Ss.length<1000) :
  fJ (w2.setCell ⟨lb,5,none⟩ (.slice (some ⟨g,0,none⟩) (Ss.length+1) cp)) (fun k=>F k∨G k∨k=g) lb db pre lim ev (Ss++[s]) (.slice (some ⟨g,0,none⟩) (Ss.length+1) cp) (fun i k=>if i<Ss.length then FS i k else G k)∧
   aD F w (w2.setCell ⟨lb,5,none⟩ (.slice (some ⟨g,0,none⟩) (Ss.length+1) cp)):=by
 have hg:v.ownBlock=some g∨w.heap.size≤g:=hA.at_.imp id (fun e=>by rw [e];exact hk.size)
 have hk2:aD (fun j=>v.ownBlock=some j) w w2:=(hk.mono (S1:=fun j=>v.ownBlock=some j) (fun _ _ e=>e.elim)).grown hA.grown (fun j e _=>e)
 have hks:aD (fun j=>j=lb) w2 (w2.setCell ⟨lb,5,none⟩ (.slice (some ⟨g,0,none⟩) (Ss.length+1) cp)):=(aD.refl (fun j=>j=lb) w2).setC 5 _ (fun _=>rfl)
 have hK:aD (fun j=>v.ownBlock=some j∨j=lb) w (w2.setCell ⟨lb,5,none⟩ (.slice (some ⟨g,0,none⟩) (Ss.length+1) cp)):=(hk2.mono (fun _ _ e=>.inl e)).trans hks (fun _ _ e=>.inr e)
 have hlb:=aC h.blk
 have hF:∀ j,(v.ownBlock=some j∨j=lb)→F j:=fun j e=>e.elim (h.own.2.1 j) (fun e=>e▸h.own.1)
 have hgl:g≠lb:=fun e=>hg.elim (fun q=>h.ne1.1 (e▸q)) (fun q=>by omega)
 have hGl:∀ j,G j→j<w.heap.size:=hs.lt
 have hb2:w2.heap[lb]?=some (.cells #[.string pre,.int .i64 lim,.int .i64 ev,.pointer (some ⟨db,0,none⟩),.int .i64 0,v] 371 (0,0)):=(hk2.block lb hlb h.ne1.1).trans h.blk
 have hgF:∀ i,i<Ss.length→¬ FS i g:=fun i hi e=>hg.elim (fun q=>h.ne2 g q i hi e) (fun q=>by have:=h.lt g (h.own.2.2 i hi g e);omega)
 have hgG:¬ G g:=fun e=>hg.elim (fun q=>hG g e (h.own.2.1 g q)) (fun q=>by have:=hGl g e;omega)
 refine ⟨⟨aM hb2 5 _,?_,?_,⟨.inl h.own.1,?_,?_⟩,⟨?_,?_⟩,?_,?_,?_,by simp;omega⟩,hK.mono (fun j _ e=>hF j e)⟩
 ·rw [List.length_append,List.map_append]
  exact fS hA.own hks (fun j e=>by cases e;exact hgl)
 ·intro i hi
  by_cases hin:i<Ss.length
  ·obtain ⟨L',h1,h2⟩:=h.segs i hin
   have e1:(Ss++[s])[i]=Ss[i]:=List.getElem_append_left hin
   rw [e1]
   refine ⟨L',?_,h2⟩
   rw [show (fun k=>if i<Ss.length then FS i k else G k)=FS i from funext fun k=>if_pos hin]
   exact h1.keep hK (fun j e q=>by
    rcases q with q | q
    ·exact h.ne2 j q i hin e
    ·exact h.ne1.2 i hin (q▸e))
  ·have hie:i=Ss.length:=by simp at hi;omega
   subst hie
   have e1:(Ss++[s])[Ss.length]=s:=aK
   rw [e1]
   refine ⟨L,?_,hl⟩
   rw [show (fun k=>if Ss.length<Ss.length then FS Ss.length k else G k)=G from funext fun k=>if_neg (Nat.lt_irrefl _)]
   exact hs.keep hK (fun j e q=>hG j e (hF j q))
 ·intro j e
  cases e
  exact .inr (.inr rfl)
 ·intro i hi k e
  try dsimp only at e
  split at e
  ·rename_i hin;exact .inl (h.own.2.2 i hin k e)
  ·exact .inr (.inl e)
 ·intro e
  have e':g=lb:=Option.some.inj e
  exact hgl e'
 ·intro i hi e
  try dsimp only at e
  split at e
  ·rename_i hin;exact h.ne1.2 i hin e
  ·exact hG lb e h.own.1
 ·intro j e i hi q
  have e':g=j:=Option.some.inj e
  subst e'
  try dsimp only at q
  split at q
  ·rename_i hin;exact hgF i hin q
  ·exact hgG q
 ·intro i j hi hj hne k e q
  try dsimp only at e q
  split at e <;> split at q
  ·rename_i h1 h2;exact h.ne3 i j h1 h2 hne k e q
  ·rename_i h1 h2;exact hG k q (h.own.2.2 i h1 k e)
  ·rename_i h1 h2;exact hG k e (h.own.2.2 j h2 k q)
  ·rename_i h1 h2;simp at hi hj;omega
 ·intro k e
  have hz:=hK.size
  rcases e with e | e | rfl
  ·exact Nat.lt_of_lt_of_le (h.lt k e) hz
  ·exact Nat.lt_of_lt_of_le (hGl k e) hz
  ·exact Nat.lt_of_lt_of_le hA.lt hks.size
structure aY where
 nm:ByteArray
 base:Int
 Bs:List aR
def iA (s:fO):aY:=⟨s.nm,s.base,s.Bs⟩
def aDw (pre:ByteArray) (lim ev:Int) (D:Dsk.aS) (cls:ByteArray→Option (Int×List aR)) (s:ByteArray):Prop:=match cls s with
 | none=>∀ wx,Calls Tryz.prog 369 #[.agg #[.string pre,.int .i64 lim,.int .i64 ev],.string s] wx fun e w'=>e=.returned (.tuple #[.int .i64 0,.bool false])∧K0 wx w'
 | some (n,Bs)=>(∀ wx,Calls Tryz.prog 369 #[.agg #[.string pre,.int .i64 lim,.int .i64 ev],.string s] wx fun e w'=>e=.returned (.tuple #[.int .i64 n,.bool true])∧K0 wx w')∧
   aDv Bs n ev∧Dsk.jM D s=bN Bs∧Dsk.bJ D s=0∧(0≤n∧n≤1000)∧0<s.size∧s.size≤40
def cU (cls:ByteArray→Option (Int×List aR)) (ss:List ByteArray):List aY:=ss.filterMap fun s=>(cls s).map fun p=>⟨s,p.1,p.2⟩
def mW:List aY→Prop
 | []=>True
 | [_]=>True
 | a::b::r=>fL a.base a.Bs≤b.base∧mW (b::r)
theorem mW.last:∀ {l:List aY} {b:aY} {r:List aY},mW (l++b::r)→∀ x,l.getLast?=some x→fL x.base x.Bs≤b.base
 | [],_,_,_,x,h=>by cases h
 | [a],b,r,h,x,hx=>by simp at hx;subst hx;exact h.1
 | a::c::l,b,r,h,x,hx=>mW.last (l:=c::l) h.2 x (by rw [List.getLast?_cons_cons] at hx;exact hx)
structure aFz (w1:World) (F0:Nat→Prop) (lb db:Nat) (pre:ByteArray) (lim ev:Int) (fs:List aY) (wr:World):Prop where
 log:∃ F Ss v FS,fJ wr F lb db pre lim ev Ss v FS∧Ss.map iA=fs∧aP F0 F w1 wr
theorem aFz.zero {w1:World} {F0:Nat→Prop} {lb db:Nat} {pre:ByteArray} {lim ev:Int} {v:Value} {FS:Nat→Nat→Prop} (h:fJ w1 F0 lb db pre lim ev [] v FS):aFz w1 F0 lb db pre lim ev [] w1:=⟨F0,[],v,FS,h,rfl,aP.refl _ _⟩
theorem aH3 {w:World} {F FD:Nat→Prop} {lb db:Nat} {pre:ByteArray} {lim ev:Int} {v:Value} {FS:Nat→Nat→Prop} {D:Dsk.aS} (h:fJ w F lb db pre lim ev [] v FS) (hd:aU w FD db D) (hap:∀ k,F k→¬ FD k) (wf:Dsk.fV D) (hfu:¬ D.fuse=0) (hfl:D.files.length≤900) (hst:bF w) (hF0:¬ F 0) (hev:1≤ev)
  (cls:ByteArray→Option (Int×List aR)) (hto:∀ s∈Dsk.cR D.files,aDw pre lim ev D cls s) (hri:∀ ss:List ByteArray,ss.Perm (Dsk.cR D.files)→(ss.map fun s=>s.data.toList).Pairwise (fun x y=>x≤y)→mW (cU cls ss)) :
  Calls Tryz.prog 332 #[.pointer (some ⟨lb,0,none⟩)] w fun e w'=>e=.returned (.int .i64 0)∧∃ F' ss Ss,ss.Perm (Dsk.cR D.files)∧(ss.map fun s=>s.data.toList).Pairwise (fun x y=>x≤y)∧fN w' F' lb db pre lim ev Ss∧Ss.map iA=cU cls ss∧aP F F' w w':=by
 have HNM:Hid (Calls Tryz.prog 184 #[.pointer (some ⟨db,0,none⟩)] w (Dsk.lX w D)):=aAm hd wf aA
 have HH:=Lib.hid h
 have HD:=Lib.hid hd
 have HAP:=Lib.hid hap
 have HFU:=Lib.hid hfu
 have HFL:=Lib.hid hfl
 have HST:=Lib.hid hst
 have HF0:=Lib.hid hF0
 have HEV:=Lib.hid hev
 have HTO:=Lib.hid hto
 have HRI:=Lib.hid hri
 obtain ⟨c0,c1,c2,c3,c4,c5,lt⟩:=h.cells
 clear c4 c5 h hd hap wf hfu hfl hst hF0 hev hto hri
 go_enter Tryz.func332,Tryz.ntmps332
 go_wp2_with fail
 refine HNM.out.mono ?_
 rintro e w1 ⟨a,c,ss,rfl,hS,k1,_,hp,hnew⟩
 obtain ⟨hperm,hord⟩:=hp HFU.out
 have HS:=Lib.hid hS
 have HK1:=Lib.hid k1
 have HPERM:=Lib.hid hperm
 have HORD:=Lib.hid hord
 have HNEW:=Lib.hid hnew
 have HLEN:Hid (ss.length=D.files.length):=by show _=_;rw [hperm.length_eq];simp [Dsk.cR]
 have HR:=Lib.hid (HRI.out ss hperm hord)
 have hsl:ss.length≤900:=by have:=HLEN.out;have:=HFL.out;omega
 clear hS k1 hp hnew hperm hord c0 c1 c2 c3 lt
 go_wp2_with fail
 go_loopw [16] (fun iv wr=>∃ i:Nat,iv=.int .i64 i∧i≤ss.length∧aFz w1 F lb db pre lim ev (cU cls (ss.take i)) wr) (fun iv _=>ss.length - (intOf iv).toNat)
 case atStart=>exact ⟨0,rfl,by omega,aFz.zero (HH.out.keep HK1.out (fun _ _ e=>e))⟩
 case round=>
  obtain ⟨i,rfl,hil,hE⟩:=hrel
  obtain ⟨F',Ss,v',FS',hX,hmap,hM⟩:=hE.log
  have HE:=Lib.hid hE
  have HX:=Lib.hid hX
  have HMAP:=Lib.hid hmap
  have HM:=Lib.hid hM
  clear hE hX hmap hM
  have i0:(0:Int)≤i:=aA
  by_cases hi:i<ss.length
  ·have i1:(i:Int)<ss.length:=by omega
   obtain ⟨g,hga,hgl,hgc⟩:=HS.out.row (by intro e;rw [e] at hi;simp at hi)
   subst hga
   have hgF:¬ F g:=fun e=>by have:=HNEW.out g rfl;have:=HH.out.lt g e;omega
   have cg:wr.cell? ⟨g,i,none⟩=some (.string ss[i]):=HM.out.keeps.cell' (hgc i hi) hgF
   obtain ⟨c0,c1,c2,c3,c4,c5,lt⟩:=HX.out.cells
   clear c4
   have hs:=HTO.out ss[i] ((HPERM.out.mem_iff).1 (List.getElem_mem hi))
   have htk:ss.take (i+1)=ss.take i++[ss[i]]:=by rw [List.take_add_one,List.getElem?_eq_getElem hi];rfl
   clear hgc hgF
   cases hcl:cls ss[i] with
   | none=>
    have HT:Hid (∀ wx,Calls Tryz.prog 369 #[.agg #[.string pre,.int .i64 lim,.int .i64 ev],.string ss[i]] wx fun e w'=>e=.returned (.tuple #[.int .i64 0,.bool false])∧K0 wx w'):=by
     unfold aDw at hs
     rw [hcl] at hs
     exact hs
    have HFO:Hid (cU cls (ss.take (i+1))=cU cls (ss.take i)):=by
     show _=_
     unfold cU
     rw [htk,List.filterMap_append]
     simp only [List.filterMap_cons,List.filterMap_nil,hcl,Option.map_none,List.append_nil]
    clear hs hcl htk
    go_wp2_with fail
    refine (HT.out _).mono ?_
    rintro e w2 ⟨rfl,k2⟩
    have HK2:=Lib.hid k2
    clear k2 c0 c1 c2 c3 c5 cg
    go_wp2_with fail
    go_roundw
    case rel=>exact ⟨i+1,by go_num,by omega,by rw [HFO.out];exact ⟨F',Ss,v',FS',HX.out.keep HK2.out (fun _ _ e=>e),HMAP.out,HM.out.k0 HK2.out⟩⟩
    case measure=>simp [intOf];omega
   | some p=>
    obtain ⟨n,Bs⟩:=p
    have hs2:=hs
    unfold aDw at hs2
    rw [hcl] at hs2
    obtain ⟨hT,hOk,hRd,hFe,hn,hsz1,hsz2⟩:=hs2
    have HT:Hid (∀ wx,Calls Tryz.prog 369 #[.agg #[.string pre,.int .i64 lim,.int .i64 ev],.string ss[i]] wx fun e w'=>e=.returned (.tuple #[.int .i64 n,.bool true])∧K0 wx w'):=hT
    have HFO:Hid (cU cls (ss.take (i+1))=cU cls (ss.take i)++[⟨ss[i],n,Bs⟩]):=by
     show _=_
     unfold cU
     rw [htk,List.filterMap_append]
     simp only [List.filterMap_cons,List.filterMap_nil,hcl,Option.map_some]
    have HRF:Hid (∀ x,(cU cls (ss.take i)).getLast?=some x→fL x.base x.Bs≤n):=by
     have h1:=HR.out
     rw [← List.take_append_drop i ss,List.drop_eq_getElem_cons hi] at h1
     unfold cU at h1
     rw [List.filterMap_append] at h1
     simp only [List.filterMap_cons,hcl,Option.map_some] at h1
     exact fun x hx=>mW.last h1 x hx
    have HOPW:Hid (∀ wx,K0 wr wx→Calls Tryz.prog 215 #[.pointer (some ⟨db,0,none⟩),.string ss[i],.int .i64 n,.int .i64 ev] wx fun e w'=>∃ sb L G,e=.returned (.tuple #[.pointer (some ⟨sb,0,none⟩),.int .i64 0])∧dT w' G sb db ss[i] n ev L∧gJ L Bs∧(∀ j,G j→wx.heap.size≤j)∧K0 wx w'):=fun wx k=>by
     have hdw:aU wx FD db D:=((HD.out.k0 HK1.out).keep HM.out.keeps (fun j e q=>HAP.out j q e)).k0 k
     have hstw:bF wx:=((HST.out.keep0 HK1.out).keep HM.out.keeps HF0.out).keep0 k
     exact tJ hdw ss[i] n ev Bs hOk hstw hRd (.inl hFe) hn HEV.out ⟨hsz1,hsz2⟩
    have HNB:=Lib.hid hn
    obtain ⟨n0,n1⟩:=hn
    clear hs hcl htk hT hOk hRd hFe hsz1 hsz2
    go_wp2_with fail
    refine (HT.out _).mono ?_
    rintro e w2 ⟨rfl,k2⟩
    have HK2:=Lib.hid k2
    have c2':=k2.cell' c2 (fun e=>e)
    have c3':=k2.cell' c3 (fun e=>e)
    have c5':=k2.cell' c5 (fun e=>e)
    clear k2 c0 c1 c2 c3 c5 cg
    go_upto_region 6 with fail
    obtain ⟨W2,hW2⟩:∃ W2,W2=w2:=⟨_,rfl⟩
    rw [← hW2] at HK2 c2' c3' c5' ⊢
    have HOP:Hid (∀ wx,K0 W2 wx→Calls Tryz.prog 215 #[.pointer (some ⟨db,0,none⟩),.string ss[i],.int .i64 n,.int .i64 ev] wx fun e w'=>∃ sb L G,e=.returned (.tuple #[.pointer (some ⟨sb,0,none⟩),.int .i64 0])∧dT w' G sb db ss[i] n ev L∧gJ L Bs∧(∀ j,G j→wx.heap.size≤j)∧K0 wx w'):=fun wx k=>HOPW.out wx (HK2.out.tr k)
    clear hW2 HOPW
    refine aX 11 (fun w'=>w'.cell? ⟨lb,3,none⟩=some (.pointer (some ⟨db,0,none⟩))∧w'.cell? ⟨lb,2,none⟩=some (.int .i64 ev)) (fun _=>True) aF ⟨by go_simp,by go_simp⟩ trivial (fun hS=>?_)
    refine tB 0 hS (fun hS=>?_)
    simp only [Act.put,Sw]
    refine tB 1 hS (fun hS=>?_)
    simp only [Act.put]
    refine tB 2 hS (fun hS=>?_)
    simp only [Act.put]
    refine tA 3 hS (fun hS=>?_)
    simp only [Act.put]
    refine tB 4 hS (fun hS=>?_)
    simp only [Act.put]
    refine tB 5 hS (fun hS=>?_)
    simp only [Act.put]
    refine tB 6 hS (fun hS=>?_)
    simp only [Act.put]
    refine tB 7 hS (fun hS=>?_)
    simp only [Act.put]
    refine tB 8 hS (fun hS=>?_)
    simp only [Act.put]
    refine tB 9 hS (fun hS=>?_)
    simp only [Act.put]
    refine tA 10 hS (fun hS=>?_)
    simp only [Act.put]
    refine tO 11 (fun K hK=>?_)
    go_simp
    ((with_reducible refine Calls.mono (HOP.out _ ?_) ?_);· exact (aD.refl _ _).drew)
    rintro e w3 ⟨sb,L,G,rfl,hS3,hl3,hG3,k3⟩
    have HS3:=Lib.hid hS3
    have HL3:=Lib.hid hl3
    have HG3:=Lib.hid hG3
    have HK3:=Lib.hid (K0.tr ((aD.refl _ _).drew:K0 W2 W2.drew) k3)
    clear hS3 hl3 hG3 k3
    go_simp
    refine hK.out _ _ ⟨fun e=>absurd e aE,trivial⟩ (fun hS=>?_)
    clear hK K
    try simp only [Act.put,Sw]
    refine tB 12 hS (fun hS=>?_)
    simp only [Act.put,Sw]
    refine tB 13 hS (fun hS=>?_)
    simp only [Act.put]
    refine tB 14 hS (fun hS=>?_)
    simp only [Act.put]
    refine tO 15 (fun K hK=>?_)
    go_simp
    refine hK.out _ _ ⟨fun e=>absurd e aE,trivial⟩ (fun hS=>?_)
    clear hK K
    try simp only [Act.put,Sw]
    refine tO 16 (fun K hK=>?_)
    go_simp
    refine hK.out _ _ ⟨fun e=>absurd e aE,trivial⟩ (fun hS=>?_)
    clear hK K
    try simp only [Act.put,Sw]
    refine bC aF ?_ _
    skip
    have c5'':w3.cell? ⟨lb,5,none⟩=some v':=HK3.out.cell' c5' (fun e=>e)
    have HX3:Hid (fJ w3 F' lb db pre lim ev Ss v' FS'):=(HX.out.keep HK2.out (fun _ _ e=>e)).keep HK3.out (fun _ _ e=>e)
    obtain ⟨a2,c2,hv,hrow⟩:=HX3.out.slice
    subst hv
    have HRW:=Lib.hid hrow
    have lt3:lb<w3.heap.size:=Nat.lt_of_lt_of_le lt (Nat.le_trans HK2.out.size HK3.out.size)
    have hsn:Ss.length≤i:=by
     have h1:=congrArg List.length HMAP.out
     rw [List.length_map] at h1
     rw [h1]
     unfold cU
     exact Nat.le_trans (List.length_filterMap_le _ _) (by rw [List.length_take];omega)
    clear hS c2' c3' c5' hrow lt
    have HSN:=Lib.hid hsn
    have HROW:Hid (w3.ownsRow 0 365 1 (.slice a2 Ss.length c2) Ss.length (Ss.map mM)):=HX3.out.row
    have HBL:Hid (w3.heap[lb]?=some (.cells #[.string pre,.int .i64 lim,.int .i64 ev,.pointer (some ⟨db,0,none⟩),.int .i64 0,.slice a2 Ss.length c2] 371 (0,0))):=HX3.out.blk
    have HNL:Hid ((Value.slice a2 Ss.length c2).ownBlock≠some lb):=HX3.out.ne1.1
    have HN:Hid (Ss.length≤1000000):=by show _≤_;omega
    have hfin:Hid (∀ g5 cp5 w5,pL (w3.alloc (.cells #[.pointer (some ⟨sb,0,none⟩)] 365)) 0 365 1 (.slice a2 Ss.length c2) Ss.length (Ss.map mM++[.pointer (some ⟨sb,0,none⟩)]) g5 cp5 w5→aFz w1 F lb db pre lim ev (cU cls (ss.take (i+1))) (w5.setCell ⟨lb,5,none⟩ (.slice (some ⟨g5,0,none⟩) (Ss.length+1) cp5))):=fun g5 cp5 w5 hA=>by
     have hz2:wr.heap.size≤W2.heap.size:=HK2.out.size
     have hz3:W2.heap.size≤w3.heap.size:=HK3.out.size
     have hGF:∀ k,G k→wr.heap.size≤k:=fun k e=>by have h1:=HG3.out k e;have h2:W2.drew.heap.size=W2.heap.size:=rfl;omega
     have hpush:=aAz (s:=⟨sb,ss[i],n,Bs⟩) HX3.out HS3.out HL3.out (fun k e q=>by have:=HX.out.lt k q;have:=hGF k e;omega) ((aD.refl (fun _=>False) w3).alloc _) hA (by have:=HSN.out;omega)
     refine ⟨_,_,_,_,hpush.1,by rw [HFO.out,List.map_append,HMAP.out];rfl,HM.out.trans ⟨((K0.tr HK2.out HK3.out).mono (S1:=F') (fun _ _ e=>e.elim)).trans hpush.2 (fun _ _ e=>e),fun k e=>?_⟩⟩
     rcases e with e | e | rfl
     ·exact .inl e
     ·exact .inr (hGF k e)
     ·rcases hA.at_ with q | q
      ·exact .inl (HX3.out.own.2.1 _ q)
      ·right
       rw [q]
       show wr.heap.size≤(w3.alloc _).heap.size
       simp;omega
    clear hsn
    rcases Nat.eq_zero_or_pos Ss.length with hz | hz
    ·have jz:decide ((0:Int)<Ss.length)=false:=decide_eq_false aA
     have jz2:¬ (0:Int)<Ss.length:=aA
     have HZ:=Lib.hid hz
     clear hz
     go_wp2_with (at_builtin;refine bW (v:=.slice a2 Ss.length c2) rfl rfl Tryz.underlying369 zB rfl aE rfl (HROW.out.alloc _) rfl (aI _ _ _ rfl) rfl rfl ⟨HN.out,by decide⟩ (Nat.zero_le _) ?_;intro g5 cp5 w5 hA5;have HB5:=Lib.hid (hA5.far (aL HBL.out _) HNL.out);have y5:=aB HB5.out 5;have f5:=aH HB5.out 5;have HA5:=Lib.hid hA5;clear hA5)
     go_wp2_with fail
     go_roundw
     case rel=>exact ⟨i+1,by go_num,by omega,hfin.out _ _ _ HA5.out⟩
     case measure=>simp [intOf];omega
    ·obtain ⟨m,hm⟩:∃ m,Ss.length=m+1:=⟨Ss.length - 1,by omega⟩
     have jz:decide ((0:Int)<Ss.length)=true:=decide_eq_true aA
     have jz2:(0:Int)<Ss.length:=aA
     have hml:m≤1000:=by have:=HX3.out.few;omega
     have wr1:IntKind.i64.wrap ((Ss.length:Int) - 1)=m:=by rw [hm,IntWalk.i64_in _ aA];omega
     obtain ⟨g2,hg2,hcm⟩:=HRW.out m aA
     subst hg2
     have hrise:fL (Ss[m]'aA).base (Ss[m]'aA).Bs≤n:=by
      have h1:=HRF.out (iA (Ss[m]'aA)) (by
       rw [← HMAP.out,List.getLast?_map,List.getLast?_eq_getElem?]
       have:Ss.length - 1=m:=aA
       rw [this,List.getElem?_eq_getElem aA]
       rfl)
      exact h1
     have HE3:Hid (Calls Tryz.prog 211 #[mM (Ss[m]'aA)] w3 fun e w'=>e=.returned (.int .i64 (fL (Ss[m]'aA).base (Ss[m]'aA).Bs))∧w'=w3):=by
      obtain ⟨L',h1,h2⟩:=HX3.out.segs m aA
      rw [← h2.end_]
      exact wS h1
     have hms:m<Ss.length:=aA
     unfold mM at hcm HE3
     generalize fL (Ss[m]'aA).base (Ss[m]'aA).Bs=en at hrise HE3
     generalize (Ss[m]'aA).sb=sbm at hcm HE3
     have hr2:¬ n<en:=aA
     have jr2:decide (n<en)=false:=decide_eq_false hr2
     have m0:(0:Int)≤m:=aA
     have m1:(m:Int)<Ss.length:=aA
     have HM2:=Lib.hid hm
     clear hm hz
     go_wp2_with fail
     refine HE3.out.mono ?_
     rintro e w4 ⟨rfl,rfl⟩
     go_wp2_with (at_builtin;refine bW (v:=.slice (some ⟨g2,0,none⟩) Ss.length c2) rfl rfl Tryz.underlying369 zB rfl aE rfl (HROW.out.alloc _) rfl (aI _ _ _ rfl) rfl rfl ⟨HN.out,by decide⟩ (Nat.zero_le _) ?_;intro g5 cp5 w5 hA5;have HB5:=Lib.hid (hA5.far (aL HBL.out _) HNL.out);have y5:=aB HB5.out 5;have f5:=aH HB5.out 5;have HA5:=Lib.hid hA5;clear hA5)
     go_wp2_with fail
     go_roundw
     case rel=>exact ⟨i+1,by go_num,by omega,hfin.out _ _ _ HA5.out⟩
     case measure=>simp [intOf];omega
  ·obtain rfl:i=ss.length:=by omega
   clear i0
   go_wp2_with fail
   go_ret
   have ht:ss.take ss.length=ss:=List.take_length
   have hm:=HMAP.out
   rw [ht] at hm
   exact ⟨rfl,F',ss,Ss,HPERM.out,HORD.out,⟨v',FS',HX.out⟩,hm,aP.k0_left HK1.out HM.out⟩
theorem aGb (pre s:ByteArray) (lim ev:Int) (w:World) (h:pre.size≤20) (hp:Lib.hasPrefix s.data.toList (pre++⟨#[45]⟩).data.toList=false) :
  Calls Tryz.prog 369 #[.agg #[.string pre,.int .i64 lim,.int .i64 ev],.string s] w fun e w'=>e=.returned (.tuple #[.int .i64 0,.bool false])∧K0 w w':=by
 have HP:=Lib.hid hp
 have z1:¬ 9223372036854775807<pre.size+1:=aA
 have z2:¬ 9223372036854775807<pre.size+(⟨#[45]⟩:ByteArray).size:=(by show ¬ _<pre.size+1;omega)
 have z5:(pre.size:Int)+1≤9223372036854775807:=aA
 clear hp
 go_enter Tryz.func369,Tryz.ntmps369
 go_wp2_with fail
 refine (Tryz.strings_CutPrefix _ _ _).mono ?_
 rintro e w1 ⟨rfl,rfl⟩
 rw [HP.out]
 go_wp2_with fail
 go_ret2
 exact ⟨rfl,(aD.refl _ _).alloc _⟩
theorem aP8 (k n i:Nat) (h:i<k) (h2:i<(jR k n).length):(jR k n)[i]=48+n / 10 ^ (k - 1 - i) % 10:=by
 induction k generalizing n with
 | zero=>omega
 | succ k ih=>
  have hl:=jL k (n / 10)
  unfold jR
  by_cases hi:i<k
  ·rw [List.getElem_append_left aA,ih (n / 10) hi aA,Nat.div_div_eq_div_mul]
   have e:10*10 ^ (k - 1 - i)=10 ^ (k+1 - 1 - i):=by rw [Nat.mul_comm,← Nat.pow_succ];congr 1;omega
   rw [e]
  ·have hk:i=k:=by omega
   subst hk
   rw [List.getElem_append_right aA]
   simp
theorem aHe (pre:ByteArray) (n:Nat):Lib.hasPrefix (bB pre n).data.toList (pre++⟨#[45]⟩).data.toList=true:=by
 unfold bB Lib.hasPrefix
 rw [List.isPrefixOf_iff_prefix]
 exact ⟨(bP (jR 13 n)).data.toList,by simp [ByteArray.data_append]⟩
theorem aNp (pre:ByteArray) (n:Nat):(⟨(Lib.trimPrefix (bB pre n).data.toList (pre++⟨#[45]⟩).data.toList).toArray⟩:ByteArray)=bP (jR 13 n):=by
 unfold Lib.trimPrefix
 rw [aHe]
 have e:(bB pre n).data.toList=(pre++⟨#[45]⟩).data.toList++(bP (jR 13 n)).data.toList:=by unfold bB;simp [ByteArray.data_append]
 rw [e,if_pos rfl,List.drop_left]
theorem aI3 (l:List Nat) (i:Nat) (h:i<(bP l).size) (h2:i<l.length) (hb:l[i]<256):(bP l)[i].toNat=l[i]:=by
 show ((((l.map fun b:Nat=>(b:Int)).map fun n=>UInt8.ofNat n.toNat).toArray)[i]'(by simpa using h2)).toNat=_
 simp
 omega
theorem aMs (pre:ByteArray) (lim ev:Int) (n:Nat) (w:World) (h:pre.size≤20) (hn:n≤1000000000) :
  Calls Tryz.prog 369 #[.agg #[.string pre,.int .i64 lim,.int .i64 ev],.string (bB pre n)] w fun e w'=>e=.returned (.tuple #[.int .i64 n,.bool true])∧K0 w w':=by
 have HP:=Lib.hid (aHe pre n)
 have HR:=Lib.hid (aNp pre n)
 have hsz:(bP (jR 13 n)).size=13:=by rw [dC,jL]
 have z1:¬ 9223372036854775807<pre.size+1:=aA
 have z2:¬ 9223372036854775807<pre.size+(⟨#[45]⟩:ByteArray).size:=(by show ¬ _<pre.size+1;omega)
 have z5:(pre.size:Int)+1≤9223372036854775807:=aA
 have HB:Hid (∀ i (hi:i<(bP (jR 13 n)).size),((bP (jR 13 n))[i].toNat:Int)=48+((n / 10 ^ (12 - i) % 10:Nat):Int)):=fun i hi=>by
  have hl:=jL 13 n
  have h13:i<13:=aA
  have hg:=aP8 13 n i h13 aA
  have:n / 10 ^ (13 - 1 - i) % 10<10:=Nat.mod_lt _ aA
  rw [aI3 _ _ _ aA aA,hg]
  rw [show 13 - 1 - i=12 - i from by omega] at this ⊢
  omega
 generalize bP (jR 13 n)=t at HR hsz HB
 have HSZ:=Lib.hid hsz
 go_enter Tryz.func369,Tryz.ntmps369
 go_wp2_with fail
 refine (Tryz.strings_CutPrefix _ _ _).mono ?_
 rintro e w1 ⟨rfl,rfl⟩
 rw [HP.out,HR.out]
 have hk0:Hid (K0 w (w.alloc (.cells #[.string pre,.int .i64 lim,.int .i64 ev] 368))):=(aD.refl _ _).alloc _
 generalize (w.alloc (.cells #[.string pre,.int .i64 lim,.int .i64 ev] 368))=W0 at hk0
 obtain ⟨cap,W,hcv,hk,hcell,hlt⟩:=sM t W0
 rw [hsz] at hcv
 have HK:Hid (K0 w W):=hk0.out.tr hk
 have HC:=Lib.hid hcell
 clear hk hcell
 clear hk0 HP HR z1 z2 z5 hsz
 have e13:((t.size:Int) != 13)=false:=by rw [HSZ.out];rfl
 have e14:(t.size:Int)=13:=by rw [HSZ.out];rfl
 go_wp2_with fail
 go_loopw [4,27] (fun u iv wr=>wr=W∧∃ i:Nat,iv=.int .i64 i∧i≤13∧u=.int .i64 ((n / 10 ^ (13 - i):Nat):Int)) (fun _ iv _=>13 - (intOf iv).toNat)
 case atStart=>exact ⟨rfl,0,rfl,by omega,by have:n / 10 ^ 13=0:=Nat.div_eq_of_lt aA;simp [this]⟩
 case round=>
  obtain ⟨rfl,i,rfl,hil,rfl⟩:=hrel
  have i0:(0:Int)≤i:=aA
  by_cases hi:i<13
  ·have i1:(i:Int)<13:=by omega
   have cg:=HC.out i (by rw [HSZ.out];exact hi)
   rw [HB.out] at cg
   obtain ⟨q,hq⟩:∃ q,q=n / 10 ^ (12 - i):=⟨_,rfl⟩
   have hq2:n / 10 ^ (13 - i)=q / 10:=by
    rw [hq,Nat.div_div_eq_div_mul,← Nat.pow_succ]
    congr 2
    omega
   have hqn:q≤n:=by rw [hq];exact Nat.div_le_self _ _
   have hq3:n / 10 ^ (13 - (i+1))=q:=by rw [hq];congr 2;omega
   have HQ3:=Lib.hid hq3
   rw [← hq] at cg
   rw [hq2]
   clear hq hq2 hq3
   obtain ⟨d,hd⟩:∃ d,d=q % 10:=⟨_,rfl⟩
   obtain ⟨p,hp⟩:∃ p,p=q / 10:=⟨_,rfl⟩
   rw [← hd] at cg
   rw [← hp]
   have d9:d≤9:=aA
   have HQ:Hid (q=10*p+d):=by show _=_;omega
   have hp9:p≤100000000:=aA
   clear hd hp
   have j1:¬ (48:Int)+d<48:=aA
   have j2:¬ (57:Int)<48+d:=aA
   have j3:decide ((48:Int)+d<48)=false:=decide_eq_false j1
   have j4:decide ((57:Int)<48+d)=false:=decide_eq_false j2
   have w1:IntKind.i64.wrap (10*(p:Int))=10*p:=IntWalk.i64_in _ aA
   have w2:IntKind.u8.wrap (48+(d:Int) - 48)=d:=by rw [IntWalk.u8_in _ aA];omega
   have w3:IntKind.i64.wrap (10*(p:Int)+d)=10*p+d:=IntWalk.i64_in _ aA
   go_wp2_with fail
   go_roundw
   case rel=>exact ⟨trivial,i+1,by go_num,by omega,by rw [HQ3.out,HQ.out];simp⟩
   case measure=>simp [intOf];omega
  ·obtain rfl:i=13:=by omega
   go_wp2_with fail
   go_ret2
   exact ⟨by simp,HK.out⟩
section
variable {w:World} {F FD:Nat→Prop} {lb db:Nat} {pre:ByteArray} {lim ev:Int} {Ss:List fO} {v:Value} {FS:Nat→Nat→Prop} {D:Dsk.aS}
theorem aWf {x3 x6:Nat} (cl:w.cell? ⟨x6,0,none⟩=some (.pointer (some ⟨lb,0,none⟩))) (cc:w.cell? ⟨x3,0,none⟩=some (.string pre)∧w.cell? ⟨x3,1,none⟩=some (.int .i64 lim)∧w.cell? ⟨x3,2,none⟩=some (.int .i64 ev))
  (c3:w.cell? ⟨lb,3,none⟩=some (.pointer (some ⟨db,0,none⟩))) (hd:aU w FD db D) (wf:Dsk.fV D) (he:Dsk.bJ D (oM pre)=6) (hp:pre.size≤20) :
  Calls Tryz.prog 328 #[.pointer (some ⟨x6,0,none⟩),.pointer (some ⟨x3,0,none⟩)] w (cZ w FD db (.int .i64 0) D):=by
 have HFR:Hid (∀ wx,Calls Tryz.prog 281 #[.agg #[.string pre,.int .i64 lim,.int .i64 ev]] wx fun e w'=>e=.returned (.string (oM pre))∧K0 wx w'):=fun wx=>aI5 pre lim ev wx hp
 have HDR0:Hid (∀ wx,K0 w wx→Calls Tryz.prog 329 #[.pointer (some ⟨lb,0,none⟩),.string (oM pre)] wx (cZ wx FD db (.int .i64 0) D)):=fun wx k=>aBd (k.cell' c3 (fun e=>e)) (hd.k0 k) wf _ he
 obtain ⟨e0,e1,e2⟩:=cc
 clear hd he c3
 go_enter Tryz.func328,Tryz.ntmps328
 go_wp2_with fail
 obtain ⟨W3,hW3⟩:∃ W3,W3=w:=⟨_,rfl⟩
 rw [← hW3] at HDR0 cl e0 e1 e2 ⊢
 have HDR:Hid (∀ wx,K0 W3 wx→Calls Tryz.prog 329 #[.pointer (some ⟨lb,0,none⟩),.string (oM pre)] wx (cZ wx FD db (.int .i64 0) D)):=HDR0
 have HW3:=Lib.hid hW3
 clear hW3 HDR0
 refine aX 3 (fun w'=>w'.cell? ⟨x6,0,none⟩=some (.pointer (some ⟨lb,0,none⟩))∧w'.cell? ⟨x3,0,none⟩=some (.string pre)∧w'.cell? ⟨x3,1,none⟩=some (.int .i64 lim)∧w'.cell? ⟨x3,2,none⟩=some (.int .i64 ev)∧True) (fun _=>True) aF ⟨by go_simp,by go_simp,by go_simp,by go_simp,trivial⟩ trivial (fun hS=>?_)
 refine tA 0 hS (fun hS=>?_)
 simp only [Act.put,Sw]
 refine tA 1 hS (fun hS=>?_)
 simp only [Act.put]
 refine tO 2 (fun K hK=>?_)
 go_simp
 refine (HFR.out _).mono ?_
 rintro e w4 ⟨rfl,k4⟩
 have k34:K0 W3 w4:=K0.tr (aD.drew (aD.refl _ _)) k4
 clear k4
 have HK34:=Lib.hid k34
 go_simp
 refine hK.out _ _ ⟨fun _=>⟨by (first | assumption | exact trivial | exact k34.cell' aG (fun e=>e) | go_simp),by (first | assumption | exact trivial | exact k34.cell' aG (fun e=>e) | go_simp),by (first | assumption | exact trivial | exact k34.cell' aG (fun e=>e) | go_simp),by (first | assumption | exact trivial | exact k34.cell' aG (fun e=>e) | go_simp),by (first | assumption | exact trivial | exact k34.cell' aG (fun e=>e) | go_simp)⟩,trivial⟩ (fun hS=>?_)
 clear hK K
 try simp only [Act.put,Sw]
 refine tO 3 (fun K hK=>?_)
 go_simp
 ((with_reducible refine Calls.mono (HDR.out _ ?_) ?_);· exact HK34.out)
 rintro e w5 ⟨rfl,FD',hD5,hM5⟩
 have HD5:=Lib.hid hD5
 have HM5:=Lib.hid hM5
 clear hD5 hM5
 go_simp
 refine hK.out _ _ ⟨fun e=>absurd e aE,trivial⟩ (fun hS=>?_)
 clear hK K
 try simp only [Act.put,Sw]
 refine tO 4 (fun K hK=>?_)
 go_simp
 refine hK.out _ _ ⟨fun e=>absurd e aE,trivial⟩ (fun hS=>?_)
 clear hK K
 try simp only [Act.put,Sw]
 refine bC aF ?_ _
 skip
 go_wp2_with fail
 go_ret
 have hh:=HW3.out
 subst hh
 exact ⟨rfl,FD',HD5.out,aP.k0_left HK34.out HM5.out⟩
theorem aWg {x3 x6:Nat} (cl:w.cell? ⟨x6,0,none⟩=some (.pointer (some ⟨lb,0,none⟩))) (cc:w.cell? ⟨x3,0,none⟩=some (.string pre)∧w.cell? ⟨x3,1,none⟩=some (.int .i64 lim)∧w.cell? ⟨x3,2,none⟩=some (.int .i64 ev))
  (c3:w.cell? ⟨lb,3,none⟩=some (.pointer (some ⟨db,0,none⟩))) (hd:aU w FD db D) (wf:Dsk.fV D) (he:Dsk.bJ D (vG pre)=6) (hp:pre.size≤20) :
  Calls Tryz.prog 330 #[.pointer (some ⟨x6,0,none⟩),.pointer (some ⟨x3,0,none⟩)] w (cZ w FD db (.int .i64 0) D):=by
 have HFR:Hid (∀ wx,Calls Tryz.prog 331 #[.agg #[.string pre,.int .i64 lim,.int .i64 ev]] wx fun e w'=>e=.returned (.string (vG pre))∧K0 wx w'):=fun wx=>aM3 pre lim ev wx hp
 have HDR0:Hid (∀ wx,K0 w wx→Calls Tryz.prog 329 #[.pointer (some ⟨lb,0,none⟩),.string (vG pre)] wx (cZ wx FD db (.int .i64 0) D)):=fun wx k=>aBd (k.cell' c3 (fun e=>e)) (hd.k0 k) wf _ he
 obtain ⟨e0,e1,e2⟩:=cc
 clear hd he c3
 go_enter Tryz.func330,Tryz.ntmps330
 go_wp2_with fail
 obtain ⟨W3,hW3⟩:∃ W3,W3=w:=⟨_,rfl⟩
 rw [← hW3] at HDR0 cl e0 e1 e2 ⊢
 have HDR:Hid (∀ wx,K0 W3 wx→Calls Tryz.prog 329 #[.pointer (some ⟨lb,0,none⟩),.string (vG pre)] wx (cZ wx FD db (.int .i64 0) D)):=HDR0
 have HW3:=Lib.hid hW3
 clear hW3 HDR0
 refine aX 3 (fun w'=>w'.cell? ⟨x6,0,none⟩=some (.pointer (some ⟨lb,0,none⟩))∧w'.cell? ⟨x3,0,none⟩=some (.string pre)∧w'.cell? ⟨x3,1,none⟩=some (.int .i64 lim)∧w'.cell? ⟨x3,2,none⟩=some (.int .i64 ev)∧True) (fun _=>True) aF ⟨by go_simp,by go_simp,by go_simp,by go_simp,trivial⟩ trivial (fun hS=>?_)
 refine tA 0 hS (fun hS=>?_)
 simp only [Act.put,Sw]
 refine tA 1 hS (fun hS=>?_)
 simp only [Act.put]
 refine tO 2 (fun K hK=>?_)
 go_simp
 refine (HFR.out _).mono ?_
 rintro e w4 ⟨rfl,k4⟩
 have k34:K0 W3 w4:=K0.tr (aD.drew (aD.refl _ _)) k4
 clear k4
 have HK34:=Lib.hid k34
 go_simp
 refine hK.out _ _ ⟨fun _=>⟨by (first | assumption | exact trivial | exact k34.cell' aG (fun e=>e) | go_simp),by (first | assumption | exact trivial | exact k34.cell' aG (fun e=>e) | go_simp),by (first | assumption | exact trivial | exact k34.cell' aG (fun e=>e) | go_simp),by (first | assumption | exact trivial | exact k34.cell' aG (fun e=>e) | go_simp),by (first | assumption | exact trivial | exact k34.cell' aG (fun e=>e) | go_simp)⟩,trivial⟩ (fun hS=>?_)
 clear hK K
 try simp only [Act.put,Sw]
 refine tO 3 (fun K hK=>?_)
 go_simp
 ((with_reducible refine Calls.mono (HDR.out _ ?_) ?_);· exact HK34.out)
 rintro e w5 ⟨rfl,FD',hD5,hM5⟩
 have HD5:=Lib.hid hD5
 have HM5:=Lib.hid hM5
 clear hD5 hM5
 go_simp
 refine hK.out _ _ ⟨fun e=>absurd e aE,trivial⟩ (fun hS=>?_)
 clear hK K
 try simp only [Act.put,Sw]
 refine tO 4 (fun K hK=>?_)
 go_simp
 refine hK.out _ _ ⟨fun e=>absurd e aE,trivial⟩ (fun hS=>?_)
 clear hK K
 try simp only [Act.put,Sw]
 refine bC aF ?_ _
 skip
 go_wp2_with fail
 go_ret
 have hh:=HW3.out
 subst hh
 exact ⟨rfl,FD',HD5.out,aP.k0_left HK34.out HM5.out⟩
theorem aN9 (h:fJ w F lb db pre lim ev Ss v FS) (hl:Ss.length≤1):Calls Tryz.prog 283 #[.pointer (some ⟨lb,0,none⟩)] w fun e w'=>e=.returned (.int .i64 0)∧K0 w w':=by
 obtain ⟨a,c,rfl,_⟩:=h.slice
 obtain ⟨_,_,_,_,_,c5,lt⟩:=h.cells
 generalize Ss.length=n at hl c5
 clear h
 have j1:¬ (1:Int)<n:=aA
 have j2:decide ((1:Int)<n)=false:=decide_eq_false j1
 go_enter Tryz.func283,Tryz.ntmps283
 go_wp2_with fail
 refine wp_loop_rounds 1 ?_
 rw [rounds_succ]
 go_upto_region 1 with fail
 obtain ⟨W,hW⟩:∃ W,W=w:=⟨_,rfl⟩
 rw [← hW] at c5 lt ⊢
 have HW:=Lib.hid hW
 clear hW
 go_quiet (fail)
 go_wp2_with fail
 go_ret
 have hh:=HW.out
 subst hh
 exact ⟨rfl,(aD.refl _ _).drewN _⟩
theorem aN8 (h:fJ w F lb db pre lim ev Ss v FS) (hl:1<Ss.length) (h0:0<fL (Ss[0]'aA).base (Ss[0]'aA).Bs):Calls Tryz.prog 283 #[.pointer (some ⟨lb,0,none⟩)] w fun e w'=>e=.returned (.int .i64 0)∧K0 w w':=by
 obtain ⟨a,c,rfl,hr⟩:=h.slice
 obtain ⟨g,rfl,hc⟩:=hr 0 aA
 obtain ⟨_,_,_,_,c4,c5,lt⟩:=h.cells
 have HE:Hid (∀ wx,K0 w wx→Calls Tryz.prog 211 #[mM (Ss[0]'aA)] wx fun e w'=>e=.returned (.int .i64 (fL (Ss[0]'aA).base (Ss[0]'aA).Bs))∧w'=wx):=fun wx k=>by
  obtain ⟨L,h1,h2⟩:=h.segs 0 aA
  rw [← h2.end_]
  exact wS (h1.k0 k)
 unfold mM at hc HE
 generalize fL (Ss[0]'aA).base (Ss[0]'aA).Bs=en at h0 HE
 generalize (Ss[0]'aA).sb=sb at hc HE
 have hfew:=h.few
 generalize Ss.length=n at hl c5 hfew
 clear h
 have j1:(1:Int)<n:=aA
 have j2:decide ((1:Int)<n)=true:=decide_eq_true j1
 have j3:¬ en≤0:=aA
 have j4:decide (en≤0)=false:=decide_eq_false j3
 have j5:(0:Int)<n:=aA
 have j6:0<n:=aA
 have j7:decide ((0:Int)<n)=true:=decide_eq_true j5
 have j8:¬ n=0:=aA
 go_enter Tryz.func283,Tryz.ntmps283
 go_wp2_with fail
 refine wp_loop_rounds 1 ?_
 rw [rounds_succ]
 go_upto_region 1 with fail
 obtain ⟨W,hW⟩:∃ W,W=w:=⟨_,rfl⟩
 rw [← hW] at c4 c5 lt hc HE ⊢
 have HW:=Lib.hid hW
 clear hW
 go_quiet ((go_at_call 211;exact Calls.quiet_of_same (HE.out _ (by exact (aD.refl _ _).drewN _))))
 go_wp2_with fail
 go_ret
 have hh:=HW.out
 subst hh
 exact ⟨rfl,(aD.refl _ _).drewN _⟩
end
end Go.Proofs.YteapahcklcldkaaGreatDoor
