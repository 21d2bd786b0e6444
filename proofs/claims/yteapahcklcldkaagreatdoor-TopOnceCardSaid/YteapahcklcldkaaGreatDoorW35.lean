/-
  The statement is proved: all that it reaches, in parts.
-/
import Derived.Test.YteapahcklcldkaaGreatDoorW34
import Derived.RangeFuncNested
import Derived.RangeFuncBound
import Derived.RangeFuncCalls
import Derived.RangeFuncLeaves
import Derived.Shelf.Abstract
import Derived.Shelf.RegionOpen
import Derived.OwnWalkIn
import Derived.TacticsInMore
import Derived.LoopNIn
import Derived.LoopIn
set_option maxRecDepth 100000
set_option maxHeartbeats 16000000
namespace Go.Proofs.YteapahcklcldkaaGreatDoor
open Go.RowKit Go.Shelf Fx
attribute [local go_sem] Oper.semAt_some
theorem aH2 {w:World} {mb:Nat} (hm:w.heap[mb]?=some (.map #[] 0)):(Instr.range 272 (.map (some mb))).run Tryz.prog w=.ok (.pointer (some ⟨w.heap.size,0,none⟩)) (w.alloc (.mapIter (some mb) 0 #[] 0)):=by
 simp [Instr.range,MapKept.run_getObj_map hm,Sem.run_bind,run_underlying Tryz.underlying272,Result.andThen]
theorem aJy {w:World} {mb r:Nat} (hm:w.heap[mb]?=some (.map #[] 0)) (hr:w.heap[r]?=some (.mapIter (some mb) 0 #[] 0)) (t:TypeId):(Instr.next (.pointer (some ⟨r,0,none⟩)) false t).run Tryz.prog w=.ok (.tuple #[.bool false]) w:=by
 have hg:(getObj r).run Tryz.prog w=.ok (.mapIter (some mb) 0 #[] 0) w:=by simp [getObj,Sem.run,hr]
 have hf:(Question.mapNext 1).forced=true:=rfl
 simp [Instr.next,Sem.run_bind,hg,MapKept.run_getObj_map hm,Result.andThen,hf]
theorem aNu (mb:Nat) (w:World):Calls Tryz.prog 135 #[.map (some mb)] w fun e w'=>e=.returned (.func (.func 196) #[] #[.pointer (some ⟨w.heap.size,0,none⟩)])∧w'=w.alloc (.cells #[.map (some mb)] 272):=by
 go_enter Tryz.func135,Tryz.ntmps135
 go_wp2
 go_ret
 exact ⟨rfl,rfl⟩
theorem aHl (F:Fence) (n:Nat) (hF:F.fn 196) (hro:F.round=none) (w:World) (Kp:World→World→Prop) (B mb:Nat) (hB:w.cell? ⟨B,0,none⟩=some (.map (some mb))) (hm:w.heap[mb]?=some (.map #[] 0)) :
  SeqStopsK F n Tryz.prog 196 #[.pointer (some ⟨B,0,none⟩)] (fun (x:Empty)=>x.elim) Kp (fun xs=>xs=[]) (fun _=>False) 0 w:=fun l J Jx W hb hJ _ _ h0=>by
 have hk:=K0.of_below hb
 have hc:W.cell? ⟨B,0,none⟩=some (.map (some mb)):=hk.cell' hB (fun e=>e)
 have hltW:B<W.heap.size:=World.block_lt_of_cell? W _ hc
 have hmW:W.heap[mb]?=some (.map #[] 0):=(hk.block _ (aC hm) (fun e=>e)).trans hm
 have hr:=aH2 hmW
 have hn:=fun t=>aJy (r:=W.heap.size) (aL hmW (.mapIter (some mb) 0 #[] 0)) (aI W _ _ rfl) t
 have HJ:Hid (J [] (W.alloc (.mapIter (some mb) 0 #[] 0))):=hJ [] W _ none h0 (World.grownBy_alloc W _ none) (fun r e=>by cases e)
 clear hk hJ hmW h0
 refine callsIn_of_wp Tryz.func196 rfl hF ?_ hro
 simp only [Tryz.ntmps196,List.size_toArray,List.length_cons,List.length_nil,Nat.reduceAdd,Nat.reduceSub,Array.replicate_succ,Array.replicate_zero,List.push_toArray,List.append_toArray,List.nil_append,List.cons_append]
 gi_wp2
 gi_loopw [3] (fun _ wr=>wr=W.alloc (.mapIter (some mb) 0 #[] 0)) (fun _ _=>0)
 case atStart=>rfl
 case round=>
  subst hrel
  gi_wp2
  go_end0
  first | exact ⟨⟨_,rfl⟩,Or.inl ⟨_,rfl,HJ.out⟩⟩ | exact ⟨⟨_,rfl⟩,HJ.out⟩
theorem aEo (w:World) (B mb:Nat) (hB:w.cell? ⟨B,0,none⟩=some (.map (some mb))) (hm:w.heap[mb]?=some (.map #[] 0)):Calls Tryz.prog 266 #[.slice none 0 0,.func (.func 196) #[] #[.pointer (some ⟨B,0,none⟩)]] w fun e w'=>e=.returned (.slice none 0 0)∧K0 w w':=by
 refine (callsIn_wide (n:=6)).1 ?_
 have h1:1≤6:=aA
 have hlt:B<w.heap.size:=World.block_lt_of_cell? w _ hB
 have hB1:(w.alloc (.cells #[.slice none 0 0] 145)).cell? ⟨B,0,none⟩=some (.map (some mb)):=((aD.refl (fun _=>False) w).alloc _).cell' hB (fun e=>e)
 have hm1:(w.alloc (.cells #[.slice none 0 0] 145)).heap[mb]?=some (.map #[] 0):=aL hm _
 have HS:=Lib.hid (fun (n:Nat) (Kp:World→World→Prop)=>aHl Fence.wide n trivial rfl (w.alloc (.cells #[.slice none 0 0] 145)) Kp B mb hB1 hm1)
 clear hB1 hm1 hm hB
 refine callsIn_of_wp_marks Tryz.func266 rfl trivial ?_ rfl
 simp only [Tryz.ntmps266,List.size_toArray,List.length_cons,List.length_nil,Nat.reduceAdd,Nat.reduceSub,Array.replicate_succ,Array.replicate_zero,List.push_toArray,List.append_toArray,List.nil_append,List.cons_append]
 gi_wp2
 refine wpIn_rangeFunc_ownF rfl h1 (gf:=196) (lb:=#[.pointer (some ⟨B,0,none⟩)]) rfl trivial (enters_of Tryz.func196 aF rfl) (HS.out _ (Below w.heap.size)) belowK_t (belowK_b aK) (Below.refl _ _) (fun x=>x.elim)
  (fun _ W=>W.cell? ⟨w.heap.size,0,none⟩=some (.slice none 0 0)∧Below w.heap.size w W) (fun _ _ _=>False)
  (OwnFrom.and (Own.from (fun s A B row hs hg hr=>cell_kept hs hg hr) _) (ownFrom_below (Nat.le_refl _) aK))
  (fun _ _ _ _ _ hs _ _=>hs) ⟨by simp,(Below.refl _ _).alloc (Nat.le_refl _) _⟩
  (fun x=>x.elim) ?assign ?body ?done ?stop
 case assign=>exact fun l x=>x.elim
 case body=>
  intro l pre x W _ hlt
  exact absurd hlt (Nat.not_lt_zero _)
 case done=>
  rintro D xs W hD rfl ⟨hc,hB⟩ hK
  gi_wp2
  refine ⟨by simp,Or.inl ⟨_,_,rfl,run_takeDeferred hK,?_⟩⟩
  exact ⟨_,results_tmp rfl _ _ _,rfl,K0.of_below (hB.trans (belowK_b (w:=w) (Nat.le_refl _) W D _ _ (by simp at hD;omega) hK rfl rfl))⟩
 case stop=>
  rintro D c pre W _ h _ _
  exact h.elim
theorem aB6 (w:World) (B mb:Nat) (hB:w.cell? ⟨B,0,none⟩=some (.map (some mb))) (hm:w.heap[mb]?=some (.map #[] 0)):Calls Tryz.prog 194 #[.func (.func 196) #[] #[.pointer (some ⟨B,0,none⟩)]] w fun e w'=>e=.returned (.slice none 0 0)∧K0 w w':=by
 have HA:=Lib.hid (aEo w B mb hB hm)
 clear hB hm
 go_enter Tryz.func194,Tryz.ntmps194
 go_wp2_with fail
 refine HA.out.mono ?_
 rintro e w1 ⟨rfl,k1⟩
 have HK:=Lib.hid k1
 clear k1
 go_wp2_with fail
 go_ret
 exact ⟨rfl,HK.out⟩
theorem aEq (w:World) (f:Value):Calls Tryz.prog 337 #[.slice none 0 0,.int .i64 0,.int .i64 0,f] w fun e w'=>e=.returned (.tuple #[])∧K0 w w':=by
 go_enter Tryz.func337,Tryz.ntmps337
 go_wp2_with fail
 go_loopw [8] (fun iv wr=>iv=.int .i64 1∧Hid (K0 w wr)) (fun _ _=>0)
 case atStart=>exact ⟨rfl,(aD.refl _ _:K0 w w)⟩
 case round=>
  obtain ⟨rfl,HK⟩:=hrel
  go_wp2_with fail
  go_end0
  exact ⟨rfl,HK.out⟩
theorem aN0 (w:World) (f:Value) (l:Int):Calls Tryz.prog 267 #[.slice none 0 0,.int .i64 0,.int .i64 0,.int .i64 l,f] w fun e w'=>e=.returned (.tuple #[])∧K0 w w':=by
 have HI:Hid (∀ wx,Calls Tryz.prog 337 #[.slice none 0 0,.int .i64 0,.int .i64 0,f] wx fun e w'=>e=.returned (.tuple #[])∧K0 wx w'):=fun wx=>aEq wx f
 go_enter Tryz.func267,Tryz.ntmps267
 go_wp2_with fail
 go_loopw [1,2] (fun a b wr=>a=.int .i64 0∧b=.int .i64 0∧Hid (K0 w wr)) (fun _ _ _=>0)
 case atStart=>exact ⟨rfl,rfl,(aD.refl _ _:K0 w w)⟩
 case round=>
  obtain ⟨rfl,rfl,HK⟩:=hrel
  go_wp2_with fail
  refine (HI.out _).mono ?_
  rintro e w2 ⟨rfl,k2⟩
  have HK2:Hid (K0 w w2):=K0.tr HK.out k2
  clear k2
  go_wp2_with fail
  refine bodyPost_ret (results_none rfl _ _ _) rfl ?_
  exact ⟨rfl,HK2.out⟩
theorem aJ2 (w:World) (f:Value):Calls Tryz.prog 195 #[.slice none 0 0,f] w fun e w'=>e=.returned (.tuple #[])∧K0 w w':=by
 have HP:Hid (∀ l wx,Calls Tryz.prog 267 #[.slice none 0 0,.int .i64 0,.int .i64 0,.int .i64 l,f] wx fun e w'=>e=.returned (.tuple #[])∧K0 wx w'):=fun l wx=>aN0 wx f l
 have HL:=Lib.hid (Tryz.bits_Len 0 w aA aA)
 go_enter Tryz.func195,Tryz.ntmps195
 go_wp2_with fail
 refine HL.out.mono ?_
 rintro e w1 ⟨rfl,rfl⟩
 go_wp2_with fail
 refine (HP.out _ _).mono ?_
 rintro e w2 ⟨rfl,k2⟩
 have HK:=Lib.hid k2
 clear k2
 go_wp2_with fail
 go_end0
 exact ⟨rfl,HK.out⟩
theorem aEv (w:World) (f:Value) (B mb:Nat) (hB:w.cell? ⟨B,0,none⟩=some (.map (some mb))) (hm:w.heap[mb]?=some (.map #[] 0)):Calls Tryz.prog 134 #[.func (.func 196) #[] #[.pointer (some ⟨B,0,none⟩)],f] w fun e w'=>e=.returned (.slice none 0 0)∧K0 w w':=by
 have HC:=Lib.hid (aB6 w B mb hB hm)
 have HS:Hid (∀ wx,Calls Tryz.prog 195 #[.slice none 0 0,f] wx fun e w'=>e=.returned (.tuple #[])∧K0 wx w'):=fun wx=>aJ2 wx f
 clear hB hm
 go_enter Tryz.func134,Tryz.ntmps134
 go_wp2_with fail
 refine HC.out.mono ?_
 rintro e w1 ⟨rfl,k1⟩
 have HK1:=Lib.hid k1
 clear k1
 go_wp2_with fail
 refine (HS.out _).mono ?_
 rintro e w2 ⟨rfl,k2⟩
 have HK2:Hid (K0 w w2):=K0.tr HK1.out k2
 clear k2
 go_wp2_with fail
 go_ret
 exact ⟨rfl,HK2.out⟩
theorem aBa {w:World} {tb mb:Nat} {room:Int} (h:rV w tb mb room):Calls Tryz.prog 64 #[.pointer (some ⟨tb,0,none⟩)] w fun e w'=>e=.returned (.slice none 0 0)∧K0 w w':=by
 have c1:w.cell? ⟨tb,1,none⟩=some (.map (some mb)):=aB h.blk 1
 have lt:tb<w.heap.size:=aC h.blk
 have HV:=Lib.hid (aNu mb w)
 have HS:=Lib.hid (aEv (w.alloc (.cells #[.map (some mb)] 272)) (.func (.func 136) #[] #[]) w.heap.size mb (aB (aI w _ _ rfl) 0) (aL h.mp _))
 clear h
 go_enter Tryz.func64,Tryz.ntmps64
 go_wp2_with fail
 refine HV.out.mono ?_
 rintro e w1 ⟨rfl,rfl⟩
 go_wp2_with fail
 refine HS.out.mono ?_
 rintro e w2 ⟨rfl,k2⟩
 have HK2:Hid (K0 w w2):=K0.tr ((aD.refl (fun _=>False) w).alloc _) k2
 clear k2
 go_wp2_with fail
 go_ret
 exact ⟨rfl,HK2.out⟩
end Go.Proofs.YteapahcklcldkaaGreatDoor
namespace Go.Proofs.YteapahcklcldkaaGreatDoor
open Go.RowKit Fx
theorem aBb {w:World} {stb:Nat} (hpl:Calls Tryz.prog 183 #[.pointer (some ⟨stb,0,none⟩)] w fun e w'=>e=.returned (.slice none 0 0)∧K0 w w') :
  Calls Tryz.prog 131 #[.pointer (some ⟨stb,0,none⟩)] w fun e w'=>e=.returned (.int .i64 0)∧K0 w w':=by
 have HPL:=Lib.hid hpl
 clear hpl
 go_enter Tryz.func131,Tryz.ntmps131
 go_wp2_with fail
 refine HPL.out.mono ?_
 rintro e w1 ⟨rfl,k1⟩
 have HK:=Lib.hid k1
 clear k1
 go_wp2_with fail
 refine wp_loop_rounds 1 ?_
 rw [rounds_succ]
 go_wp2_with fail
 go_ret
 exact ⟨rfl,HK.out⟩
theorem aB7 {w:World} {stb:Nat} {id ix:Int} (Q:World→World→Prop) (hpl:Calls Tryz.prog 183 #[.pointer (some ⟨stb,0,none⟩)] w fun e w'=>∃ g c,e=.returned (.slice (some ⟨g,0,none⟩) 1 c)∧w'.cell? ⟨g,0,none⟩=some (.int .i64 id)∧w'.cell? ⟨g,1,none⟩=some (.int .i64 ix)∧w.heap.size≤g∧K0 w w')
  (hop:∀ wx,K0 w wx→Calls Tryz.prog 139 #[.pointer (some ⟨stb,0,none⟩),.agg #[.int .i64 id,.int .i64 ix]] wx fun e w'=>e=.returned (.int .i64 0)∧Q wx w') :
  Calls Tryz.prog 131 #[.pointer (some ⟨stb,0,none⟩)] w fun e w'=>e=.returned (.int .i64 0)∧∃ wx,K0 w wx∧Q wx w':=by
 have HPL:=Lib.hid hpl
 have HOP:=Lib.hid hop
 clear hpl hop
 go_enter Tryz.func131,Tryz.ntmps131
 go_wp2_with fail
 refine HPL.out.mono ?_
 rintro e w1 ⟨g,c,rfl,c0,c1,_,k1⟩
 have HK:=Lib.hid k1
 clear k1
 go_wp2_with fail
 refine wp_loop_rounds 2 ?_
 rw [rounds_succ]
 go_wp2_with fail
 refine (HOP.out _ (HK.out.alloc _)).mono ?_
 rintro e w2 ⟨rfl,q⟩
 have HQ:Hid (∃ wx,K0 w wx∧Q wx w2):=⟨_,HK.out.alloc _,q⟩
 clear q c0 c1
 go_wp2_with fail
 rw [rounds_succ]
 go_wp2_with fail
 go_ret
 exact ⟨rfl,HQ.out⟩
theorem aCc {w:World} {stb tb mb:Nat} {room:Int} (c6:w.cell? ⟨stb,6,none⟩=some (.pointer (some ⟨tb,0,none⟩))) (h:rV w tb mb room) :
  Calls Tryz.prog 63 #[.pointer (some ⟨stb,0,none⟩)] w fun e w'=>∃ tb' mb',e=.returned (.pointer (some ⟨tb',0,none⟩))∧rV w' tb' mb' 1000∧K0 w w':=by
 have HN:=Lib.hid (rP 1000 aA w)
 have HH:=Lib.hid h
 have lt:stb<w.heap.size:=World.block_lt_of_cell? w _ c6
 clear h
 go_enter Tryz.func63,Tryz.ntmps63
 go_wp2_with fail
 refine HN.out.mono ?_
 rintro e w1 ⟨tb',mb',rfl,ho,_,_,k1⟩
 have c6':=k1.cell' c6 (fun e=>e)
 have lt':stb<w1.heap.size:=Nat.lt_of_lt_of_le lt k1.size
 have HKY:=Lib.hid (aBa (HH.out.keep k1 (fun e=>e) (fun e=>e)))
 have HO:=Lib.hid ho
 have HK1:=Lib.hid k1
 clear k1 ho c6 lt
 go_wp2_with fail
 refine HKY.out.mono ?_
 rintro e w2 ⟨rfl,k2⟩
 have HO2:Hid (rV w2 tb' mb' 1000):=HO.out.keep k2 (fun e=>e) (fun e=>e)
 have HK2:Hid (K0 w w2):=K0.tr HK1.out k2
 clear k2 c6' lt'
 go_wp2_with fail
 refine wp_loop_rounds 1 ?_
 rw [rounds_succ]
 go_wp2_with fail
 go_ret
 exact ⟨_,_,rfl,HO2.out,HK2.out⟩
theorem aUu {w:World} {stb tb tm id:Nat} {t:Tpc.gG} {s:ByteArray} {n:Int} (hid:id<100) (c3:w.cell? ⟨stb,3,none⟩=some (.pointer (some ⟨tb,0,none⟩))) (ht:Tpc.cP w tb tm t) (hf:t.find s=((id:Int),n,0)) :
  Calls Tryz.prog 189 #[.pointer (some ⟨stb,0,none⟩),.string s] w fun e w'=>e=.returned (.string (qJ id))∧K0 w w':=by
 have HF:Hid (Calls Tryz.prog 87 #[.pointer (some ⟨tb,0,none⟩),.string s] w fun e w'=>e=.returned (.tuple #[.int .i64 id,.int .i64 n,.int .i64 0])∧K0 w w'):=by
  refine (Tpc.aEe tb tm t s w ht).mono ?_
  rintro e w' ⟨rfl,k'⟩
  exact ⟨by rw [hf],k'⟩
 have HI:=Lib.hid (fun wx=>Tryz.strconv_Itoa_small id hid wx)
 have lt:stb<w.heap.size:=World.block_lt_of_cell? w _ c3
 clear ht hf
 go_enter Tryz.func189,Tryz.ntmps189
 go_wp2_with fail
 refine HF.out.mono ?_
 rintro e w1 ⟨rfl,k1⟩
 have HK:=Lib.hid k1
 clear k1 c3 lt
 go_wp2_with fail
 refine (HI.out _).mono ?_
 rintro e w2 ⟨rfl,rfl⟩
 go_wp2_with fail
 go_ret
 exact ⟨rfl,HK.out⟩
abbrev cM:ByteArray:=⟨#[99]⟩
def stV (db:Nat) (lim nx:Int) (tb pm:Nat) (v5:Value) (cb:Nat):Obj:=.cells #[.pointer (some ⟨db,0,none⟩),.int .i64 lim,.int .i64 nx,.pointer (some ⟨tb,0,none⟩),.map (some pm),v5,.pointer (some ⟨cb,0,none⟩)] 264 (0,0)
def aK4 (w:World) (FD:Nat→Prop) (stb db:Nat) (lim nx:Int) (tb pm cb:Nat) (D:Dsk.aS) (w':World):Prop:=
 ∃ v5 FD',aU w' FD' db D∧w'.heap[stb]?=some (stV db lim nx tb pm v5 cb)∧aP (fun j=>FD j∨j=stb) (fun j=>FD' j∨j=stb) w w'∧¬ FD' stb
section
variable {w:World} {FD:Nat→Prop} {stb db tb tm pm cb:Nat} {lim nx:Int} {v5:Value} {D:Dsk.aS}
theorem wM {nid:Int} (hb:w.heap[stb]?=some (stV db lim nx tb pm v5 cb)) (hsb:¬ FD stb) (hlt:∀ k,FD k→k<w.heap.size) (ht:Tpc.cP w tb tm ⟨nid,[]⟩) (htf:(¬ FD tb∧¬ FD tm)∧tb≠stb∧tm≠stb)
  (hop:∀ wx,K0 w wx→Calls Tryz.prog 262 #[.pointer (some ⟨db,0,none⟩),.agg #[.string cM,.int .i64 lim,.int .i64 200]] wx fun e w'=>∃ lb,e=.returned (.tuple #[.pointer (some ⟨lb,0,none⟩),.int .i64 0])∧kA FD db D cM lim [] lb wx w') :
  Calls Tryz.prog 132 #[.pointer (some ⟨stb,0,none⟩)] w fun e w'=>e=.returned (.int .i64 0)∧aK4 w FD stb db lim nx tb pm cb D w':=by
 unfold stV at hb
 have HOPEN:Hid (Calls Tryz.prog 188 #[.pointer (some ⟨stb,0,none⟩),.string cM] w fun e w'=>∃ lb wy,e=.returned (.tuple #[.pointer (some ⟨lb,0,none⟩),.int .i64 0])∧K0 w wy∧kA FD db D cM lim [] lb wy w'):=
  wT (aB hb 0) (aB hb 1) (fun lb a b=>kA FD db D cM lim [] lb a b) (fun wy ky=>hop wy ky)
 have HB:=Lib.hid hb
 have HSB:=Lib.hid hsb
 have HLT:=Lib.hid hlt
 have HT:=Lib.hid ht
 have HTF:=Lib.hid htf
 have hsl:stb<w.heap.size:=aC hb
 clear hb hop hsb hlt ht htf
 go_enter Tryz.func132,Tryz.ntmps132
 go_wp2_with fail
 refine HOPEN.out.mono ?_
 rintro e w2 ⟨lb,wy,rfl,ky,FD2,FL,Ss,hd2,hl2,hf2,hm2,hn2,ha2⟩
 have HM2:Hid (aP FD FD2 w w2):=aP.k0_left ky hm2
 have hB2:w2.heap[stb]?=some (.cells #[.pointer (some ⟨db,0,none⟩),.int .i64 lim,.int .i64 nx,.pointer (some ⟨tb,0,none⟩),.map (some pm),v5,.pointer (some ⟨cb,0,none⟩)] 264 (0,0)):=(HM2.out.keeps.block _ hsl HSB.out).trans HB.out
 have HB2:=Lib.hid hB2
 have HN2:Hid (∀ k,FL k→w.heap.size≤k):=fun k e=>Nat.le_trans ky.size (hn2 k e)
 have HD2:=Lib.hid hd2
 have HL2:=Lib.hid hl2
 have HF2:=Lib.hid hf2
 have c3:w2.cell? ⟨stb,3,none⟩=some (.pointer (some ⟨tb,0,none⟩)):=aB hB2 3
 have c5:w2.cell? ⟨stb,5,none⟩=some v5:=aB hB2 5
 have f5:w2.frozen? ⟨stb,5,none⟩=false:=aH hB2 5
 have sl2:stb<w2.heap.size:=aC hB2
 clear hd2 hl2 hf2 hm2 hn2 ha2 ky hB2
 have hmm:=@run_makeMap Tryz.prog
 go_wp2_with fail
 obtain ⟨W,hW⟩:∃ W,W=(w2.setCell ⟨stb,5,none⟩ (.pointer (some ⟨lb,0,none⟩))).alloc (.map #[] 0):=⟨_,rfl⟩
 rw [← hW]
 have KW:aD (fun j=>j=stb) w2 W:=(by rw [hW];exact ((aD.refl (fun j=>j=stb) w2).setC 5 _ (fun _=>rfl)).alloc _)
 have HBW:Hid (W.heap[stb]?=some (stV db lim nx tb pm (.pointer (some ⟨lb,0,none⟩)) cb)):=(by rw [hW];exact aL (aM HB2.out 5 _) _)
 have HFS:Hid (∀ j,FL j→¬ j=stb):=fun j e q=>by have:=HN2.out j e;omega
 have HKW:=Lib.hid KW
 have HLW:Hid (fN W FL lb db cM lim 200 Ss):=HL2.out.keep KW (fun j e=>HFS.out j e)
 have htn:Tpc.cP W tb tm ⟨nid,[]⟩:=(HT.out.keep HM2.out.keeps HTF.out.1.1 HTF.out.1.2).keep KW HTF.out.2.1 HTF.out.2.2
 have HLI:Hid (Calls Tryz.prog 39 #[.pointer (some ⟨tb,0,none⟩)] W fun e w'=>(∃ a c,e=.returned (.slice a 0 c))∧K0 W w'):=by
  refine (Tpc.zC htn (by simp [KD]) (fun p hp=>by cases hp) (Nat.zero_le _)).mono ?_
  rintro e w' ⟨a,c,ss,rfl,hp,_,_,k⟩
  have:ss=[]:=List.perm_nil.1 hp
  subst this
  exact ⟨⟨a,c,rfl⟩,k⟩
 clear hW KW htn c3 c5 f5 sl2
 refine HLI.out.mono ?_
 rintro e w3 ⟨⟨a,c,rfl⟩,k3⟩
 have HK3:=Lib.hid k3
 have HSG:Hid (Calls Tryz.prog 190 #[.pointer (some ⟨lb,0,none⟩),.int .i64 0] w3 fun e w'=>e=.returned (.tuple #[.slice none 0 0,.bool false])∧K0 w3 w'):=vE (HLW.out.k0 k3) HF2.out 0 rfl
 have hb3:w3.heap[stb]?=some (stV db lim nx tb pm (.pointer (some ⟨lb,0,none⟩)) cb):=(k3.block _ (aC HBW.out) (fun e=>e)).trans HBW.out
 have HB3:=Lib.hid hb3
 have c5:w3.cell? ⟨stb,5,none⟩=some (.pointer (some ⟨lb,0,none⟩)):=aB hb3 5
 have sl3:stb<w3.heap.size:=aC hb3
 clear k3 hb3
 go_wp2_with fail
 refine wp_loop_rounds 1 ?_
 rw [rounds_succ]
 go_wp2_with fail
 refine wp_loop_rounds 1 ?_
 rw [rounds_succ]
 go_wp2_with fail
 refine HSG.out.mono ?_
 rintro e w4 ⟨rfl,k4⟩
 have HK4:Hid (K0 W w4):=K0.tr HK3.out k4
 have HB4:Hid (w4.heap[stb]?=some (stV db lim nx tb pm (.pointer (some ⟨lb,0,none⟩)) cb)):=(k4.block _ (aC HB3.out) (fun e=>e)).trans HB3.out
 clear k4 c5 sl3
 go_wp2_with fail
 go_ret
 refine ⟨rfl,_,FD2,?_,HB4.out,⟨?_,?_⟩,?_⟩
 ·exact (HD2.out.keep HKW.out (fun j e q=>(HM2.out.apart (G:=fun j=>j=stb) (fun j e=>⟨e▸hsl,fun q=>HSB.out (e▸q)⟩) stb rfl).2 ((show j=stb from q)▸e))).k0 HK4.out
 ·exact ((HM2.out.keeps.mono (S1:=fun j=>FD j∨j=stb) (fun _ _ e=>.inl e)).trans HKW.out (fun _ _ e=>.inr e)).trans HK4.out (fun _ _ e=>e.elim)
 ·intro j e
  rcases e with e | e
  ·exact (HM2.out.grows j e).imp .inl (fun h=>h)
  ·exact .inl (.inr e)
 ·exact (HM2.out.apart (G:=fun j=>j=stb) (fun j e=>⟨e▸hsl,fun q=>HSB.out (e▸q)⟩) stb rfl).2
end
theorem aQn {w:World} {tb tm:Nat} {nx id:Int} {s:ByteArray} (ht:Tpc.cP w tb tm ⟨nx,[(s,(id,1))]⟩) (hs:s.size≤100) :
  Calls Tryz.prog 39 #[.pointer (some ⟨tb,0,none⟩)] w fun e w'=>(∃ g off c,e=.returned (.slice (some ⟨g,off,none⟩) 1 c)∧w'.cell? ⟨g,off,none⟩=some (.string s)∧w'.cell? ⟨g,off+1,none⟩=some (.int .i64 1))∧K0 w w':=by
 refine (Tpc.zC ht (by simp [KD]) (fun p hp=>by have:=List.mem_singleton.1 hp;subst this;show s.size≤_;omega) aK).mono ?_
 rintro e w' ⟨a,c,ss,rfl,hp,_,hsl,k⟩
 have:ss=[s]:=List.perm_singleton.1 hp
 subst this
 have hT:Tpc.gE ⟨nx,[(s,(id,1))]⟩ [s]=[(s,1)]:=by simp [Tpc.gE,Tpc.wO,aQ]
 rw [hT] at hsl
 obtain ⟨g,off,rfl,hrow⟩:=hsl.2.2 aK
 obtain ⟨cs,hc1,hc2⟩:=hrow 0 aK
 have e1:cs=[.string s,.int .i64 1]:=hc2.2
 subst e1
 have h0:=hc2.1 0 aA
 have h1:=hc2.1 1 aA
 exact ⟨⟨g,off,c,rfl,by simpa using h0,by simpa using h1⟩,k⟩
section
variable {w:World} {FD:Nat→Prop} {stb db tb tm pm cb:Nat} {lim nx:Int} {v5:Value} {D:Dsk.aS}
theorem yJ {nid:Int} {id:Nat} {s:ByteArray} (hid:id<100) (hs:s.size≤100) (hb:w.heap[stb]?=some (stV db lim nx tb pm v5 cb)) (hsb:¬ FD stb) (hlt:∀ k,FD k→k<w.heap.size) (ht:Tpc.cP w tb tm ⟨nid,[(s,((id:Int),1))]⟩) (htf:(¬ FD tb∧¬ FD tm)∧tb≠stb∧tm≠stb)
  (hop:∀ wx,K0 w wx→Calls Tryz.prog 262 #[.pointer (some ⟨db,0,none⟩),.agg #[.string cM,.int .i64 lim,.int .i64 200]] wx fun e w'=>∃ lb,e=.returned (.tuple #[.pointer (some ⟨lb,0,none⟩),.int .i64 0])∧kA FD db D cM lim [] lb wx w') :
  Calls Tryz.prog 132 #[.pointer (some ⟨stb,0,none⟩)] w fun e w'=>e=.returned (.int .i64 0)∧aK4 w FD stb db lim nx tb pm cb D w':=by
 unfold stV at hb
 have HOPEN:Hid (Calls Tryz.prog 188 #[.pointer (some ⟨stb,0,none⟩),.string cM] w fun e w'=>∃ lb wy,e=.returned (.tuple #[.pointer (some ⟨lb,0,none⟩),.int .i64 0])∧K0 w wy∧kA FD db D cM lim [] lb wy w'):=
  wT (aB hb 0) (aB hb 1) (fun lb a b=>kA FD db D cM lim [] lb a b) (fun wy ky=>hop wy ky)
 have HB:=Lib.hid hb
 have HSB:=Lib.hid hsb
 have HLT:=Lib.hid hlt
 have HT:=Lib.hid ht
 have HTF:=Lib.hid htf
 have hsl:stb<w.heap.size:=aC hb
 clear hb hop hsb hlt ht htf
 go_enter Tryz.func132,Tryz.ntmps132
 go_wp2_with fail
 refine HOPEN.out.mono ?_
 rintro e w2 ⟨lb,wy,rfl,ky,FD2,FL,Ss,hd2,hl2,hf2,hm2,hn2,ha2⟩
 have HM2:Hid (aP FD FD2 w w2):=aP.k0_left ky hm2
 have hB2:w2.heap[stb]?=some (.cells #[.pointer (some ⟨db,0,none⟩),.int .i64 lim,.int .i64 nx,.pointer (some ⟨tb,0,none⟩),.map (some pm),v5,.pointer (some ⟨cb,0,none⟩)] 264 (0,0)):=(HM2.out.keeps.block _ hsl HSB.out).trans HB.out
 have HB2:=Lib.hid hB2
 have HN2:Hid (∀ k,FL k→w.heap.size≤k):=fun k e=>Nat.le_trans ky.size (hn2 k e)
 have HD2:=Lib.hid hd2
 have HL2:=Lib.hid hl2
 have HF2:=Lib.hid hf2
 have c3:w2.cell? ⟨stb,3,none⟩=some (.pointer (some ⟨tb,0,none⟩)):=aB hB2 3
 have c5:w2.cell? ⟨stb,5,none⟩=some v5:=aB hB2 5
 have f5:w2.frozen? ⟨stb,5,none⟩=false:=aH hB2 5
 have sl2:stb<w2.heap.size:=aC hB2
 clear hd2 hl2 hf2 hm2 hn2 ha2 ky hB2
 have hmm:=@run_makeMap Tryz.prog
 go_wp2_with fail
 obtain ⟨W,hW⟩:∃ W,W=(w2.setCell ⟨stb,5,none⟩ (.pointer (some ⟨lb,0,none⟩))).alloc (.map #[] 0):=⟨_,rfl⟩
 rw [← hW]
 have KW:aD (fun j=>j=stb) w2 W:=(by rw [hW];exact ((aD.refl (fun j=>j=stb) w2).setC 5 _ (fun _=>rfl)).alloc _)
 have HBW:Hid (W.heap[stb]?=some (stV db lim nx tb pm (.pointer (some ⟨lb,0,none⟩)) cb)):=(by rw [hW];exact aL (aM HB2.out 5 _) _)
 have HFS:Hid (∀ j,FL j→¬ j=stb):=fun j e q=>by have:=HN2.out j e;omega
 have HKW:=Lib.hid KW
 have HLW:Hid (fN W FL lb db cM lim 200 Ss):=HL2.out.keep KW (fun j e=>HFS.out j e)
 have htn:Tpc.cP W tb tm ⟨nid,[(s,((id:Int),1))]⟩:=(HT.out.keep HM2.out.keeps HTF.out.1.1 HTF.out.1.2).keep KW HTF.out.2.1 HTF.out.2.2
 have HLI:=Lib.hid (aQn htn hs)
 have HTW:=Lib.hid htn
 have hmp:bM Value.string W w2.heap.size ([]:List (ByteArray×Value)):=by
  rw [hW]
  have:=kF (e:=Value.string) (κ:=ByteArray) (w2.setCell ⟨stb,5,none⟩ (.pointer (some ⟨lb,0,none⟩)))
  simpa [World.setCell] using this
 have HMP:=Lib.hid hmp
 have hz2:w2.heap.size<W.heap.size:=hmp.lt
 clear hW KW htn c3 c5 f5 sl2 hmp
 refine HLI.out.mono ?_
 rintro e w3 ⟨⟨g,off,c,rfl,r0,r1⟩,k3⟩
 have hz3:w2.heap.size<w3.heap.size:=Nat.lt_of_lt_of_le hz2 k3.size
 have HMP3:Hid (bM Value.string w3 w2.heap.size ([]:List (ByteArray×Value))):=HMP.out.keep k3 (fun e=>e)
 have HT3:Hid (Tpc.cP w3 tb tm ⟨nid,[(s,((id:Int),1))]⟩):=HTW.out.keep k3 (fun e=>e) (fun e=>e)
 have HK3:=Lib.hid k3
 have HSG:Hid (Calls Tryz.prog 190 #[.pointer (some ⟨lb,0,none⟩),.int .i64 0] w3 fun e w'=>e=.returned (.tuple #[.slice none 0 0,.bool false])∧K0 w3 w'):=vE (HLW.out.k0 k3) HF2.out 0 rfl
 have hb3:w3.heap[stb]?=some (stV db lim nx tb pm (.pointer (some ⟨lb,0,none⟩)) cb):=(k3.block _ (aC HBW.out) (fun e=>e)).trans HBW.out
 have HB3:=Lib.hid hb3
 have c5:w3.cell? ⟨stb,5,none⟩=some (.pointer (some ⟨lb,0,none⟩)):=aB hb3 5
 have sl3:stb<w3.heap.size:=aC hb3
 clear k3 hb3
 go_wp2_with fail
 refine wp_loop_rounds 2 ?_
 rw [rounds_succ]
 go_upto_region 8 with fail
 obtain ⟨W5,hW5⟩:∃ W5,W5=w3.alloc (.cells #[.string s,.int .i64 1] 36):=⟨_,rfl⟩
 rw [← hW5]
 have k5:K0 w3 W5:=(by rw [hW5];exact (aD.refl _ _).alloc _)
 have y0:W5.cell? ⟨w3.heap.size,0,none⟩=some (.string s):=by rw [hW5];exact aB (aI w3 _ _ rfl) 0
 have yl:w3.heap.size<W5.heap.size:=by rw [hW5];simp
 have HK5D:Hid (K0 w3 W5.drew):=k5.drew
 have HID:Hid (Calls Tryz.prog 189 #[.pointer (some ⟨stb,0,none⟩),.string s] W5.drew fun e w'=>e=.returned (.string (qJ id))∧K0 W5.drew w'):=
  aUu (n:=1) hid (HK5D.out.cell' (aB (show w3.heap[stb]?=some (.cells #[.pointer (some ⟨db,0,none⟩),.int .i64 lim,.int .i64 nx,.pointer (some ⟨tb,0,none⟩),.map (some pm),(.pointer (some ⟨lb,0,none⟩)),.pointer (some ⟨cb,0,none⟩)] 264 (0,0)) from HB3.out) 3) (fun e=>e)) (HT3.out.keep HK5D.out (fun e=>e) (fun e=>e)) (by simp [Tpc.gG.find,aQ])
 have HMD:Hid (bM Value.string W5.drew w2.heap.size ([]:List (ByteArray×Value))):=HMP3.out.keep HK5D.out (fun e=>e)
 obtain ⟨o,hu,_⟩:=HMD.out.put_all (eG Tryz.underlying9) Tryz.underlying351 (qJ id) (.string s)
 have HU:=Lib.hid hu
 clear hW5 k5 hu r0 r1 c5 sl3
 go_region_held3 (fun w':World=>w'.cell? ⟨w3.heap.size,0,none⟩=some (.string s))
  (first | go_keep | assumption)
  (first
   | (go_at_call 189;refine HID.out.mono ?_;rintro e w' ⟨rfl,kk⟩;have y1:w'.cell? ⟨w3.heap.size,0,none⟩=some (.string s):=kk.cell' (show W5.drew.cell? _=_ from y0) (fun e=>e);have hmu:(Instr.mapUpdate 351 (.map (some w2.heap.size)) (.string (qJ id)) (.string s)).run Tryz.prog w'=.ok () (aO w' w2.heap.size o):=HU.out w' (kk.block _ HMD.out.lt (fun e=>e));have y2:(aO w' w2.heap.size o).cell? ⟨w3.heap.size,0,none⟩=some (.string s):=(aD.setObj (b:=w2.heap.size) (aD.refl (fun j=>j=w2.heap.size) w') (fun _=>rfl) o).cell' y1 (by show ¬ w3.heap.size=w2.heap.size;omega);have HKK:Hid (K0 W5.drew w'):=Lib.hid kk;clear kk))
 all_goals
  rename World=>w7
  obtain ⟨W8,hW8⟩:∃ W8,W8=aO w7 w2.heap.size o:=⟨_,rfl⟩
  rw [← hW8]
  have hkk:K0 W w7:=K0.tr HK3.out (K0.tr HK5D.out HKK.out)
  have k8:aD (fun j=>j=w2.heap.size) W W8:=by rw [hW8];exact aD.setObj (b:=w2.heap.size) (hkk.mono (S1:=fun j=>j=w2.heap.size) (fun _ _ e=>e.elim)) (fun _=>rfl) o
  have HK8:=Lib.hid k8
  have hs2:stb<w2.heap.size:=aC HB2.out
  have HB8:Hid (W8.heap[stb]?=some (stV db lim nx tb pm (.pointer (some ⟨lb,0,none⟩)) cb)):=(k8.block _ (aC HBW.out) (fun e=>by have:stb=w2.heap.size:=e;omega)).trans HBW.out
  have HSG8:Hid (Calls Tryz.prog 190 #[.pointer (some ⟨lb,0,none⟩),.int .i64 0] W8 fun e w'=>e=.returned (.tuple #[.slice none 0 0,.bool false])∧K0 W8 w'):=vE (HLW.out.keep k8 (fun j e q=>by have h1:=HL2.out.lt j e;have:j=w2.heap.size:=q;omega)) HF2.out 0 rfl
  have c5:W8.cell? ⟨stb,5,none⟩=some (.pointer (some ⟨lb,0,none⟩)):=aB HB8.out 5
  have sl8:stb<W8.heap.size:=aC HB8.out
  clear hW8 hkk k8
  go_wp2_with fail
  rw [rounds_succ]
  go_wp2_with fail
  refine wp_loop_rounds 1 ?_
  rw [rounds_succ]
  go_wp2_with fail
  refine HSG8.out.mono ?_
  rintro e w4 ⟨rfl,k4⟩
  have HK4:Hid (aD (fun j=>j=w2.heap.size) W w4):=HK8.out.trans k4 (fun _ _ e=>e.elim)
  have HB4:Hid (w4.heap[stb]?=some (stV db lim nx tb pm (.pointer (some ⟨lb,0,none⟩)) cb)):=(k4.block _ (aC HB8.out) (fun e=>e)).trans HB8.out
  clear k4 c5 sl8
  go_wp2_with fail
  go_ret
  refine ⟨rfl,_,FD2,?_,HB4.out,⟨?_,?_⟩,?_⟩
  ·exact (HD2.out.keep HKW.out (fun j e q=>(HM2.out.apart (G:=fun j=>j=stb) (fun j e=>⟨e▸hsl,fun q=>HSB.out (e▸q)⟩) stb rfl).2 ((show j=stb from q)▸e))).keep HK4.out (fun j e q=>by have h1:=HD2.out.lt j e;have:j=w2.heap.size:=q;omega)
  ·exact ((HM2.out.keeps.mono (S1:=fun j=>FD j∨j=stb) (fun _ _ e=>.inl e)).trans HKW.out (fun _ _ e=>.inr e)).trans HK4.out (fun j hj e=>by have h1:=HM2.out.keeps.size;have:j=w2.heap.size:=e;omega)
  ·intro j e
   rcases e with e | e
   ·exact (HM2.out.grows j e).imp .inl (fun h=>h)
   ·exact .inl (.inr e)
  ·exact (HM2.out.apart (G:=fun j=>j=stb) (fun j e=>⟨e▸hsl,fun q=>HSB.out (e▸q)⟩) stb rfl).2
end
theorem aR4 {g cap:Nat} {stb x8:Nat} (S:Nat→World→Prop) (hrow:∀ k wx,S k wx→wx.cell? ⟨g,0,none⟩=some (.func (Fn.func 127) #[.pointer (some ⟨stb,0,none⟩)] #[])∧wx.cell? ⟨g,1,none⟩=some (.func (Fn.func 128) #[] #[.pointer (some ⟨x8,0,none⟩)])∧wx.cell? ⟨g,2,none⟩=some (.func (Fn.func 130) #[.pointer (some ⟨stb,0,none⟩)] #[])∧wx.cell? ⟨g,3,none⟩=some (.func (Fn.func 131) #[.pointer (some ⟨stb,0,none⟩)] #[])∧wx.cell? ⟨g,4,none⟩=some (.func (Fn.func 132) #[.pointer (some ⟨stb,0,none⟩)] #[]))
  (h0:∀ wx,S 0 wx→Calls Tryz.prog 127 #[.pointer (some ⟨stb,0,none⟩)] wx fun e w'=>e=.returned (.int .i64 0)∧S 1 w')
  (h1:∀ wx,S 1 wx→Calls Tryz.prog 128 #[.pointer (some ⟨x8,0,none⟩)] wx fun e w'=>e=.returned (.int .i64 0)∧S 2 w')
  (h2:∀ wx,S 2 wx→Calls Tryz.prog 130 #[.pointer (some ⟨stb,0,none⟩)] wx fun e w'=>e=.returned (.int .i64 0)∧S 3 w')
  (h3:∀ wx,S 3 wx→Calls Tryz.prog 131 #[.pointer (some ⟨stb,0,none⟩)] wx fun e w'=>e=.returned (.int .i64 0)∧S 4 w')
  (h4:∀ wx,S 4 wx→Calls Tryz.prog 132 #[.pointer (some ⟨stb,0,none⟩)] wx fun e w'=>e=.returned (.int .i64 0)∧S 5 w')
  {w:World} (hw:S 0 w):Calls Tryz.prog 126 #[.slice (some ⟨g,0,none⟩) 5 cap] w fun e w'=>e=.returned (.int .i64 0)∧S 5 w':=by
 have HROW:=Lib.hid hrow
 have H0:=Lib.hid h0
 have H1:=Lib.hid h1
 have H2:=Lib.hid h2
 have H3:=Lib.hid h3
 have H4:=Lib.hid h4
 have HS0:=Lib.hid hw
 clear hrow hw h0 h1 h2 h3 h4
 go_enter Tryz.func126,Tryz.ntmps126
 go_wp2_with fail
 refine wp_loop_rounds 6 ?_
 rw [rounds_succ]
 obtain ⟨r0,r1,r2,r3,r4⟩:=HROW.out _ _ HS0.out
 go_wp2_with fail
 refine (H0.out _ HS0.out).mono ?_
 rintro e w1 ⟨rfl,hs⟩
 have HS1:=Lib.hid hs
 clear hs HS0 H0 r0 r1 r2 r3 r4
 go_wp2_with fail
 rw [rounds_succ]
 obtain ⟨r0,r1,r2,r3,r4⟩:=HROW.out _ _ HS1.out
 go_wp2_with fail
 refine (H1.out _ HS1.out).mono ?_
 rintro e w2 ⟨rfl,hs⟩
 have HS2:=Lib.hid hs
 clear hs HS1 H1 r0 r1 r2 r3 r4
 go_wp2_with fail
 rw [rounds_succ]
 obtain ⟨r0,r1,r2,r3,r4⟩:=HROW.out _ _ HS2.out
 go_wp2_with fail
 refine (H2.out _ HS2.out).mono ?_
 rintro e w3 ⟨rfl,hs⟩
 have HS3:=Lib.hid hs
 clear hs HS2 H2 r0 r1 r2 r3 r4
 go_wp2_with fail
 rw [rounds_succ]
 obtain ⟨r0,r1,r2,r3,r4⟩:=HROW.out _ _ HS3.out
 go_wp2_with fail
 refine (H3.out _ HS3.out).mono ?_
 rintro e w4 ⟨rfl,hs⟩
 have HS4:=Lib.hid hs
 clear hs HS3 H3 r0 r1 r2 r3 r4
 go_wp2_with fail
 rw [rounds_succ]
 obtain ⟨r0,r1,r2,r3,r4⟩:=HROW.out _ _ HS4.out
 go_wp2_with fail
 refine (H4.out _ HS4.out).mono ?_
 rintro e w5 ⟨rfl,hs⟩
 have HS5:=Lib.hid hs
 clear hs HS4 H4 r0 r1 r2 r3 r4
 go_wp2_with fail
 rw [rounds_succ]
 go_wp2_with fail
 go_ret
 exact ⟨rfl,HS5.out⟩
theorem aBj {w:World} {FD:Nat→Prop} {x8 stb db:Nat} {D:Dsk.aS} (cx:w.cell? ⟨x8,0,none⟩=some (.pointer (some ⟨stb,0,none⟩))) (c0:w.cell? ⟨stb,0,none⟩=some (.pointer (some ⟨db,0,none⟩))) (hd:aU w FD db D) (wf:Dsk.fV D) (he:Dsk.bJ D cC=6) :
  Calls Tryz.prog 128 #[.pointer (some ⟨x8,0,none⟩)] w (cZ w FD db (.int .i64 0) D):=by
 have HC:=Lib.hid (aBk c0 hd wf cC he)
 have lt:x8<w.heap.size:=World.block_lt_of_cell? w _ cx
 clear hd
 go_enter Tryz.func128,Tryz.ntmps128
 go_wp2_with fail
 refine HC.out.mono ?_
 rintro e w2 ⟨rfl,FD',h1,h2⟩
 have H1:=Lib.hid h1
 have H2:=Lib.hid h2
 clear h1 h2
 go_wp2_with fail
 go_ret
 exact ⟨rfl,FD',H1.out,H2.out⟩
structure uA (w:World) (F:Nat→Prop) (stb db:Nat) (lim nx:Int) (t:Tpc.gG) (L:List (gX×Value)) (D:Dsk.aS) (tb tm pm:Nat) (v5:Value) (cb:Nat) (FD FP:Nat→Prop):Prop where
 blk:w.heap[stb]?=some (stV db lim nx tb pm v5 cb)
 tab:Tpc.cP w tb tm t
 map:bM gX.enc w pm L
 disk:aU w FD db D
 ne:tb≠stb∧tm≠stb∧pm≠stb∧tb≠pm∧tm≠pm
 nd:¬ FD stb∧¬ FD tb∧¬ FD tm∧¬ FD pm
 np:¬ FP stb∧¬ FP tb∧¬ FP tm∧¬ FP pm
 apart:∀ k,FP k→¬ FD k
 own:F stb∧F tb∧F tm∧F pm∧(∀ k,FD k→F k)∧∀ k,FP k→F k
 lt:∀ k,F k→k<w.heap.size
def qF (w:World) (F:Nat→Prop) (stb db:Nat) (lim nx nid:Int) (D:Dsk.aS):Prop:=∃ tb tm pm v5 cb FD,uA w F stb db lim nx ⟨nid,[]⟩ [] D tb tm pm v5 cb FD (fun _=>False)
def rX (w:World) (F:Nat→Prop) (stb db:Nat) (lim nx nid:Int) (s:ByteArray) (id:Nat) (D:Dsk.aS) (Ss:List fO) (M:List (Int×Idm.aW)):Prop:=
 ∃ tb tm pm v5 cb FD FP pb,uA w F stb db lim nx ⟨nid,[(s,((id:Int),1))]⟩ [(⟨id,0⟩,.pointer (some ⟨pb,0,none⟩))] D tb tm pm v5 cb FD FP∧lF w FP pb db (fE id 0) lim Ss M
def mV (w:World) (stb:Nat):Prop:=∃ cb mb room,w.cell? ⟨stb,6,none⟩=some (.pointer (some ⟨cb,0,none⟩))∧rV w cb mb room
theorem mV.k0 {w w':World} {stb:Nat} (h:mV w stb) (k:K0 w w'):mV w' stb:=by
 obtain ⟨cb,mb,room,h1,h2⟩:=h
 exact ⟨cb,mb,room,k.cell' h1 (fun e=>e),h2.keep k (fun e=>e) (fun e=>e)⟩
theorem uA.keep {w w':World} {F S:Nat→Prop} {stb db:Nat} {lim nx:Int} {t:Tpc.gG} {L:List (gX×Value)} {D:Dsk.aS} {tb tm pm:Nat} {v5:Value} {cb:Nat} {FD FP:Nat→Prop} (h:uA w F stb db lim nx t L D tb tm pm v5 cb FD FP) (k:aD S w w') (hS:∀ k,F k→¬ S k):uA w' F stb db lim nx t L D tb tm pm v5 cb FD FP:=
 ⟨(k.block _ (aC h.blk) (hS _ h.own.1)).trans h.blk,h.tab.keep k (hS _ h.own.2.1) (hS _ h.own.2.2.1),h.map.keep k (hS _ h.own.2.2.2.1),h.disk.keep k (fun j e=>hS j (h.own.2.2.2.2.1 j e)),h.ne,h.nd,h.np,h.apart,h.own,fun j e=>Nat.lt_of_lt_of_le (h.lt j e) k.size⟩
theorem qF.keep {w w':World} {F S:Nat→Prop} {stb db:Nat} {lim nx nid:Int} {D:Dsk.aS} (h:qF w F stb db lim nx nid D) (k:aD S w w') (hS:∀ k,F k→¬ S k):qF w' F stb db lim nx nid D:=by
 obtain ⟨tb,tm,pm,v5,cb,FD,h⟩:=h
 exact ⟨tb,tm,pm,v5,cb,FD,h.keep k hS⟩
theorem rX.keep {w w':World} {F S:Nat→Prop} {stb db:Nat} {lim nx nid:Int} {s:ByteArray} {id:Nat} {D:Dsk.aS} {Ss:List fO} {M:List (Int×Idm.aW)} (h:rX w F stb db lim nx nid s id D Ss M) (k:aD S w w') (hS:∀ k,F k→¬ S k):rX w' F stb db lim nx nid s id D Ss M:=by
 obtain ⟨tb,tm,pm,v5,cb,FD,FP,pb,h,hp⟩:=h
 exact ⟨tb,tm,pm,v5,cb,FD,FP,pb,h.keep k hS,hp.keep k (fun j e=>hS j (h.own.2.2.2.2.2 j e))⟩
theorem aBf {w:World} {FD:Nat→Prop} {db:Nat} {D:Dsk.aS} (hd:aU w FD db D) (wf:Dsk.fV D) (hfu:¬ D.fuse=0) (hfl:D.files.length≤900) (hst:bF w) (hn0:¬ FD 0) (pre:ByteArray) (lim:Int) (hp:0<pre.size∧pre.size≤20) (hl:50≤lim∧lim≤1000000)
  (hs:Dsk.bJ D (nH pre)=6) (hf:Dsk.bJ D (oM pre)=6) (hw:Dsk.bJ D (vG pre)=6) (cls:ByteArray→Option (Int×List aR)) (hto:∀ s∈Dsk.cR D.files,aDw pre lim 200 D cls s)
  (hri:∀ ss:List ByteArray,ss.Perm (Dsk.cR D.files)→(ss.map fun s=>s.data.toList).Pairwise (fun x y=>x≤y)→mW (cU cls ss)) (hen:∀ s n Bs,cls s=some (n,Bs)→0<fL n Bs) (fs:List aY)
  (hfs:∀ ss:List ByteArray,ss.Perm (Dsk.cR D.files)→(ss.map fun s=>s.data.toList).Pairwise (fun x y=>x≤y)→cU cls ss=fs) :
  Calls Tryz.prog 262 #[.pointer (some ⟨db,0,none⟩),.agg #[.string pre,.int .i64 lim,.int .i64 200]] w fun e w'=>∃ lb,e=.returned (.tuple #[.pointer (some ⟨lb,0,none⟩),.int .i64 0])∧kA FD db D pre lim fs lb w w':=by
 refine (aN2 hd wf hfu hfl hst hn0 pre lim 200 hp hl aA hs hf hw cls hto hri hen).mono ?_
 rintro e w' ⟨lb,FD',F',ss,Ss,rfl,h1,h2,h3,h4,h5,h6,h7,h8⟩
 exact ⟨lb,rfl,FD',F',Ss,h3,h4,by rw [h5];exact hfs ss h1 h2,h6,h7,h8⟩
theorem kQ {D:Dsk.aS} (hD:D.files=[]) (hfu:¬ D.fuse=0) (s:ByteArray):Dsk.bJ D s=6:=by
 unfold Dsk.bJ
 rw [if_neg hfu,hD]
 rfl
theorem aJ7 {w:World} {FD:Nat→Prop} {db:Nat} {D:Dsk.aS} (hd:aU w FD db D) (wf:Dsk.fV D) (hfu:¬ D.fuse=0) (hD:D.files=[]) (hst:bF w) (hn0:¬ FD 0) (pre:ByteArray) (lim:Int) (hp:0<pre.size∧pre.size≤20) (hl:50≤lim∧lim≤1000000) :
  Calls Tryz.prog 262 #[.pointer (some ⟨db,0,none⟩),.agg #[.string pre,.int .i64 lim,.int .i64 200]] w fun e w'=>∃ lb,e=.returned (.tuple #[.pointer (some ⟨lb,0,none⟩),.int .i64 0])∧kA FD db D pre lim [] lb w w':=
 aBf hd wf hfu (by rw [hD];decide) hst hn0 pre lim hp hl (kQ hD hfu _) (kQ hD hfu _) (kQ hD hfu _) (fun _=>none) (fun s hs=>by rw [hD] at hs;cases hs) (fun ss h _=>by rw [hD] at h;have:ss=[]:=List.perm_nil.1 h;subst this;trivial) (fun s n Bs e=>by cases e) [] (fun ss h _=>by rw [hD] at h;have:ss=[]:=List.perm_nil.1 h;subst this;rfl)
def OpN (W:World) (FD:Nat→Prop) (stb db:Nat) (lim:Int) (tb _tm pm cb:Nat) (D:Dsk.aS) (k:Nat) (wx:World):Prop:=
 if k≤1 then K0 W wx
 else if k≤4 then ∃ FD1,aU wx FD1 db D∧aP FD FD1 W wx
 else ∃ v5 FD1,aU wx FD1 db D∧wx.heap[stb]?=some (stV db lim 0 tb pm v5 cb)∧aP (fun j=>FD j∨j=stb) (fun j=>FD1 j∨j=stb) W wx∧¬ FD1 stb
theorem OpN.keeps {W:World} {FD:Nat→Prop} {stb db:Nat} {lim:Int} {tb tm pm cb:Nat} {D:Dsk.aS} {k:Nat} {wx:World} (h:OpN W FD stb db lim tb tm pm cb D k wx):aD (fun j=>FD j∨j=stb) W wx:=by
 unfold OpN at h
 split at h
 ·exact h.mono (fun _ _ e=>e.elim)
 ·split at h
  ·obtain ⟨_,_,h⟩:=h
   exact h.keeps.mono (fun _ _ e=>.inl e)
  ·obtain ⟨_,_,_,_,h,_⟩:=h
   exact h.keeps
theorem aBt {W:World} {FD:Nat→Prop} {stb db tb tm pm cb x8 g cap:Nat} {lim:Int} {D:Dsk.aS} {v5:Value} (hd:aU W FD db D) (wf:Dsk.fV D) (hfu:¬ D.fuse=0) (hD:D.files=[]) (hl:50≤lim∧lim≤1000000) (hst:bF W) (hn0:¬ FD 0) (_hs0:stb≠0)
  (hb:W.heap[stb]?=some (stV db lim 0 tb pm v5 cb)) (ht:Tpc.cP W tb tm ⟨0,[]⟩) (hne:tb≠stb∧tm≠stb) (hnd:¬ FD stb∧¬ FD tb∧¬ FD tm)
  (hr:W.cell? ⟨g,0,none⟩=some (.func (Fn.func 127) #[.pointer (some ⟨stb,0,none⟩)] #[])∧W.cell? ⟨g,1,none⟩=some (.func (Fn.func 128) #[] #[.pointer (some ⟨x8,0,none⟩)])∧
   W.cell? ⟨g,2,none⟩=some (.func (Fn.func 130) #[.pointer (some ⟨stb,0,none⟩)] #[])∧W.cell? ⟨g,3,none⟩=some (.func (Fn.func 131) #[.pointer (some ⟨stb,0,none⟩)] #[])∧W.cell? ⟨g,4,none⟩=some (.func (Fn.func 132) #[.pointer (some ⟨stb,0,none⟩)] #[]))
  (cx:W.cell? ⟨x8,0,none⟩=some (.pointer (some ⟨stb,0,none⟩))) (ng:¬ FD g∧g≠stb) (_nx:¬ FD x8) :
  Calls Tryz.prog 126 #[.slice (some ⟨g,0,none⟩) 5 cap] W fun e w'=>e=.returned (.int .i64 0)∧OpN W FD stb db lim tb tm pm cb D 5 w':=by
 have hsl:stb<W.heap.size:=aC hb
 have c0:W.cell? ⟨stb,0,none⟩=some (.pointer (some ⟨db,0,none⟩)):=aB (show W.heap[stb]?=some (.cells #[.pointer (some ⟨db,0,none⟩),.int .i64 lim,.int .i64 0,.pointer (some ⟨tb,0,none⟩),.map (some pm),v5,.pointer (some ⟨cb,0,none⟩)] 264 (0,0)) from hb) 0
 have c3:W.cell? ⟨stb,3,none⟩=some (.pointer (some ⟨tb,0,none⟩)):=aB (show W.heap[stb]?=some (.cells #[.pointer (some ⟨db,0,none⟩),.int .i64 lim,.int .i64 0,.pointer (some ⟨tb,0,none⟩),.map (some pm),v5,.pointer (some ⟨cb,0,none⟩)] 264 (0,0)) from hb) 3
 have hpl:∀ {FD1:Nat→Prop} {wx wy:World},aP FD FD1 W wx→K0 wx wy→Calls Tryz.prog 183 #[.pointer (some ⟨stb,0,none⟩)] wy fun e w'=>e=.returned (.slice none 0 0)∧K0 wy w':=fun hM k=>
  aHu (k.cell' (hM.keeps.cell' c3 hnd.1) (fun e=>e)) ((ht.keep hM.keeps hnd.2.1 hnd.2.2).keep k (fun e=>e) (fun e=>e))
 refine aR4 (stb:=stb) (x8:=x8) (OpN W FD stb db lim tb tm pm cb D) (fun j wx hj=>?_) (fun wx hj=>?_) (fun wx hj=>?_) (fun wx hj=>?_) (fun wx hj=>?_) (fun wx hj=>?_) (show K0 W W from aD.refl _ _)
 ·have hk:=hj.keeps
  have hg:∀ i v,W.cell? ⟨g,i,none⟩=some v→wx.cell? ⟨g,i,none⟩=some v:=fun i v e=>hk.cell' e (fun q=>q.elim ng.1 ng.2)
  exact ⟨hg _ _ hr.1,hg _ _ hr.2.1,hg _ _ hr.2.2.1,hg _ _ hr.2.2.2.1,hg _ _ hr.2.2.2.2⟩
 ·have hk:K0 W wx:=hj
  refine (aCb (hk.cell' c0 (fun e=>e)) (hd.k0 hk) (kQ hD hfu _)).mono ?_
  rintro e w' ⟨rfl,k⟩
  exact ⟨rfl,show K0 W w' from K0.tr hk k⟩
 ·have hk:K0 W wx:=hj
  refine (aBj (hk.cell' cx (fun e=>e)) (hk.cell' c0 (fun e=>e)) (hd.k0 hk) wf (kQ hD hfu _)).mono ?_
  rintro e w' ⟨rfl,FD1,h1,h2⟩
  exact ⟨rfl,show ∃ FD1,aU w' FD1 db D∧aP FD FD1 W w' from ⟨FD1,h1,aP.k0_left hk h2⟩⟩
 ·obtain ⟨FD1,h1,hM⟩:∃ FD1,aU wx FD1 db D∧aP FD FD1 W wx:=hj
  refine (aKu (hM.keeps.cell' c0 hnd.1) h1 wf hfu (by rw [hD];decide) (fun wy k=>hpl hM k) (fun s hs=>by rw [hD] at hs;cases hs)).mono ?_
  rintro e w' ⟨rfl,k⟩
  exact ⟨rfl,show ∃ FD1,aU w' FD1 db D∧aP FD FD1 W w' from ⟨FD1,h1.k0 k,hM.k0 k⟩⟩
 ·obtain ⟨FD1,h1,hM⟩:∃ FD1,aU wx FD1 db D∧aP FD FD1 W wx:=hj
  refine (aBb (hpl hM (aD.refl _ _))).mono ?_
  rintro e w' ⟨rfl,k⟩
  exact ⟨rfl,show ∃ FD1,aU w' FD1 db D∧aP FD FD1 W w' from ⟨FD1,h1.k0 k,hM.k0 k⟩⟩
 ·obtain ⟨FD1,h1,hM⟩:∃ FD1,aU wx FD1 db D∧aP FD FD1 W wx:=hj
  have hap:∀ {k:Nat},k<W.heap.size→¬ FD k→¬ FD1 k:=fun {k} hk hn=>(hM.apart (G:=fun j=>j=k) (fun j e=>⟨e▸hk,fun q=>hn (e▸q)⟩) k rfl).2
  have h0:¬ FD1 0:=hap aA hn0
  refine (wM ((hM.keeps.block _ hsl hnd.1).trans hb) (hap hsl hnd.1) h1.lt (ht.keep hM.keeps hnd.2.1 hnd.2.2) ⟨⟨hap ht.lt hnd.2.1,hap ht.map.lt hnd.2.2⟩,hne⟩
   (fun wy k=>aJ7 (h1.k0 k) wf hfu hD ((hst.keep hM.keeps hn0).keep0 k) h0 cM lim (by decide) hl)).mono ?_
  rintro e w' ⟨rfl,v5',FD2,q1,q2,q3,q4⟩
  refine ⟨rfl,show ∃ v5 FD1,aU w' FD1 db D∧w'.heap[stb]?=some (stV db lim 0 tb pm v5 cb)∧aP (fun j=>FD j∨j=stb) (fun j=>FD1 j∨j=stb) W w'∧¬ FD1 stb from ⟨v5',FD2,q1,q2,aP.trans (hM.or_left (G:=fun j=>j=stb)) q3,q4⟩⟩
theorem aIg {w:World} {FD:Nat→Prop} {db:Nat} {lim:Int} {D:Dsk.aS} (hd:aU w FD db D) (wf:Dsk.fV D) (hfu:¬ D.fuse=0) (hD:D.files=[]) (hl:50≤lim∧lim≤1000000) (hst:bF w) (hn0:¬ FD 0) :
  Calls Tryz.prog 62 #[.pointer (some ⟨db,0,none⟩),.int .i64 lim] w fun e w'=>∃ stb F,e=.returned (.tuple #[.pointer (some ⟨stb,0,none⟩),.int .i64 0])∧qF w' F stb db lim 0 0 D∧mV w' stb∧aP FD F w w':=by
 obtain ⟨l1,l2⟩:=hl
 have j1:¬ lim<50:=aA
 have j2:¬ (1000000:Int)<lim:=aA
 have j3:decide (lim<50)=false:=decide_eq_false j1
 have j4:decide ((1000000:Int)<lim)=false:=decide_eq_false j2
 have HD:=Lib.hid hd
 have HWF:=Lib.hid wf
 have HFU:=Lib.hid hfu
 have HDF:=Lib.hid hD
 have HST:=Lib.hid hst
 have HN0:=Lib.hid hn0
 have HO:=Lib.hid (rP 1000 aA w)
 have hmm:=@run_makeMap Tryz.prog
 have h00:0<w.heap.size:=World.block_lt_of_cell? w _ (hst 0 aA)
 clear hd wf hfu hD hst hn0
 go_enter Tryz.func62,Tryz.ntmps62
 go_wp2_with fail
 refine HO.out.mono ?_
 rintro e w1 ⟨cb,mb,rfl,ho,hcb,hmb,k1⟩
 have HOF:=Lib.hid ho
 have HK1:=Lib.hid k1
 have HCB:=Lib.hid (And.intro hcb hmb)
 clear ho k1 hcb hmb
 go_wp2_with fail
 refine (Tpc.wJ _).mono ?_
 rintro e w2 ⟨rfl,ht,k2,hz2⟩
 have HT:=Lib.hid ht
 have HK2:=Lib.hid k2
 have HZ2:=Lib.hid hz2
 clear ht k2 hz2
 go_wp2_with fail
 obtain ⟨W,hW⟩:∃ W,W=(((w2.alloc (.map #[] 0)).alloc (.cells #[.pointer (some ⟨db,0,none⟩),.int .i64 lim,.int .i64 0,.pointer (some ⟨w1.heap.size+1,0,none⟩),.map (some w2.heap.size),.pointer none,.pointer (some ⟨cb,0,none⟩)] 264)).alloc (.cells #[.pointer (some ⟨w2.heap.size+1,0,none⟩)] 140)).alloc (.cells #[.func (Fn.func 127) #[.pointer (some ⟨w2.heap.size+1,0,none⟩)] #[],.func (Fn.func 128) #[] #[.pointer (some ⟨w2.heap.size+1+1,0,none⟩)],.func (Fn.func 130) #[.pointer (some ⟨w2.heap.size+1,0,none⟩)] #[],.func (Fn.func 131) #[.pointer (some ⟨w2.heap.size+1,0,none⟩)] #[],.func (Fn.func 132) #[.pointer (some ⟨w2.heap.size+1,0,none⟩)] #[]] 122):=⟨_,rfl⟩
 rw [← hW]
 have KW:K0 w2 W:=(by rw [hW];exact ((((aD.refl _ _).alloc _).alloc _).alloc _).alloc _)
 have hm:bM gX.enc W w2.heap.size []:=(by rw [hW];exact ((kF w2).keep ((((aD.refl (fun _=>False) _).alloc _).alloc _).alloc _) (fun e=>e)))
 have hb:W.heap[w2.heap.size+1]?=some (stV db lim 0 (w1.heap.size+1) w2.heap.size (.pointer none) cb):=(by rw [hW];exact aL (aL (aI _ _ _ (by simp)) _) _)
 have hx:W.cell? ⟨w2.heap.size+1+1,0,none⟩=some (.pointer (some ⟨w2.heap.size+1,0,none⟩)):=(by rw [hW];exact aB (aL (aI _ _ _ (by simp)) _) 0)
 have hg:W.heap[w2.heap.size+1+1+1]?=some (.cells #[.func (Fn.func 127) #[.pointer (some ⟨w2.heap.size+1,0,none⟩)] #[],.func (Fn.func 128) #[] #[.pointer (some ⟨w2.heap.size+1+1,0,none⟩)],.func (Fn.func 130) #[.pointer (some ⟨w2.heap.size+1,0,none⟩)] #[],.func (Fn.func 131) #[.pointer (some ⟨w2.heap.size+1,0,none⟩)] #[],.func (Fn.func 132) #[.pointer (some ⟨w2.heap.size+1,0,none⟩)] #[]] 122 (0,0)):=(by rw [hW];exact aI _ _ _ (by simp))
 have hk:K0 w W:=K0.tr HK1.out (K0.tr HK2.out KW)
 have hz:=HZ2.out
 have hz1:=HK1.out.size
 have hcb:=HCB.out
 have hFl:∀ j,FD j→j<w.heap.size:=HD.out.lt
 have hFn:∀ {j:Nat},w.heap.size≤j→¬ FD j:=fun {j} hj e=>by have:=hFl j e;omega
 have htW:Tpc.cP W (w1.heap.size+1) w1.heap.size ⟨0,[]⟩:=HT.out.keep KW (fun e=>e) (fun e=>e)
 have HA:=Lib.hid (aBt (x8:=w2.heap.size+1+1) (g:=w2.heap.size+1+1+1) (cap:=5) (HD.out.k0 hk) HWF.out HFU.out HDF.out ⟨l1,l2⟩ (HST.out.keep0 hk) HN0.out aA hb htW ⟨by omega,by omega⟩ ⟨hFn aA,hFn aA,hFn aA⟩
  ⟨aB hg 0,aB hg 1,aB hg 2,aB hg 3,aB hg 4⟩ hx ⟨hFn (by omega),by omega⟩ (hFn (by omega)))
 have HFIN:Hid (∀ w',OpN W FD (w2.heap.size+1) db lim (w1.heap.size+1) w1.heap.size w2.heap.size cb D 5 w'→∃ F,qF w' F (w2.heap.size+1) db lim 0 0 D∧mV w' (w2.heap.size+1)∧aP FD F w w'):=fun w' h5=>by
  obtain ⟨v5,FD1,q1,q2,q3,q4⟩:∃ v5 FD1,aU w' FD1 db D∧w'.heap[w2.heap.size+1]?=some (stV db lim 0 (w1.heap.size+1) w2.heap.size v5 cb)∧aP (fun j=>FD j∨j=w2.heap.size+1) (fun j=>FD1 j∨j=w2.heap.size+1) W w'∧¬ FD1 (w2.heap.size+1):=h5
  have hn:∀ {j:Nat},w.heap.size≤j→j≠w2.heap.size+1→¬ (FD j∨j=w2.heap.size+1):=fun {j} h1 h2 e=>e.elim (hFn h1) h2
  have hap:∀ {j:Nat},w.heap.size≤j→j<W.heap.size→j≠w2.heap.size+1→¬ FD1 j:=fun {j} h1 h2 h3 e=>(q3.grows j (.inl e)).elim (hn h1 h3) (fun h=>by omega)
  have hWs:w2.heap.size+1+1+1<W.heap.size:=aC hg
  have hs:=q3.keeps.size
  have ht2:Tpc.cP w' (w1.heap.size+1) w1.heap.size ⟨0,[]⟩:=htW.keep q3.keeps (hn aA aA) (hn aA aA)
  refine ⟨fun j=>FD1 j∨j=w2.heap.size+1∨j=w1.heap.size+1∨j=w1.heap.size∨j=w2.heap.size,⟨_,_,_,v5,cb,FD1,⟨q2,ht2,hm.keep q3.keeps (hn aA aA),q1,⟨by omega,by omega,by omega,by omega,by omega⟩,⟨q4,hap aA aA aA,hap aA aA aA,hap aA aA aA⟩,⟨fun e=>e,fun e=>e,fun e=>e,fun e=>e⟩,fun _ e=>e.elim,⟨.inr (.inl rfl),.inr (.inr (.inl rfl)),.inr (.inr (.inr (.inl rfl))),.inr (.inr (.inr (.inr rfl))),fun _ e=>.inl e,fun _ e=>e.elim⟩,?_⟩⟩,⟨cb,mb,1000,?_,?_⟩,?_⟩
  ·intro j e
   rcases e with e | e | e | e | e
   ·exact q1.lt j e
   ·omega
   ·omega
   ·omega
   ·omega
  ·exact aB (show w'.heap[w2.heap.size+1]?=some (.cells #[.pointer (some ⟨db,0,none⟩),.int .i64 lim,.int .i64 0,.pointer (some ⟨w1.heap.size+1,0,none⟩),.map (some w2.heap.size),v5,.pointer (some ⟨cb,0,none⟩)] 264 (0,0)) from q2) 6
  ·have c1:=aC HOF.out.blk
   have c2:=aC HOF.out.mp
   exact ((HOF.out.keep HK2.out (fun e=>e) (fun e=>e)).keep KW (fun e=>e) (fun e=>e)).keep q3.keeps (hn aA aA) (hn aA aA)
  ·have hk2:aD FD w w':=(hk.mono (S1:=FD) (fun _ _ e=>e.elim)).trans q3.keeps (fun j hj e=>e.elim (fun h=>h) (fun h=>by omega))
   refine ⟨hk2,fun j e=>?_⟩
   rcases e with e | e | e | e | e
   ·rcases q3.grows j (.inl e) with (h | h) | h
    ·exact .inl h
    ·exact .inr aA
    ·exact .inr aA
   ·exact .inr aA
   ·exact .inr aA
   ·exact .inr aA
   ·exact .inr aA
 have HLX:Hid (∀ w',OpN W FD (w2.heap.size+1) db lim (w1.heap.size+1) w1.heap.size w2.heap.size cb D 5 w'→w'.cell? ⟨w2.heap.size+1+1,0,none⟩=some (.pointer (some ⟨w2.heap.size+1,0,none⟩))):=fun w' h=>h.keeps.cell' hx (fun e=>e.elim (hFn (j:=w2.heap.size+1+1) aA) (fun e=>by have h:w2.heap.size+1+1=w2.heap.size+1:=e;omega))
 clear hW KW hm hb hx hg hk hz hz1 hcb hFl hFn htW
 refine HA.out.mono ?_
 rintro e w3 ⟨rfl,h5⟩
 have hx3:=HLX.out _ h5
 have H5:=Lib.hid (HFIN.out _ h5)
 clear h5
 go_wp2_with fail
 go_ret2
 obtain ⟨F,q⟩:=H5.out
 exact ⟨_,F,rfl,q⟩
def aIu (w:World) (e:Ending) (w':World):Prop:=∃ g,e=.returned (.tuple #[.pointer (some ⟨g,0,none⟩),.int .i64 0])∧K0 w w'
theorem aQr (s r:Int) (w:World) (hs:1≤s∧s≤100000) (hr:1≤r∧r≤100000):Calls Tryz.prog 84 #[.int .i64 s,.int .i64 r] w (aIu w):=by
 obtain ⟨s1,s2⟩:=hs
 obtain ⟨r1,r2⟩:=hr
 have j1:¬ s<1:=aA
 have j2:¬ (100000:Int)<s:=aA
 have j3:¬ r<1:=aA
 have j4:¬ (100000:Int)<r:=aA
 have q1:decide (s<1)=false:=decide_eq_false j1
 have q2:decide ((100000:Int)<s)=false:=decide_eq_false j2
 have q3:decide (r<1)=false:=decide_eq_false j3
 have q4:decide ((100000:Int)<r)=false:=decide_eq_false j4
 go_enter Tryz.func84,Tryz.ntmps84
 go_wp2
 go_ret2
 exact ⟨_,rfl,(aD.refl _ _).alloc _⟩
theorem aP4 (s r:Int) (w:World) (hs:1≤s∧s≤100000) (hr:1≤r∧r≤100000):Calls Tryz.prog 32 #[.int .i64 s,.int .i64 r] w (aIu w):=by
 have HM:=Lib.hid (aQr s r w hs hr)
 have HO:Hid (∀ wx,Calls Tryz.prog 85 #[.int .i64 1000] wx fun e w'=>∃ tb mb,e=.returned (.tuple #[.pointer (some ⟨tb,0,none⟩),.int .i64 0])∧rV w' tb mb 1000∧wx.heap.size≤tb∧wx.heap.size≤mb∧K0 wx w'):=fun wx=>rP 1000 aA wx
 have hmm:=@run_makeMap Tryz.prog
 clear hs hr
 go_enter Tryz.func32,Tryz.ntmps32
 go_wp2_with fail
 refine HM.out.mono ?_
 rintro e w1 ⟨g,rfl,k1⟩
 have HK1:=Lib.hid k1
 clear k1
 go_wp2_with fail
 refine (HO.out _).mono ?_
 rintro e w2 ⟨tb,mb,rfl,_,_,_,k2⟩
 have HK2:Hid (K0 w w2):=K0.tr HK1.out k2
 clear k2
 go_wp2_with fail
 go_ret2
 exact ⟨_,rfl,(HK2.out.alloc _).alloc _⟩
theorem aAc {w:World} {db:Nat} {s r lim:Int} (hs:1≤s∧s≤100000) (hr:1≤r∧r≤100000) (P:Nat→(Nat→Prop)→World→World→Prop)
  (hso:∀ wx,K0 w wx→Calls Tryz.prog 62 #[.pointer (some ⟨db,0,none⟩),.int .i64 lim] wx fun e w'=>∃ stb F,e=.returned (.tuple #[.pointer (some ⟨stb,0,none⟩),.int .i64 0])∧P stb F wx w'∧mV w' stb) :
  Calls Tryz.prog 27 #[.pointer (some ⟨db,0,none⟩),.agg #[.int .i64 s,.int .i64 r,.int .i64 lim]] w fun e w'=>∃ bb cb stb F wx wy,e=.returned (.tuple #[.pointer (some ⟨bb,0,none⟩),.int .i64 0])∧
   w'.heap[bb]?=some (.cells #[.pointer (some ⟨cb,0,none⟩),.pointer (some ⟨stb,0,none⟩)] 152 (0,0))∧K0 w wx∧P stb F wx wy∧K0 wy w'∧wy.heap.size≤bb:=by
 have HC:Hid (∀ wx,Calls Tryz.prog 32 #[.int .i64 s,.int .i64 r] wx (aIu wx)):=fun wx=>aP4 s r wx hs hr
 have HS:=Lib.hid hso
 clear hs hr hso
 go_enter Tryz.func27,Tryz.ntmps27
 go_wp2_with fail
 refine (HC.out _).mono ?_
 rintro e w1 ⟨cb,rfl,k1⟩
 have HK1:Hid (K0 w w1):=K0.tr ((aD.refl (fun _=>False) w).alloc _) k1
 have c2:w1.cell? ⟨w.heap.size,2,none⟩=some (.int .i64 lim):=k1.cell' (aB (aI w _ _ rfl) 2) (fun e=>e)
 have lt1:w.heap.size<w1.heap.size:=Nat.lt_of_lt_of_le aK k1.size
 clear k1
 go_wp2_with fail
 refine (HS.out _ HK1.out).mono ?_
 rintro e w2 ⟨stb,F,rfl,hp,hc⟩
 have HP:=Lib.hid hp
 have HCM:=Lib.hid hc
 obtain ⟨cmb,cmm,room,h6,ho⟩:=hc
 have HCA:=Lib.hid (aCc h6 ho)
 clear hp h6 ho c2 lt1
 go_wp2_with fail
 refine HCA.out.mono ?_
 rintro e w3 ⟨tb',mb',rfl,ho,k3⟩
 have HKY:=Lib.hid (aBa ho)
 have HK3:=Lib.hid k3
 clear ho k3
 go_wp2_with fail
 refine HKY.out.mono ?_
 rintro e w4 ⟨rfl,k4⟩
 have HK4:Hid (K0 w2 w4):=K0.tr HK3.out k4
 clear k4
 go_wp2_with fail
 refine wp_loop_rounds 1 ?_
 rw [rounds_succ]
 go_wp2_with fail
 go_ret2
 exact ⟨w4.heap.size,cb,stb,F,_,_,rfl,aI w4 _ _ rfl,HK1.out,HP.out,HK4.out.alloc _,HK4.out.size⟩
end Go.Proofs.YteapahcklcldkaaGreatDoor
