/-
  The statement is proved: all that it reaches, in parts.
-/
import Derived.Test.YteapahcklcldkaaGreatDoorW41
set_option maxRecDepth 100000
set_option maxHeartbeats 16000000
namespace Go.Proofs.YteapahcklcldkaaGreatDoor
open Go.RowKit Fx
section
variable {w:World} {wb sb:Nat} {i n:Int} {t:ByteArray}
theorem yC (h5:w.cell? ⟨wb,5,none⟩=some (.pointer (some ⟨sb,0,none⟩))):Calls Tryz.prog 52 #[.pointer (some ⟨wb,0,none⟩)] w fun e w'=>e=.returned (.pointer (some ⟨sb,0,none⟩))∧K0 w w':=by
 have lt:=World.block_lt_of_cell? w _ h5
 go_enter Tryz.func52,Tryz.ntmps52
 go_wp2_with fail
 go_ret
 exact ⟨rfl,aD.refl _ _⟩
theorem aSe (h6:w.cell? ⟨wb,6,none⟩=some (.int .i64 n)):Calls Tryz.prog 55 #[.pointer (some ⟨wb,0,none⟩)] w fun e w'=>e=.returned (.int .i64 n)∧K0 w w':=by
 have lt:=World.block_lt_of_cell? w _ h6
 go_enter Tryz.func55,Tryz.ntmps55
 go_wp2_with fail
 go_ret
 exact ⟨rfl,aD.refl _ _⟩
theorem aOx (h5:w.cell? ⟨wb,5,none⟩=some (.pointer (some ⟨sb,0,none⟩))) (P:World→World→Prop)
  (hf:∀ wx,K0 w wx→Calls Tryz.prog 53 #[.pointer (some ⟨sb,0,none⟩),.int .i64 i,.string t] wx fun e w'=>e=.returned (.int .i64 0)∧P wx w') :
  Calls Tryz.prog 17 #[.pointer (some ⟨wb,0,none⟩),.int .i64 i,.string t] w fun e w'=>e=.returned (.int .i64 0)∧∃ wx,K0 w wx∧P wx w':=by
 have HS:=Lib.hid (yC h5)
 have HF:=Lib.hid hf
 clear hf h5
 go_enter Tryz.func17,Tryz.ntmps17
 go_wp2_with fail
 refine HS.out.mono ?_
 rintro e w2 ⟨rfl,k2⟩
 have HK2:=Lib.hid k2
 clear k2
 go_wp2_with fail
 refine (HF.out _ HK2.out).mono ?_
 rintro e w3 ⟨rfl,hp⟩
 have HP:=Lib.hid hp
 clear hp
 go_wp2_with fail
 go_ret
 exact ⟨rfl,_,HK2.out,HP.out⟩
theorem wX (h5:w.cell? ⟨wb,5,none⟩=some (.pointer (some ⟨sb,0,none⟩))) (h6:w.cell? ⟨wb,6,none⟩=some (.int .i64 n)) (P:World→World→Prop)
  (hf:∀ wx,K0 w wx→Calls Tryz.prog 54 #[.pointer (some ⟨sb,0,none⟩),.int .i64 i,.int .i64 n] wx fun e w'=>e=.returned (.tuple #[.string t,.bool true])∧P wx w') :
  Calls Tryz.prog 18 #[.pointer (some ⟨wb,0,none⟩),.int .i64 i] w fun e w'=>e=.returned (.tuple #[.string t,.bool true])∧∃ wx,K0 w wx∧P wx w':=by
 have HS:=Lib.hid (yC h5)
 have HN:Hid (∀ wx,K0 w wx→Calls Tryz.prog 55 #[.pointer (some ⟨wb,0,none⟩)] wx fun e w'=>e=.returned (.int .i64 n)∧K0 wx w'):=fun wx k=>aSe (k.cell' h6 (fun e=>e))
 have HF:=Lib.hid hf
 clear hf h5 h6
 go_enter Tryz.func18,Tryz.ntmps18
 go_wp2_with fail
 refine HS.out.mono ?_
 rintro e w2 ⟨rfl,k2⟩
 have HK2:=Lib.hid k2
 clear k2
 go_wp2_with fail
 refine (HN.out _ HK2.out).mono ?_
 rintro e w3 ⟨rfl,k3⟩
 have HK3:=Lib.hid (K0.tr HK2.out k3)
 clear k3
 go_wp2_with fail
 refine (HF.out _ HK3.out).mono ?_
 rintro e w4 ⟨rfl,hp⟩
 have HP:=Lib.hid hp
 clear hp
 go_wp2_with fail
 go_ret2
 exact ⟨rfl,_,HK3.out,HP.out⟩
end
theorem aP5 (a b c:Int) (w:World):Calls Tryz.prog 13 #[.agg #[.int .i64 a,.int .i64 b,.int .i64 c]] w fun e w'=>e=.returned (.agg #[.int .i64 a,.int .i64 b,.int .i64 c])∧K0 w w':=by
 go_enter Tryz.func13,Tryz.ntmps13
 go_wp2_with fail
 refine bodyPost_ret (v:=.agg #[.int .i64 a,.int .i64 b,.int .i64 c]) ?_ rfl ?_
 ·rw [eJ rfl]
  go_simp
 ·exact ⟨rfl,((aD.refl (fun _=>False) w).alloc _).alloc _⟩
def aPh (c:Array Value) (o:Nat):Prop:=c[o]?=some (.string ⟨#[]⟩)∧c[o+1]?=some (.int .i64 0)∧c[o+32]?=some (.bool false)∧c[o+33]?=some (.bool false)
structure aPi (c:Array Value) (bb:Nat):Prop where
 size:c.size=273
 does:c[0]?=some (.iface 87 (.pointer (some ⟨bb,0,none⟩)))
 s0:aPh c 1
 s1:aPh c 35
theorem aRw (bb:Nat) (w:World):Calls Tryz.prog 112 #[.iface 87 (.pointer (some ⟨bb,0,none⟩))] w fun e w'=>∃ sb c,e=.returned (.tuple #[.pointer (some ⟨sb,0,none⟩),.int .i64 0])∧aPi c bb∧w'.heap[sb]?=some (.cells c 244 (0,0))∧w.heap.size≤sb∧K0 w w':=by
 go_enter Tryz.func112,Tryz.ntmps112
 go_wp2_with fail
 go_ret2
 exact ⟨_,_,rfl,⟨rfl,rfl,⟨rfl,rfl,rfl,rfl⟩,⟨rfl,rfl,rfl,rfl⟩⟩,aI w _ _ rfl,Nat.le_refl _,(aD.refl _ _).alloc _⟩
section
variable {w:World} {wb db:Nat} {s r lim:Int}
theorem aOy (hb:w.heap[wb]?=some (.cells #[.pointer (some ⟨db,0,none⟩),.int .i64 s,.int .i64 r,.int .i64 lim,.pointer none,.pointer none,.int .i64 0] 121 (0,0))) (BP:Nat→World→World→Prop) (S:Nat→Prop) (hBP:∀ bb wx wy,K0 w wx→BP bb wx wy→aD S wx wy) (hS:¬ S wb)
  (hbr:∀ wx,K0 w wx→Calls Tryz.prog 27 #[.pointer (some ⟨db,0,none⟩),.agg #[.int .i64 s,.int .i64 r,.int .i64 lim]] wx fun e w'=>∃ bb,e=.returned (.tuple #[.pointer (some ⟨bb,0,none⟩),.int .i64 0])∧BP bb wx w') :
  Calls Tryz.prog 47 #[.pointer (some ⟨wb,0,none⟩)] w fun e w'=>e=.returned (.int .i64 0)∧∃ bb sb c wx wy,K0 w wx∧BP bb wx wy∧aPi c bb∧w'.heap[sb]?=some (.cells c 244 (0,0))∧
   w'.heap[wb]?=some (.cells #[.pointer (some ⟨db,0,none⟩),.int .i64 s,.int .i64 r,.int .i64 lim,.pointer (some ⟨bb,0,none⟩),.pointer (some ⟨sb,0,none⟩),.int .i64 0] 121 (0,0))∧aD (fun k=>k=wb) wy w'∧wy.heap.size≤sb:=by
 have x0:=aB hb 0
 have x1:=aB hb 1
 have x2:=aB hb 2
 have x3:=aB hb 3
 have HB:=Lib.hid hb
 have HBP:=Lib.hid hBP
 have HS:=Lib.hid hS
 have HBR:=Lib.hid hbr
 have bl:=aC hb
 clear hb hBP hS hbr
 go_enter Tryz.func47,Tryz.ntmps47
 go_upto_region 1 with fail
 refine aX 8 (fun w'=>w'.cell? ⟨wb,0,none⟩=some (.pointer (some ⟨db,0,none⟩))∧w'.cell? ⟨wb,1,none⟩=some (.int .i64 s)∧w'.cell? ⟨wb,2,none⟩=some (.int .i64 r)∧w'.cell? ⟨wb,3,none⟩=some (.int .i64 lim)) (fun _=>True) aF ⟨x0,x1,x2,x3⟩ trivial (fun hS=>?_)
 refine tB 0 hS (fun hS=>?_)
 simp only [Act.put,Sw]
 refine tB 1 hS (fun hS=>?_)
 simp only [Act.put]
 refine tB 2 hS (fun hS=>?_)
 simp only [Act.put]
 refine tA 3 hS (fun hS=>?_)
 simp only [Act.put]
 refine tB 4 hS (fun hS=>?_)
 simp only [Act.put]
 refine tB 5 hS (fun hS=>?_)
 simp only [Act.put]
 refine tB 6 hS (fun hS=>?_)
 simp only [Act.put]
 refine tA 7 hS (fun hS=>?_)
 simp only [Act.put]
 refine tO 8 (fun K hK=>?_)
 go_simp
 refine (HBR.out _ (aD.refl _ _).drew).mono ?_
 rintro e w2 ⟨bb,rfl,hp⟩
 have HP:=Lib.hid hp
 clear hp
 show K _ _
 refine hK.out _ _ ⟨fun e=>absurd e aE,trivial⟩ (fun hS=>?_)
 clear hK K
 try simp only [Act.put,Sw]
 refine tB 9 hS (fun hS=>?_)
 simp only [Act.put,Sw]
 refine tB 10 hS (fun hS=>?_)
 simp only [Act.put]
 refine tB 11 hS (fun hS=>?_)
 simp only [Act.put]
 refine tO 12 (fun K hK=>?_)
 go_simp
 refine hK.out _ _ ⟨fun e=>absurd e aE,trivial⟩ (fun hS=>?_)
 clear hK K
 try simp only [Act.put,Sw]
 refine tO 13 (fun K hK=>?_)
 go_simp
 refine hK.out _ _ ⟨fun e=>absurd e aE,trivial⟩ (fun hS=>?_)
 clear hK K
 try simp only [Act.put,Sw]
 refine bC aF ?_ _
 skip
 clear x0 x1 x2 x3 bl
 have kS:=HBP.out _ _ _ (aD.refl _ _).drew HP.out
 have hb2:w2.heap[wb]?=some (.cells #[.pointer (some ⟨db,0,none⟩),.int .i64 s,.int .i64 r,.int .i64 lim,.pointer none,.pointer none,.int .i64 0] 121 (0,0)):=(kS.block _ (aC HB.out) HS.out).trans HB.out
 have HB2:=Lib.hid hb2
 have y4:w2.cell? ⟨wb,4,none⟩=some (.pointer none):=aB hb2 4
 have f4:w2.frozen? ⟨wb,4,none⟩=false:=aH hb2 4
 have bl2:=aC hb2
 clear kS hb2
 go_wp2_with fail
 refine (aRw bb _).mono ?_
 rintro e w3 ⟨sb,c,rfl,hok,hsb,hle,k3⟩
 have hb3:=(k3.block _ (aC (aM HB2.out 4 (.pointer (some ⟨bb,0,none⟩)))) (fun e=>e)).trans (aM HB2.out 4 (.pointer (some ⟨bb,0,none⟩)))
 have HB3:=Lib.hid hb3
 have z5:w3.cell? ⟨wb,5,none⟩=some (.pointer none):=aB hb3 5
 have g5:w3.frozen? ⟨wb,5,none⟩=false:=aH hb3 5
 have bl3:=aC hb3
 have HOK:=Lib.hid hok
 have HSB:=Lib.hid hsb
 have HLE:=Lib.hid hle
 have HK3:=Lib.hid k3
 clear hok hsb hle k3 hb3 y4 f4
 go_wp2_with fail
 go_ret
 have h1:w2.heap.size≤sb:=by have:=HLE.out;simpa using this
 refine ⟨rfl,bb,sb,c,_,_,(aD.refl _ _).drew,HP.out,HOK.out,?_,aM HB3.out 5 _,?_,h1⟩
 ·exact (((aD.refl (fun k=>k=wb) w3).setC 5 _ (fun _=>rfl)).block _ (aC HSB.out) (fun e=>by omega)).trans HSB.out
 ·exact ((((aD.refl (fun k=>k=wb) w2).setC 4 _ (fun _=>rfl)).trans HK3.out (fun _ _ e=>e.elim)).setC 5 _ (fun _=>rfl))
end
structure gL (S:World→(Nat→Prop)→Prop):Prop where
 keep:∀ {w w':World} {F G:Nat→Prop},S w F→aD G w w'→(∀ k,F k→¬ G k)→¬ G 0→S w' F
 lt:∀ {w:World} {F:Nat→Prop},S w F→∀ k,F k→k<w.heap.size
def aF0 (S':World→(Nat→Prop)→Prop) (F:Nat→Prop) (w w':World):Prop:=∃ F',S' w' F'∧aP F F' w w'
theorem gL.k0 {S:World→(Nat→Prop)→Prop} (o:gL S) {w w':World} {F:Nat→Prop} (h:S w F) (k:K0 w w'):S w' F:=o.keep h k (fun _ _ e=>e) (fun e=>e)
theorem aP.guest {F F':Nat→Prop} {w w':World} {b:Nat} (h:aP F F' w w') (hb:b<w.heap.size) (hF:¬ F b):¬ F' b∧w'.heap[b]?=w.heap[b]?:=
 ⟨(h.apart (G:=fun k=>k=b) (fun _k e=>e▸⟨hb,hF⟩) b rfl).2,h.keeps.block b hb hF⟩
theorem aMn {w:World} {F:Nat→Prop} {wb:Nat} {id:Int} {cs:List Value} {s r:ByteArray} {S0 S1 S2 S3 S4:World→(Nat→Prop)→Prop} {Y:List Value→Prop} (o0:gL S0) (_o1:gL S1) (_o2:gL S2) (_o3:gL S3) (o4:gL S4)
  (hS:S0 w F) (hl:cs.length=20) (hz:s.size≤60000) (hzr:r.size≤60000)
  (henc:∀ wx,K0 w wx→Calls Tryz.prog 34 #[.agg cs.toArray] wx fun e w'=>e=.returned (.tuple #[.string s,.int .i64 0])∧K0 wx w')
  (hfd:∀ wx F,S0 wx F→Calls Tryz.prog 17 #[.pointer (some ⟨wb,0,none⟩),.int .i64 id,.string (dR s.size++s)] wx fun e w'=>e=.returned (.int .i64 0)∧aF0 S1 F wx w')
  (h1:∀ wx F,S1 wx F→Calls Tryz.prog 18 #[.pointer (some ⟨wb,0,none⟩),.int .i64 id] wx fun e w'=>e=.returned (.tuple #[.string ⟨#[]⟩,.bool true])∧aF0 S2 F wx w')
  (h2:∀ wx F,S2 wx F→Calls Tryz.prog 18 #[.pointer (some ⟨wb,0,none⟩),.int .i64 id] wx fun e w'=>e=.returned (.tuple #[.string ⟨#[]⟩,.bool true])∧aF0 S3 F wx w')
  (h3:∀ wx F,S3 wx F→Calls Tryz.prog 18 #[.pointer (some ⟨wb,0,none⟩),.int .i64 id] wx fun e w'=>e=.returned (.tuple #[.string (dR r.size++r),.bool true])∧aF0 S4 F wx w')
  (hrd:∀ wx F,S4 wx F→∀ wy,K0 wx wy→Calls Tryz.prog 20 #[.string r] wy fun e w'=>∃ vs:List Value,e=.returned (.tuple #[.agg vs.toArray,.int .i64 0])∧vs.length=10∧vs.toArray.all (·.oneCell')=true∧K0 wy w'∧Y vs) :
  Calls Tryz.prog 21 #[.pointer (some ⟨wb,0,none⟩),.int .i64 id,.agg cs.toArray] w fun e w'=>∃ vs:List Value,e=.returned (.tuple #[.agg vs.toArray,.bool true])∧vs.length=10∧vs.toArray.all (·.oneCell')=true∧Y vs∧∃ wx F',S4 wx F'∧aP F F' w wx∧aD (fun k=>w.heap.size≤k∧¬ F' k) wx w':=by
 have HENC:=Lib.hid henc
 have HFR:=Lib.hid (fun wx=>aC2 s wx hz)
 have HFD:=Lib.hid hfd
 have H1:=Lib.hid h1
 have H2:=Lib.hid h2
 have H3:=Lib.hid h3
 have HRD:=Lib.hid hrd
 have HNX:Hid (∀ wx,Calls Tryz.prog 19 #[.string (dR r.size++r)] wx fun e w'=>e=.returned (.tuple #[.string r,.int .i64 (4+r.size),.int .i64 0])∧K0 wx w'):=fun wx=>by
  have h:=uW r ⟨#[]⟩ wx hzr aE
  have e:dR r.size++r++⟨#[]⟩=dR r.size++r:=ByteArray.append_empty
  rw [e] at h
  exact h
 have hnz:(dR r.size++r).size≠0:=by simp only [ByteArray.size_append,dB];omega
 have HS0:Hid ((Tryz.prog.info? 45).map (·.size)=some cs.length):=by show _=_;rw [hl];exact gQ
 have HSS:=Lib.hid hS
 clear hl hz hzr henc hfd h1 h2 h3 hrd hS
 obtain ⟨t,ht⟩:∃ t,t=dR s.size++s:=⟨_,rfl⟩
 rw [← ht] at HFR HFD
 clear ht
 obtain ⟨u,hu⟩:∃ u,u=dR r.size++r:=⟨_,rfl⟩
 rw [← hu] at H3 HNX hnz
 clear hu
 have n3:¬ u.toList=[]:=fun e=>by rw [uM] at e;omega
 have n4:u.toList.isEmpty=false:=(by simpa using n3)
 clear n3 hnz
 go_enter Tryz.func21,Tryz.ntmps21
 obtain ⟨W,hW⟩:∃ W,W=(w.alloc (.cells cs.toArray 45)).alloc (.cells #[.int .i64 0,.int .i64 0,.int .i64 0,.int .i64 0,.int .i64 0,.int .i64 0,.int .i64 0,.slice none 0 0,.slice none 0 0,.slice none 0 0] 33):=⟨_,rfl⟩
 have kW:K0 w W:=(by rw [hW];exact ((aD.refl _ _).alloc _).alloc _)
 have hq:W.heap[w.heap.size]?=some (.cells cs.toArray 45 (0,0)):=(by rw [hW];exact aL (aI w _ _ rfl) _)
 have hp:W.heap[w.heap.size+1]?=some (.cells #[.int .i64 0,.int .i64 0,.int .i64 0,.int .i64 0,.int .i64 0,.int .i64 0,.int .i64 0,.slice none 0 0,.slice none 0 0,.slice none 0 0] 33 (0,0)):=(by rw [hW];exact aI _ _ _ (by simp))
 have HR:Hid (W.rangeAt w.heap.size 0 cs):=jD hq
 have HP:=Lib.hid hp
 have HKW:=Lib.hid kW
 clear hq hp kW
 go_upto_region 1 with fail
 rw [← hW]
 clear hW
 go_wp2_with (first
  | (refine wpList_load_mid rfl 45 (.tmp 5) rfl w.heap.size 0 rfl cs _ HR.out Tryz.underlying45 rfl HS0.out ?_)
  | fail)
 refine (HENC.out _ HKW.out).mono ?_
 rintro e w1 ⟨rfl,k1⟩
 have HK1:=Lib.hid (K0.tr HKW.out k1)
 have HP1:Hid (w1.heap[w.heap.size+1]?=some (.cells #[.int .i64 0,.int .i64 0,.int .i64 0,.int .i64 0,.int .i64 0,.int .i64 0,.int .i64 0,.slice none 0 0,.slice none 0 0,.slice none 0 0] 33 (0,0))):=(k1.block _ (aC HP.out) (fun e=>e)).trans HP.out
 clear k1
 go_wp2_with fail
 refine (HFR.out _).mono ?_
 rintro e w2 ⟨rfl,k2⟩
 have HK2:=Lib.hid (K0.tr HK1.out k2)
 have HP2:Hid (w2.heap[w.heap.size+1]?=some (.cells #[.int .i64 0,.int .i64 0,.int .i64 0,.int .i64 0,.int .i64 0,.int .i64 0,.int .i64 0,.slice none 0 0,.slice none 0 0,.slice none 0 0] 33 (0,0))):=(k2.block _ (aC HP1.out) (fun e=>e)).trans HP1.out
 clear k2
 go_wp2_with fail
 refine (HFD.out _ F (o0.k0 HSS.out HK2.out)).mono ?_
 rintro e w3 ⟨rfl,F1,s1,m1⟩
 have hg1:w.heap.size+1<w2.heap.size:=aC HP2.out
 have hF0:¬ F (w.heap.size+1):=fun e=>by have:=o0.lt HSS.out _ e;omega
 obtain ⟨q1,b1⟩:=m1.guest hg1 hF0
 have HM1:Hid (aP F F1 w w3):=aP.k0_left HK2.out m1
 have HP3:Hid (w3.heap[w.heap.size+1]?=some (.cells #[.int .i64 0,.int .i64 0,.int .i64 0,.int .i64 0,.int .i64 0,.int .i64 0,.int .i64 0,.slice none 0 0,.slice none 0 0,.slice none 0 0] 33 (0,0))):=b1.trans HP2.out
 have HQ1:=Lib.hid q1
 have HSS1:=Lib.hid s1
 clear s1 m1 q1 b1 hg1 hF0
 go_wp2_with fail
 refine wp_loop_rounds 3 ?_
 rw [rounds_succ]
 go_wp2_with fail
 refine (H1.out _ F1 HSS1.out).mono ?_
 rintro e w4 ⟨rfl,F2,s2,m2⟩
 obtain ⟨q2,b2⟩:=m2.guest (aC HP3.out) HQ1.out
 have HM2:Hid (aP F F2 w w4):=HM1.out.trans m2
 have HP4:Hid (w4.heap[w.heap.size+1]?=some (.cells #[.int .i64 0,.int .i64 0,.int .i64 0,.int .i64 0,.int .i64 0,.int .i64 0,.int .i64 0,.slice none 0 0,.slice none 0 0,.slice none 0 0] 33 (0,0))):=b2.trans HP3.out
 have HQ2:=Lib.hid q2
 have HSS2:=Lib.hid s2
 clear s2 m2 q2 b2
 go_wp2_with fail
 rw [rounds_succ]
 go_wp2_with fail
 refine (H2.out _ F2 HSS2.out).mono ?_
 rintro e w5 ⟨rfl,F3,s3,m3⟩
 obtain ⟨q3,b3⟩:=m3.guest (aC HP4.out) HQ2.out
 have HM3:Hid (aP F F3 w w5):=HM2.out.trans m3
 have HP5:Hid (w5.heap[w.heap.size+1]?=some (.cells #[.int .i64 0,.int .i64 0,.int .i64 0,.int .i64 0,.int .i64 0,.int .i64 0,.int .i64 0,.slice none 0 0,.slice none 0 0,.slice none 0 0] 33 (0,0))):=b3.trans HP4.out
 have HQ3:=Lib.hid q3
 have HSS3:=Lib.hid s3
 clear s3 m3 q3 b3
 go_wp2_with fail
 rw [rounds_succ]
 go_wp2_with fail
 refine (H3.out _ F3 HSS3.out).mono ?_
 rintro e w6 ⟨rfl,F4,s4,m4⟩
 obtain ⟨q4,b4⟩:=m4.guest (aC HP5.out) HQ3.out
 have HM4:Hid (aP F F4 w w6):=HM3.out.trans m4
 have HP6:Hid (w6.heap[w.heap.size+1]?=some (.cells #[.int .i64 0,.int .i64 0,.int .i64 0,.int .i64 0,.int .i64 0,.int .i64 0,.int .i64 0,.slice none 0 0,.slice none 0 0,.slice none 0 0] 33 (0,0))):=b4.trans HP5.out
 have HQ4:=Lib.hid q4
 have HSS4:=Lib.hid s4
 clear s4 m4 q4 b4
 go_wp2_with fail
 refine (HNX.out _).mono ?_
 rintro e w7 ⟨rfl,k7⟩
 have HK7:=Lib.hid k7
 clear k7
 go_wp2_with fail
 refine (HRD.out _ F4 HSS4.out _ HK7.out).mono ?_
 rintro e w8 ⟨vs,rfl,hl8,ho8,k8,hy8⟩
 have HK8:=Lib.hid (K0.tr HK7.out k8)
 have HL8:=Lib.hid hl8
 have HO8:=Lib.hid ho8
 have HY8:=Lib.hid hy8
 clear k8 hl8 ho8 hy8
 obtain ⟨V,hV⟩:∃ V,V=w8.alloc (.cells #[.int .i64 0,.int .i64 0,.int .i64 0,.int .i64 0,.int .i64 0,.int .i64 0,.int .i64 0,.slice none 0 0,.slice none 0 0,.slice none 0 0] 33):=⟨_,rfl⟩
 have hb8:V.heap[w8.heap.size]?=some (.cells #[.int .i64 0,.int .i64 0,.int .i64 0,.int .i64 0,.int .i64 0,.int .i64 0,.int .i64 0,.slice none 0 0,.slice none 0 0,.slice none 0 0] 33 (0,0)):=by rw [hV];exact aI _ _ _ rfl
 have kV:K0 w6 V:=by rw [hV];exact HK8.out.alloc _
 have hp8:V.heap[w.heap.size+1]?=some (.cells #[.int .i64 0,.int .i64 0,.int .i64 0,.int .i64 0,.int .i64 0,.int .i64 0,.int .i64 0,.slice none 0 0,.slice none 0 0,.slice none 0 0] 33 (0,0)):=(kV.block _ (aC HP6.out) (fun e=>e)).trans HP6.out
 have hne:w.heap.size+1≠w8.heap.size:=by have h1:=aC HP6.out;have h2:=HK8.out.size;omega
 have HT1:Hid (V.there w8.heap.size 0 vs.toArray.size):=fD hb8 (by rw [List.size_toArray,HL8.out];exact Nat.le_refl 10)
 have HS1:Hid ((Tryz.prog.info? 33).map (·.size)=some vs.toArray.size):=by show _=_;rw [List.size_toArray,HL8.out];exact fF
 have HS2:Hid ((Tryz.prog.info? 33).map (·.size)=some vs.length):=by show _=_;rw [HL8.out];exact fF
 have k9:aD (fun k=>k=w8.heap.size) V (V.setCells w8.heap.size 0 vs):=dO (S:=fun k=>k=w8.heap.size) rfl _ _ (aD.refl _ _)
 have HR9:Hid ((V.setCells w8.heap.size 0 vs).rangeAt w8.heap.size 0 vs):=World.rangeAt_setCells_same _ _ _ _ HT1.out
 have hp9:(V.setCells w8.heap.size 0 vs).heap[w.heap.size+1]?=some (.cells #[.int .i64 0,.int .i64 0,.int .i64 0,.int .i64 0,.int .i64 0,.int .i64 0,.int .i64 0,.slice none 0 0,.slice none 0 0,.slice none 0 0] 33 (0,0)):=(k9.block _ (aC hp8) (fun e=>hne e)).trans hp8
 have HT2:Hid ((V.setCells w8.heap.size 0 vs).there (w.heap.size+1) 0 vs.toArray.size):=fD hp9 (by rw [List.size_toArray,HL8.out];exact Nat.le_refl 10)
 have HR10:Hid (((V.setCells w8.heap.size 0 vs).setCells (w.heap.size+1) 0 vs).rangeAt (w.heap.size+1) 0 vs):=World.rangeAt_setCells_same _ _ _ _ HT2.out
 have HK9:=Lib.hid k9
 have HKV:=Lib.hid kV
 have l8:=aC hb8
 have l9:=aC hp9
 have l10:=aC hp8
 clear hb8 kV hp8 k9 hp9
 go_upto_region 14 with (first
  | (rw [← hV];clear hV;refine wpList_store_mid rfl 33 (.tmp 18) (.tmp 68) rfl w8.heap.size 0 vs.toArray rfl rfl HT1.out HS1.out HO8.out ?_)
  | fail)
 go_wp2_with (first
  | (refine wpList_load_mid rfl 33 (.tmp 18) rfl w8.heap.size 0 rfl vs _ HR9.out Tryz.underlying33 rfl HS2.out ?_)
  | (refine wpList_store_mid rfl 33 (.tmp 6) (.tmp 70) rfl (w.heap.size+1) 0 vs.toArray rfl rfl HT2.out HS1.out HO8.out ?_)
  | fail)
 refine bodyPost_ret (v:=.tuple #[.agg vs.toArray,.bool true]) ?_ rfl ?_
 ·have h:=run_loadVar_mid (P:=Tryz.prog) ((V.setCells w8.heap.size 0 vs).setCells (w.heap.size+1) 0 vs) (w.heap.size+1) 0 33 vs _ HR10.out Tryz.underlying33 rfl HS2.out
  exact iL rfl rfl rfl h
 ·have z6:w.heap.size≤w6.heap.size:=HM4.out.keeps.size
  have z8:=HK8.out.size
  have hF8:¬ F4 w8.heap.size:=fun e=>by have h1:=o4.lt HSS4.out _ e;omega
  refine ⟨vs,rfl,HL8.out,HO8.out,HY8.out,w6,F4,HSS4.out,HM4.out,?_⟩
  have k6:aD (fun k=>w.heap.size≤k∧¬ F4 k) w6 (V.setCells w8.heap.size 0 vs):=(HKV.out.mono (fun _ _ e=>e.elim)).trans HK9.out (fun k hk e=>⟨by omega,e▸hF8⟩)
  exact dO (S:=fun k=>w.heap.size≤k∧¬ F4 k) ⟨by omega,HQ4.out⟩ vs 0 k6
def aLc (c:Array Value) (o:Nat) (t:ByteArray) (n:Int):Prop:=c[o]?=some (.string t)∧c[o+1]?=some (.int .i64 n)∧c[o+32]?=some (.bool false)∧c[o+33]?=some (.bool false)
structure zM (bb p:Nat) (c:Array Value):Prop where
 size:c.size=273
 does:c[0]?=some (.iface 87 (.pointer (some ⟨bb,0,none⟩)))
 rest:aPh c p
def OP (o p:Nat):Prop:=(o=1∧p=35)∨(o=35∧p=1)
structure lH (c c':Array Value) (o:Nat):Prop where
 size:c'.size=c.size
 out:∀ i,(i<o∨o+34≤i)→c'[i]?=c[i]?
theorem zM.out {bb p o:Nat} {c c':Array Value} (h:zM bb p c) (k:lH c c' o) (hop:OP o p):zM bb p c':=by
 obtain ⟨r0,r1,r2,r3⟩:=h.rest
 rcases hop with ⟨rfl,rfl⟩ | ⟨rfl,rfl⟩
 ·exact ⟨k.size.trans h.size,(k.out 0 aA).trans h.does,(k.out _ aA).trans r0,(k.out _ aA).trans r1,(k.out _ aA).trans r2,(k.out _ aA).trans r3⟩
 ·exact ⟨k.size.trans h.size,(k.out 0 aA).trans h.does,(k.out _ aA).trans r0,(k.out _ aA).trans r1,(k.out _ aA).trans r2,(k.out _ aA).trans r3⟩
theorem lH.set {c c':Array Value} {o:Nat} (h:lH c c' o) (i:Nat) (v:Value) (h1:o≤i) (h2:i<o+34):lH c (c'.setIfInBounds i v) o:=
 ⟨by rw [Array.size_setIfInBounds];exact h.size,fun j hj=>by rw [Array.getElem?_setIfInBounds_ne aA];exact h.out j hj⟩
theorem lH.refl (c:Array Value) (o:Nat):lH c c o:=⟨rfl,fun _ _=>rfl⟩
theorem lH.putL {c c':Array Value} {o:Nat} (h:lH c c' o) (i:Nat) (vs:List Value) (h1:o≤i) (h2:i+vs.length≤o+34):lH c (Go.Proofs.YteapahcklcldkaaGreatDoor.putL c' i vs) o:=
 ⟨by rw [kH];exact h.size,fun j hj=>by rw [jO _ _ _ _ aA];exact h.out j hj⟩
theorem wQ {c:Array Value} {i:Nat} (v:Value) (h:i<c.size):(c.setIfInBounds i v)[i]?=some v:=by simp [h]
theorem gV {c:Array Value} {i j:Nat} (v:Value) (h:i≠j):(c.setIfInBounds i v)[j]?=c[j]?:=Array.getElem?_setIfInBounds_ne h
def Fw (wb sb:Nat) (FQ FA:Nat→Prop):Nat→Prop:=fun k=>k=wb∨k=sb∨FQ k∨FA k
structure aMe (wb sb:Nat) (Q:World→(Nat→Prop)→Prop) (A:Array Value→World→(Nat→Prop)→Prop) (w:World) (FQ FA:Nat→Prop) (c:Array Value):Prop where
 srvp:w.cell? ⟨wb,5,none⟩=some (.pointer (some ⟨sb,0,none⟩))
 now:w.cell? ⟨wb,6,none⟩=some (.int .i64 0)
 srv:w.heap[sb]?=some (.cells c 244 (0,0))
 a:A c w FA
 q:Q w FQ
 ne:wb≠sb∧wb≠0∧sb≠0
 nq:¬ FQ wb∧¬ FQ sb∧¬ FQ 0
 na:¬ FA wb∧¬ FA sb∧¬ FA 0
 ap:∀ k,FA k→¬ FQ k
 st:bF w
def oG (wb sb:Nat) (Q:World→(Nat→Prop)→Prop) (A:Array Value→World→(Nat→Prop)→Prop) (w:World) (F:Nat→Prop):Prop:=∃ FQ FA c,F=Fw wb sb FQ FA∧aMe wb sb Q A w FQ FA c
section
variable {wb sb bb o p:Nat} {Q Q':World→(Nat→Prop)→Prop} {A A':Array Value→World→(Nat→Prop)→Prop} {w w':World} {F FQ FA FA':Nat→Prop} {c c':Array Value} {id:Int}
theorem rO (oQ:gL Q) (oA:∀ c,gL (A c)):gL (oG wb sb Q A) where
 keep:=fun {w w' F G} h k hG g0=>by
  obtain ⟨FQ,FA,c,rfl,h⟩:=h
  have gw:¬ G wb:=hG wb (.inl rfl)
  have gs:¬ G sb:=hG sb (.inr (.inl rfl))
  exact ⟨FQ,FA,c,rfl,k.cell' h.srvp gw,k.cell' h.now gw,(k.block _ (aC h.srv) gs).trans h.srv,(oA c).keep h.a k (fun j e=>hG j (.inr (.inr (.inr e)))) g0,oQ.keep h.q k (fun j e=>hG j (.inr (.inr (.inl e)))) g0,h.ne,h.nq,h.na,h.ap,h.st.keep k g0⟩
 lt:=fun {w F} h k e=>by
  obtain ⟨FQ,FA,c,rfl,h⟩:=h
  have hs:=aC h.srv
  rcases e with rfl | rfl | e | e
  ·exact World.block_lt_of_cell? w _ h.srvp
  ·exact hs
  ·exact oQ.lt h.q k e
  ·exact (oA c).lt h.a k e
theorem aMe.turn (oQ:gL Q) (h:aMe wb sb Q A w FQ FA c) (k:aD (fun j=>j=sb) w w') (hb:w'.heap[sb]?=some (.cells c' 244 (0,0))) (ha:A' c' w' FA') (hn:∀ j,FA' j→FA j∨w.heap.size≤j):aMe wb sb Q A' w' FQ FA' c':=by
 have h1:=World.block_lt_of_cell? w _ h.srvp
 have h2:=aC h.srv
 have hw:¬ (fun j=>j=sb) wb:=h.ne.1
 refine ⟨k.cell' h.srvp hw,k.cell' h.now hw,hb,ha,oQ.keep h.q k (fun j e q=>h.nq.2.1 (by have q':j=sb:=q;exact q'▸e)) (fun e=>h.ne.2.2 (by have e':0=sb:=e;exact e'.symm)),h.ne,h.nq,⟨fun e=>?_,fun e=>?_,fun e=>?_⟩,fun j e=>?_,h.st.keep k (fun e=>h.ne.2.2 (by have e':0=sb:=e;exact e'.symm))⟩
 ·rcases hn _ e with e | e
  ·exact h.na.1 e
  ·have h1':wb<w.heap.size:=h1;omega
 ·rcases hn _ e with e | e
  ·exact h.na.2.1 e
  ·omega
 ·rcases hn _ e with e | e
  ·exact h.na.2.2 e
  ·omega
 ·rcases hn _ e with e | e
  ·exact h.ap j e
  ·exact fun q=>by have:=oQ.lt h.q j q;omega
theorem wY (k:aD (fun j=>j=sb) w w') (hn:∀ j,FA' j→FA j∨w.heap.size≤j):aP (Fw wb sb FQ FA) (Fw wb sb FQ FA') w w':=
 ⟨k.mono (fun j _ e=>.inr (.inl e)),fun j e=>by
  rcases e with e | e | e | e
  ·exact .inl (.inl e)
  ·exact .inl (.inr (.inl e))
  ·exact .inl (.inr (.inr (.inl e)))
  ·exact (hn j e).imp (fun e=>.inr (.inr (.inr e))) (fun e=>e)⟩
def yH (bb o p:Nat) (c:Array Value) (_:World) (FA:Nat→Prop):Prop:=zM bb p c∧aLc c o ⟨#[]⟩ 0∧∀ k,¬ FA k
def Fed (bb o p:Nat) (t:ByteArray) (c:Array Value) (_:World) (FA:Nat→Prop):Prop:=zM bb p c∧aLc c o t 0∧∀ k,¬ FA k
def aVn (bb o p:Nat) (X:List Value→World→(Nat→Prop)→Prop) (c:Array Value) (w:World) (FA:Nat→Prop):Prop:=zM bb p c∧aLc c o ⟨#[]⟩ 1∧∃ cs:List Value,cs.length=20∧(∀ j v,cs[j]?=some v→c[o+2+j]?=some v)∧X cs w FA
def Did (bb o p:Nat) (R:List Value→World→(Nat→Prop)→Prop) (c:Array Value) (w:World) (FA:Nat→Prop):Prop:=zM bb p c∧aLc c o ⟨#[]⟩ 2∧∃ vs:List Value,vs.length=10∧(∀ j v,vs[j]?=some v→c[o+22+j]?=some v)∧R vs w FA
theorem aA9 (c:Array Value):gL (yH bb o p c):=⟨fun h _ _ _=>h,fun h k e=>absurd e (h.2.2 k)⟩
theorem aT4 (t:ByteArray) (c:Array Value):gL (Fed bb o p t c):=⟨fun h _ _ _=>h,fun h k e=>absurd e (h.2.2 k)⟩
theorem aQ3 {X:List Value→World→(Nat→Prop)→Prop} (oX:∀ cs,gL (X cs)) (c:Array Value):gL (aVn bb o p X c):=
 ⟨fun h k hG g0=>by obtain ⟨h1,h2,cs,h3,h4,h5⟩:=h;exact ⟨h1,h2,cs,h3,h4,(oX cs).keep h5 k hG g0⟩,fun h=>by obtain ⟨_,_,cs,_,_,h5⟩:=h;exact (oX cs).lt h5⟩
theorem aT3 {R:List Value→World→(Nat→Prop)→Prop} (oR:∀ vs,gL (R vs)) (c:Array Value):gL (Did bb o p R c):=
 ⟨fun h k hG g0=>by obtain ⟨h1,h2,cs,h3,h4,h5⟩:=h;exact ⟨h1,h2,cs,h3,h4,(oR cs).keep h5 k hG g0⟩,fun h=>by obtain ⟨_,_,cs,_,_,h5⟩:=h;exact (oR cs).lt h5⟩
theorem aSh (oQ:gL Q) (hop:OP o p) (hat:∀ wx,sb<wx.heap.size→Calls Tryz.prog 115 #[.pointer (some ⟨sb,0,none⟩),.int .i64 id] wx fun e w'=>e=.returned (.pointer (some ⟨sb,o,none⟩))∧K0 wx w') (t:ByteArray) (hz:t.size≤200000)
  (h:oG wb sb Q (yH bb o p) w F):Calls Tryz.prog 17 #[.pointer (some ⟨wb,0,none⟩),.int .i64 id,.string t] w fun e w'=>e=.returned (.int .i64 0)∧aF0 (oG wb sb Q (Fed bb o p t)) F w w':=by
 obtain ⟨FQ,FA,c,rfl,h⟩:=h
 obtain ⟨hb,⟨s0,s1,s2,s3⟩,hna⟩:=h.a
 have hsl:=aC h.srv
 refine (aOx h.srvp (fun wx w'=>w'.heap[sb]?=some (.cells (c.setIfInBounds o (.string t)) 244 (0,0))∧aD (fun k=>k=sb) wx w') (fun wx k=>?_)).mono ?_
 ·have:=aOm (w:=wx) (t:=t) ((k.block _ hsl (fun e=>e)).trans h.srv) s0 s3 (by show 0+t.size≤_;omega) (fun wy ky=>hat wy (Nat.lt_of_lt_of_le hsl (Nat.le_trans k.size ky.size)))
  rw [show (⟨#[]⟩:ByteArray)++t=t from iP t] at this
  exact this
 ·rintro e w' ⟨rfl,wx,k0,hb',k1⟩
  have kk:aD (fun k=>k=sb) w w':=(k0.mono (S1:=fun k=>k=sb) (fun _ _ e=>e.elim)).trans k1 (fun _ _ e=>e)
  have ho:o<239:=(by rcases hop with ⟨rfl,_⟩ | ⟨rfl,_⟩ <;> omega)
  have hsz:=hb.size
  refine ⟨rfl,_,⟨FQ,FA,_,rfl,h.turn oQ kk hb' ⟨hb.out ((lH.refl c o).set o _ (Nat.le_refl _) aA) hop,⟨wQ _ aA,?_,?_,?_⟩,hna⟩ (fun j e=>.inl e)⟩,wY kk (fun j e=>.inl e)⟩
  ·rw [gV _ aA];exact s1
  ·rw [gV _ aA];exact s2
  ·rw [gV _ aA];exact s3
theorem aSi (oQ:gL Q) (hop:OP o p) (hat:∀ wx,sb<wx.heap.size→Calls Tryz.prog 115 #[.pointer (some ⟨sb,0,none⟩),.int .i64 id] wx fun e w'=>e=.returned (.pointer (some ⟨sb,o,none⟩))∧K0 wx w') {s:ByteArray} (hz:s.size≤60000)
  {X:List Value→World→(Nat→Prop)→Prop} (oX:∀ cs,gL (X cs))
  (hdec:∀ wx,bF wx→0<wx.heap.size→Calls Tryz.prog 12 #[.string s] wx fun e w'=>∃ (cs:List Value) (FA:Nat→Prop),e=.returned (.tuple #[.agg cs.toArray,.int .i64 0])∧cs.length=20∧cs.toArray.all (·.oneCell')=true∧K0 wx w'∧X cs w' FA∧∀ k,FA k→wx.heap.size≤k)
  (h:oG wb sb Q (Fed bb o p (dR s.size++s)) w F):Calls Tryz.prog 18 #[.pointer (some ⟨wb,0,none⟩),.int .i64 id] w fun e w'=>e=.returned (.tuple #[.string ⟨#[]⟩,.bool true])∧aF0 (oG wb sb Q (aVn bb o p X)) F w w':=by
 obtain ⟨FQ,FA,c,rfl,h⟩:=h
 obtain ⟨hb,⟨s0,s1,s2,s3⟩,hna⟩:=h.a
 have hsl:=aC h.srv
 have ho:o<239:=(by rcases hop with ⟨rfl,_⟩ | ⟨rfl,_⟩ <;> omega)
 have hsz:=hb.size
 let X':List Value→World→Prop:=fun cs wx=>∃ FA,X cs wx FA∧∀ k,FA k→w.heap.size≤k
 refine (wX (t:=⟨#[]⟩) h.srvp h.now (fun wx w'=>∃ wy,K0 wx wy∧∃ cs:List Value,w'.heap[sb]?=some (.cells (yB c o cs) 244 (0,0))∧cs.length=20∧aD (fun k=>k=sb) wy w'∧X' cs w') (fun wx k=>?_)).mono ?_
 ·have hbx:=(k.block _ hsl (fun e=>e)).trans h.srv
  have hlx:=Nat.lt_of_lt_of_le hsl k.size
  refine (aKj hbx s1 s3 (fun wy ky=>hat wy (Nat.lt_of_lt_of_le hlx ky.size)) (fun wy w'=>∃ cs:List Value,w'.heap[sb]?=some (.cells (yB c o cs) 244 (0,0))∧cs.length=20∧aD (fun k=>k=sb) wy w'∧X' cs w') (fun wy ky=>?_)).mono ?_
  ·have hby:=(ky.block _ hlx (fun e=>e)).trans hbx
   refine (aOn (X:=X') hby aA s0 hz (fun cs wa wb k q=>?_) (fun wz kz=>?_)).mono ?_
   ·obtain ⟨FB,q1,q2⟩:=q
    exact ⟨FB,(oX cs).keep q1 k (fun j e q=>by have e1:=q2 j e;have q':j=sb:=q;omega) (fun e=>h.ne.2.2 (by have e':0=sb:=e;exact e'.symm)),q2⟩
   ·have hstz:bF wz:=((h.st.keep0 k).keep0 ky).keep kz (fun e=>h.ne.2.2 (by have e':0=sb:=e;exact e'.symm))
    have hlz:w.heap.size≤wz.heap.size:=Nat.le_trans k.size (Nat.le_trans ky.size kz.size)
    refine (hdec wz hstz aA).mono ?_
    rintro e w' ⟨cs,FB,rfl,a1,a2,a3,a4,a5⟩
    exact ⟨cs,rfl,a1,a2,a3,FB,a4,fun j e=>Nat.le_trans hlz (a5 j e)⟩
   ·rintro e w' ⟨cs,rfl,a1,a2,a3,a4⟩
    exact ⟨rfl,cs,a1,a2,a3,a4⟩
  ·rintro e w' ⟨rfl,wy,ky,q⟩
   exact ⟨rfl,wy,ky,q⟩
 ·rintro e w' ⟨rfl,wx,kx,wy,ky,cs,hb',hl,kk,FB,hX,hFB⟩
  have k1:aD (fun k=>k=sb) w w':=((K0.tr kx ky).mono (S1:=fun k=>k=sb) (fun _ _ e=>e.elim)).trans kk (fun _ _ e=>e)
  have hout:lH c (yB c o cs) o:=(((lH.refl c o).set o _ (Nat.le_refl _) aA).putL (o+2) cs aA aA).set (o+1) _ aA aA
  have hps:(putL (c.setIfInBounds o (.string ⟨#[]⟩)) (o+2) cs).size=273:=by rw [kH,Array.size_setIfInBounds];exact hsz
  refine ⟨rfl,_,⟨FQ,FB,_,rfl,h.turn oQ k1 hb' ⟨hb.out hout hop,⟨?_,wQ _ aA,?_,?_⟩,cs,hl,fun j v hv=>?_,hX⟩ (fun j e=>.inr (hFB j e))⟩,wY k1 (fun j e=>.inr (hFB j e))⟩
  ·unfold yB
   rw [gV _ aA,jO _ _ _ _ aA]
   exact wQ _ aA
  ·unfold yB
   rw [gV _ aA,jO _ _ _ _ aA,gV _ aA]
   exact s2
  ·unfold yB
   rw [gV _ aA,jO _ _ _ _ aA,gV _ aA]
   exact s3
  ·have hj:j<cs.length:=(List.getElem?_eq_some_iff.1 hv).1
   unfold yB
   rw [gV _ aA,zF _ _ _ _ hj (by rw [Array.size_setIfInBounds];omega)]
   exact hv
theorem aWy (oQ:gL Q) (oQ':gL Q') (hop:OP o p) (hat:∀ wx,sb<wx.heap.size→Calls Tryz.prog 115 #[.pointer (some ⟨sb,0,none⟩),.int .i64 id] wx fun e w'=>e=.returned (.pointer (some ⟨sb,o,none⟩))∧K0 wx w')
  {X R:List Value→World→(Nat→Prop)→Prop} (oX:∀ cs,gL (X cs)) (oR:∀ vs,gL (R vs))
  (hdo:∀ wx FQ FA cs,Q wx FQ→X cs wx FA→(∀ k,FA k→¬ FQ k)→¬ FQ 0→bF wx→0<wx.heap.size→cs.length=20→Calls Tryz.prog 28 #[.pointer (some ⟨bb,0,none⟩),.agg cs.toArray,.int .i64 0] wx fun e w'=>∃ vs:List Value,e=.returned (.agg vs.toArray)∧vs.length=10∧vs.toArray.all (·.oneCell')=true∧
   ∃ FQ' FR,Q' w' FQ'∧R vs w' FR∧aP FQ FQ' wx w'∧(∀ k,FR k→wx.heap.size≤k∧¬ FQ' k))
  (h:oG wb sb Q (aVn bb o p X) w F):Calls Tryz.prog 18 #[.pointer (some ⟨wb,0,none⟩),.int .i64 id] w fun e w'=>e=.returned (.tuple #[.string ⟨#[]⟩,.bool true])∧aF0 (oG wb sb Q' (Did bb o p R)) F w w':=by
 obtain ⟨FQ,FA,c,rfl,h⟩:=h
 obtain ⟨hb,⟨s0,s1,s2,s3⟩,cs,hl,hc,hX⟩:=h.a
 have hsl:=aC h.srv
 have ho:o<239:=(by rcases hop with ⟨rfl,_⟩ | ⟨rfl,_⟩ <;> omega)
 have hsz:=hb.size
 let P:List Value→World→World→Prop:=fun vs wx w'=>∃ FQ' FR,Q' w' FQ'∧R vs w' FR∧aP FQ FQ' wx w'∧(∀ k,FR k→wx.heap.size≤k∧¬ FQ' k)
 refine (wX (t:=⟨#[]⟩) h.srvp h.now (fun wx w'=>∃ vs wy wz,K0 wx wy∧P vs wy wz∧vs.length=10∧w'.heap[sb]?=some (.cells ((putL c (o+22) vs).setIfInBounds (o+1) (.int .i64 2)) 244 (0,0))∧aD (fun k=>k=sb) wz w') (fun wx k=>?_)).mono ?_
 ·have hbx:=(k.block _ hsl (fun e=>e)).trans h.srv
  have hlx:=Nat.lt_of_lt_of_le hsl k.size
  refine (aKi hbx aA s1 s3 hb.does hl hc (fun wy ky=>hat wy (Nat.lt_of_lt_of_le hlx ky.size)) P (fun vs wy wz ky hp=>?_) (fun wy ky=>?_)).mono ?_
  ·obtain ⟨FQ',FR,_,_,hm,_⟩:=hp
   exact (hm.keeps.block _ (Nat.lt_of_lt_of_le hlx ky.size) h.nq.2.1).trans ((ky.block _ hlx (fun e=>e)).trans hbx)
  ·have kk:=K0.tr k ky
   exact hdo wy FQ FA cs (oQ.k0 h.q kk) ((oX cs).k0 hX kk) h.ap h.nq.2.2 (h.st.keep0 kk) (by have:=kk.size;omega) hl
  ·rintro e w' ⟨rfl,q⟩
   exact ⟨rfl,q⟩
 ·rintro e w' ⟨rfl,wx,kx,vs,wy,wz,ky,⟨FQ',FR,hQ',hR,hm,hFR⟩,hvl,hb',kz⟩
  have k0:=K0.tr kx ky
  have hm2:aP FQ FQ' w wz:=aP.k0_left k0 hm
  have hwl:wb<w.heap.size:=World.block_lt_of_cell? w _ h.srvp
  have gw:=hm2.guest hwl h.nq.1
  have gs:=hm2.guest hsl h.nq.2.1
  have g0:=hm2.guest (b:=0) aA h.nq.2.2
  have hlz:w.heap.size≤wz.heap.size:=hm2.keeps.size
  have hz:aMe wb sb Q' (fun _ w FA=>R vs w FA) wz FQ' FR c:=by
   refine ⟨?_,?_,gs.2.trans h.srv,hR,hQ',h.ne,⟨gw.1,gs.1,g0.1⟩,⟨fun e=>?_,fun e=>?_,fun e=>?_⟩,fun j e=>(hFR j e).2,h.st.keep hm2.keeps h.nq.2.2⟩
   ·exact hm2.keeps.cell' h.srvp h.nq.1
   ·exact hm2.keeps.cell' h.now h.nq.1
   ·exact (by have:=(hFR _ e).1;have:=k0.size;omega)
   ·exact (by have:=(hFR _ e).1;have:=k0.size;omega)
   ·exact (by have:=(hFR _ e).1;have:=k0.size;omega)
  have hR':R vs w' FR:=(oR vs).keep hR kz (fun j e q=>hz.na.2.1 (by have q':j=sb:=q;exact q'▸e)) (fun e=>h.ne.2.2 (by have e':0=sb:=e;exact e'.symm))
  have hout:lH c ((putL c (o+22) vs).setIfInBounds (o+1) (.int .i64 2)) o:=((lH.refl c o).putL (o+22) vs aA aA).set (o+1) _ aA aA
  have hps:(putL c (o+22) vs).size=273:=by rw [kH];exact hsz
  have hx:aMe wb sb Q' (Did bb o p R) w' FQ' FR ((putL c (o+22) vs).setIfInBounds (o+1) (.int .i64 2)):=by
   refine hz.turn oQ' kz hb' ⟨hb.out hout hop,⟨?_,wQ _ aA,?_,?_⟩,vs,hvl,fun j v hv=>?_,hR'⟩ (fun j e=>.inl e)
   ·rw [gV _ aA,jO _ _ _ _ aA];exact s0
   ·rw [gV _ aA,jO _ _ _ _ aA];exact s2
   ·rw [gV _ aA,jO _ _ _ _ aA];exact s3
   ·have hj:j<vs.length:=(List.getElem?_eq_some_iff.1 hv).1
    rw [gV _ aA,zF _ _ _ _ hj aA]
    exact hv
  refine ⟨rfl,_,⟨FQ',FR,_,rfl,hx⟩,?_,?_⟩
  ·exact (hm2.keeps.mono (S1:=Fw wb sb FQ FA) (fun j _ e=>.inr (.inr (.inl e)))).trans kz (fun j _ e=>.inr (.inl e))
  ·intro j e
   rcases e with e | e | e | e
   ·exact .inl (.inl e)
   ·exact .inl (.inr (.inl e))
   ·exact (hm2.grows j e).imp (fun e=>.inr (.inr (.inl e))) (fun e=>e)
   ·exact .inr (Nat.le_trans k0.size (hFR j e).1)
theorem aSg (oQ:gL Q) (hop:OP o p) (hat:∀ wx,sb<wx.heap.size→Calls Tryz.prog 115 #[.pointer (some ⟨sb,0,none⟩),.int .i64 id] wx fun e w'=>e=.returned (.pointer (some ⟨sb,o,none⟩))∧K0 wx w')
  {R:List Value→World→(Nat→Prop)→Prop} (oR:∀ vs,gL (R vs)) {r:ByteArray} (hz:r.size≤60000)
  (han:∀ wx FA vs,R vs wx FA→bF wx→0<wx.heap.size→Calls Tryz.prog 118 #[.agg vs.toArray] wx fun e w'=>e=.returned (.tuple #[.string r,.int .i64 0])∧K0 wx w')
  (h:oG wb sb Q (Did bb o p R) w F):Calls Tryz.prog 18 #[.pointer (some ⟨wb,0,none⟩),.int .i64 id] w fun e w'=>e=.returned (.tuple #[.string (dR r.size++r),.bool true])∧aF0 (oG wb sb Q (yH bb o p)) F w w':=by
 obtain ⟨FQ,FA,c,rfl,h⟩:=h
 obtain ⟨hb,⟨s0,s1,s2,s3⟩,vs,hl,hc,hR⟩:=h.a
 have hsl:=aC h.srv
 have ho:o<239:=(by rcases hop with ⟨rfl,_⟩ | ⟨rfl,_⟩ <;> omega)
 have hsz:=hb.size
 refine (wX (t:=dR r.size++r) h.srvp h.now (fun wx w'=>w'.heap[sb]?=some (.cells ((c.setIfInBounds (o+1) (.int .i64 0)).setIfInBounds (o+33) (.bool false)) 244 (0,0))∧aD (fun k=>k=sb) wx w') (fun wx k=>?_)).mono ?_
 ·have hbx:=(k.block _ hsl (fun e=>e)).trans h.srv
  have hlx:=Nat.lt_of_lt_of_le hsl k.size
  refine aKh hbx aA s1 s2 s3 hl hc hz (fun wy ky=>hat wy (Nat.lt_of_lt_of_le hlx ky.size)) (fun wy ky=>?_)
  have k2:aD (fun k=>k=sb) w wy:=(k.mono (S1:=fun k=>k=sb) (fun _ _ e=>e.elim)).trans ky (fun _ _ e=>e)
  exact han wy FA vs ((oR vs).keep hR k2 (fun j e q=>h.na.2.1 (by have q':j=sb:=q;exact q'▸e)) (fun e=>h.ne.2.2 (by have e':0=sb:=e;exact e'.symm))) (h.st.keep k2 (fun e=>h.ne.2.2 (by have e':0=sb:=e;exact e'.symm))) (by have:=k2.size;omega)
 ·rintro e w' ⟨rfl,wx,kx,hb',kk⟩
  have k1:aD (fun k=>k=sb) w w':=(kx.mono (S1:=fun k=>k=sb) (fun _ _ e=>e.elim)).trans kk (fun _ _ e=>e)
  have hout:lH c ((c.setIfInBounds (o+1) (.int .i64 0)).setIfInBounds (o+33) (.bool false)) o:=((lH.refl c o).set (o+1) _ aA aA).set (o+33) _ aA aA
  refine ⟨rfl,_,⟨FQ,fun _=>False,_,rfl,h.turn oQ k1 hb' ⟨hb.out hout hop,⟨?_,?_,?_,?_⟩,fun _ e=>e⟩ (fun j e=>e.elim)⟩,wY k1 (fun j e=>e.elim)⟩
  ·rw [gV _ aA,gV _ aA];exact s0
  ·rw [gV _ aA];exact wQ _ aA
  ·rw [gV _ aA,gV _ aA];exact s2
  ·exact wQ _ (by rw [Array.size_setIfInBounds];omega)
end
def aIq (b:aR) (a:Option Addr) (cap:Nat) (w:World) (FA:Nat→Prop):Prop:=((b=⟨0,0,0,0,0,[]⟩∧a=none∧cap=0)∨dN FA w b a cap)∧∀ k,FA k→k<w.heap.size
theorem aHj (b:aR) (a:Option Addr) (cap:Nat):gL (aIq b a cap):=
 ⟨fun h k hG _=>⟨h.1.imp (fun e=>e) (fun e=>e.keep k hG (fun _ e=>e)),fun j e=>Nat.lt_of_lt_of_le (h.2 j e) k.size⟩,fun h=>h.2⟩
def aXz (q:fG) (cs:List Value) (w:World) (FA:Nat→Prop):Prop:=∃ a cap,cs.toArray=qU q a cap∧aIq q.bat a cap w FA
theorem aA8 (q:fG) (cs:List Value):gL (aXz q cs):=
 ⟨fun h k hG g0=>by obtain ⟨a,cap,h1,h2⟩:=h;exact ⟨a,cap,h1,(aHj _ _ _).keep h2 k hG g0⟩,fun h=>by obtain ⟨a,cap,_,h2⟩:=h;exact (aHj _ _ _).lt h2⟩
def aFw (bs:Value) (l:List aR) (w:World) (FR:Nat→Prop):Prop:=
 ((l=[]∧bs=.slice none 0 0)∨∃ b a cap g c1,l=[b]∧bs=.slice (some ⟨g,0,none⟩) 1 c1∧tV w g 0 b a cap∧FR g∧dN (fun j=>FR j∧j≠g) w b a cap∧dH b∧kP b=false)∧∀ k,FR k→k<w.heap.size
theorem aHk (bs:Value) (l:List aR):gL (aFw bs l) where
 keep:=fun h k hG _=>by
  refine ⟨?_,fun j e=>Nat.lt_of_lt_of_le (h.2 j e) k.size⟩
  rcases h.1 with h | ⟨b,a,cap,g,c1,h1,h2,h3,h4,h5,h6,h7⟩
  ·exact .inl h
  ·exact .inr ⟨b,a,cap,g,c1,h1,h2,h3.keep k (hG g h4),h4,h5.keep k (fun j e=>hG j e.1) (fun _ e=>e),h6,h7⟩
 lt:=fun h=>h.2
def aXy (e x1 x2 x3 x4 x5 x6:Int) (l:List aR) (vs:List Value) (w:World) (FR:Nat→Prop):Prop:=∃ bs,vs.toArray=bY e x1 x2 x3 x4 x5 x6 bs∧aFw bs l w FR
theorem aA7 (e x1 x2 x3 x4 x5 x6:Int) (l:List aR) (vs:List Value):gL (aXy e x1 x2 x3 x4 x5 x6 l vs):=
 ⟨fun h k hG g0=>by obtain ⟨bs,h1,h2⟩:=h;exact ⟨bs,h1,(aHk _ _).keep h2 k hG g0⟩,fun h=>by obtain ⟨bs,_,h2⟩:=h;exact (aHk _ _).lt h2⟩
theorem aFw.list {bs:Value} {l:List aR} {w:World} {FR:Nat→Prop} (h:aFw bs l w FR):∃ D,∀ cb qb,w.heap.size≤cb→w.heap.size≤qb→tX D w cb qb bs l:=by
 rcases h.1 with ⟨h1,h2⟩ | ⟨b,a,cap,g,c1,h1,h2,h3,h4,h5,h6,h7⟩
 ·exact ⟨fun _=>False,fun _ _ _ _=>.inl ⟨h1,h2⟩⟩
 ·refine ⟨fun j=>FR j∧j≠g,fun cb qb hc hq=>.inr ⟨b,a,cap,g,0,c1,h1,h2,h3,?_,?_,h5.at_,fun k e=>?_,h6,h7⟩⟩
  ·have:=h.2 g h4;omega
  ·have:=h.2 g h4;omega
  ·have:=h.2 k e.1;omega
theorem aGr (q:fG) (a:Option Addr) (cap:Nat):(qU q a cap).toList.length=20∧(qU q a cap).toList.toArray.all (·.oneCell')=true:=⟨rfl,by simp [qU,jT,Value.oneCell']⟩
section
variable {wb sb bb o p:Nat} {Q Q':World→(Nat→Prop)→Prop} {w:World} {F:Nat→Prop} {id:Int} {e x1 x2 x3 x4 x5 x6:Int} {l:List aR}
theorem vY (oQ:gL Q) (oQ':gL Q') (hop:OP o p) (hat:∀ sb wx,sb<wx.heap.size→Calls Tryz.prog 115 #[.pointer (some ⟨sb,0,none⟩),.int .i64 id] wx fun e w'=>e=.returned (.pointer (some ⟨sb,o,none⟩))∧K0 wx w')
  {q:fG} (hrq:jJ q) (hqb:q.bat=⟨0,0,0,0,0,[]⟩∨(kP q.bat=false∧dH q.bat∧∀ k (h:k<q.bat.recs.length),bT q.bat.recs[k])) (hz:(bR (lC q)).size≤60000) {D:Nat→Prop} (hok:∀ wx,K0 w wx→∀ cb,wx.heap.size≤cb→pF D wx cb q)
  (hr:rW e x1 x2 x3 x4 x5 x6) (hl:l=[]∨∃ b,l=[b]∧dH b∧(aZ b).size≤60008∧∀ k (h:k<b.recs.length),bT b.recs[k]) (hzr:(bR (lA e x1 x2 x3 x4 x5 x6 l)).size≤60000)
  (hdo:∀ wx FQ FA a cap,Q wx FQ→aIq q.bat a cap wx FA→(∀ k,FA k→¬ FQ k)→¬ FQ 0→bF wx→0<wx.heap.size→Calls Tryz.prog 28 #[.pointer (some ⟨bb,0,none⟩),.agg (qU q a cap),.int .i64 0] wx fun en w'=>∃ bs,en=.returned (.agg (bY e x1 x2 x3 x4 x5 x6 bs))∧
   ∃ FQ' FR,Q' w' FQ'∧aFw bs l w' FR∧aP FQ FQ' wx w'∧(∀ k,FR k→wx.heap.size≤k∧¬ FQ' k))
  (h:oG wb sb Q (yH bb o p) w F):Calls Tryz.prog 21 #[.pointer (some ⟨wb,0,none⟩),.int .i64 id,q.val] w fun en w'=>∃ a cp,en=.returned (.tuple #[.agg (bY e x1 x2 x3 x4 x5 x6 (.slice a l.length cp)),.bool true])∧∃ F',oG wb sb Q' (yH bb o p) w' F'∧aP F F' w w':=by
 have hst:∀ {A:Array Value→World→(Nat→Prop)→Prop} {Q:World→(Nat→Prop)→Prop} {wx:World} {F:Nat→Prop},oG wb sb Q A wx F→bF wx∧0<wx.heap.size:=fun h=>by
  obtain ⟨_,_,_,_,h⟩:=h
  have:=aC h.srv
  exact ⟨h.st,by omega⟩
 have oR:=rO (wb:=wb) (sb:=sb) oQ (aA9 (bb:=bb) (o:=o) (p:=p))
 have oF:=rO (wb:=wb) (sb:=sb) oQ (aT4 (bb:=bb) (o:=o) (p:=p) (dR (bR (lC q)).size++bR (lC q)))
 have oT:=rO (wb:=wb) (sb:=sb) oQ (aQ3 (bb:=bb) (o:=o) (p:=p) (aA8 q))
 have oD:=rO (wb:=wb) (sb:=sb) oQ' (aT3 (bb:=bb) (o:=o) (p:=p) (aA7 e x1 x2 x3 x4 x5 x6 l))
 have oE:=rO (wb:=wb) (sb:=sb) oQ' (aA9 (bb:=bb) (o:=o) (p:=p))
 have hs0:=hst h
 have hv:q.val=.agg q.cells.toList.toArray:=rfl
 rw [hv]
 refine (aMn (Y:=fun vs=>∃ a cp,vs.toArray=bY e x1 x2 x3 x4 x5 x6 (.slice a l.length cp)) (s:=bR (lC q)) (r:=bR (lA e x1 x2 x3 x4 x5 x6 l)) oR oF oT oD oE h rfl hz hzr (fun wx k=>?_) (fun wx F h=>?_) (fun wx F h=>?_) (fun wx F h=>?_) (fun wx F h=>?_) (fun wx F h wy k=>?_)).mono ?_
 ·have:=yD (w:=wx) (q:=q) (hok wx k) (hs0.1.keep0 k) (by have:=k.size;omega)
  rw [aLp hrq hz] at this
  exact this
 ·refine aSh oQ hop (hat sb) _ ?_ h
  simp only [ByteArray.size_append,dB]
  omega
 ·refine aSi oQ hop (hat sb) hz (aA8 q) (fun wx st h0=>?_) h
  refine (aKz hrq hqb hz st h0).mono ?_
  rintro en w' ⟨a,cap,rfl,k,hy⟩
  refine ⟨(qU q a cap).toList,fun j=>wx.heap.size+4≤j∧j<w'.heap.size,rfl,(aGr q a cap).1,(aGr q a cap).2,k,⟨a,cap,rfl,?_,fun j e=>e.2⟩,fun j e=>by have:=e.1;omega⟩
  exact hy.imp (fun e=>e) (fun e=>e.bound)
 ·refine aWy oQ oQ' hop (hat sb) (aA8 q) (aA7 e x1 x2 x3 x4 x5 x6 l) (fun wx FQ FA cs hq hx ha h0 st hp _=>?_) h
  obtain ⟨a,cap,hc,hb⟩:=hx
  rw [hc]
  refine (hdo wx FQ FA a cap hq hb ha h0 st hp).mono ?_
  rintro en w' ⟨bs,rfl,FQ',FR,q1,q2,q3,q4⟩
  refine ⟨(bY e x1 x2 x3 x4 x5 x6 bs).toList,rfl,rfl,?_,FQ',FR,q1,⟨bs,rfl,q2⟩,q3,q4⟩
  rcases q2.1 with ⟨_,rfl⟩ | ⟨_,_,_,_,_,_,rfl,_⟩ <;> exact rR _ _ _ _ _ _ _ _ _ _
 ·refine aSg oQ' hop (hat sb) (aA7 e x1 x2 x3 x4 x5 x6 l) hzr (fun wx FA vs hx st h0=>?_) h
  obtain ⟨bs,hc,hb⟩:=hx
  obtain ⟨D,hD⟩:=hb.list
  rw [hc]
  exact aU0 hr hD hzr st h0
 ·have hs:=hst h
  refine (aOz hr hl hzr (hs.1.keep0 k) (by have:=k.size;omega)).mono ?_
  rintro en w' ⟨a,cp,rfl,k2⟩
  exact ⟨(bY e x1 x2 x3 x4 x5 x6 (.slice a l.length cp)).toList,rfl,rfl,rR _ _ _ _ _ _ _ _ _ _,k2,a,cp,rfl⟩
 ·rintro en w' ⟨vs,rfl,_,_,⟨a,cp,hvs⟩,wx,F',hS,hm,hk⟩
  refine ⟨a,cp,by rw [hvs],F',oE.keep hS hk (fun j e q=>q.2 e) (fun e=>by have:=e.1;have:=hs0.2;omega),⟨hm.keeps.trans hk (fun j hj e=>absurd e.1 aA),hm.grows⟩⟩
end
abbrev tM:ByteArray:=⟨#[116]⟩
def oU:ByteArray:=mI 0 ⟨1,[(tM,((0:Int),(1:Int)))]⟩
theorem kT:oU.size=7:=by kernel_rfl
theorem aLv:Lib.hasPrefix eS.data.toList (fE 0 0++⟨#[45]⟩).data.toList=false:=by kernel_rfl
def iK (r:Int) (t:ByteArray):Dsk.aS:=⟨r,t.size,-1,[(eS,⟨t,t.size⟩)]⟩
section
variable {r:Int} {t:ByteArray} (hr:1000≤r∧r≤4194304) (ht:t.size≤100)
include hr ht
theorem aD0:Dsk.fQ (Dsk.jS r) cC t=0∧Dsk.cL (Dsk.jS r) cC t=⟨r,t.size,-1,[(cC,⟨t,0⟩)]⟩:=by
 have h1:Dsk.fQ (Dsk.jS r) cC t=0:=by
  unfold Dsk.fQ Dsk.jS
  have hn:Dsk.gF cC=true:=aE
  simp only [hn,if_true]
  rw [if_neg aE,if_neg aA]
 refine ⟨h1,?_⟩
 unfold Dsk.cL
 rw [if_pos h1]
 show (⟨r,0+(t.size:Int),-1,[(cC,⟨(⟨#[]⟩:ByteArray)++t,0⟩)]⟩:Dsk.aS)=_
 rw [iP t,Int.zero_add]
theorem aIj:Dsk.dJ (Dsk.cL (Dsk.jS r) cC t) cC=⟨r,t.size,-1,[(cC,⟨t,t.size⟩)]⟩:=by
 rw [(aD0 hr ht).2]
 rfl
theorem aQq:sA (Dsk.jS r) t=iK r t:=by
 unfold sA
 rw [aIj hr ht]
 rfl
theorem aJw:aIt (Dsk.jS r) t:=by
 have w0:Dsk.fV (Dsk.jS r):=Dsk.fV.new ⟨by omega,hr.2⟩
 refine ⟨w0,rfl,(aD0 hr ht).1,w0.app _ _,?_,(w0.app _ _).sync _,?_⟩
 ·rw [(aD0 hr ht).2];rfl
 ·rw [aIj hr ht];rfl
theorem aA1:Dsk.fV (iK r t):=by
 refine ⟨⟨by show 1≤r;omega,hr.2⟩,?_,by show (t.size:Int)≤r;omega,fun s x e=>?_,⟨by show (-1:Int)≤-1;omega,by show (-1:Int)≤_;omega⟩,by simp [KD,iK],fun s x e=>?_⟩
 ·show (t.size:Int)=((t.size+0:Nat):Int)
  simp
 ·have h:=kL e
  simp only [iK,List.mem_singleton,Prod.mk.injEq] at h
  obtain ⟨_,rfl⟩:=h
  exact ⟨by simp,by simp⟩
 ·have h:=kL e
  simp only [iK,List.mem_singleton,Prod.mk.injEq] at h
  obtain ⟨rfl,_⟩:=h
  decide
theorem aNc:zO (iK r t) (fE 0 0):=by
 refine ⟨aA1 hr ht,by show ¬ (-1:Int)=0;omega,by show 1≤900;omega,by kernel_rfl,by kernel_rfl,by kernel_rfl,fun s hs=>?_⟩
 have:s=eS:=by simpa [Dsk.cR,iK] using hs
 rw [this]
 exact aLv
end
end Go.Proofs.YteapahcklcldkaaGreatDoor
