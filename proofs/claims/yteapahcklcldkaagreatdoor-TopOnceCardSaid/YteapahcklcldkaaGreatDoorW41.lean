/-
  The statement is proved: all that it reaches, in parts.
-/
import Derived.Test.YteapahcklcldkaaGreatDoorW40
set_option maxRecDepth 100000
set_option maxHeartbeats 16000000
namespace Go.Proofs.YteapahcklcldkaaGreatDoor
open Go.RowKit Fx
theorem aB5 {P:Program} {op:Oper} {ev:Operand→Value} {w:World} (ty:TypeId) (x:Operand) (ho:op.op=.load ty x)
  (b o:Nat) (hx:ev x=.pointer (some ⟨b,o,none⟩)) (cs:List Value) (d:TypeDesc) (hc:w.rangeAt b o cs)
  (hu:P.underlying ty=some d) (hd:d.isRow=true) (hi:(P.info? ty).map (·.size)=some cs.length):(execOp ev op).run P w=.ok (.value (.agg cs.toArray)) w:=by
 unfold execOp
 simp only [ho,hx,Instr.loadAt,Instr.sureAddr,Sem.run_bind,Sem.run_pure,Result.andThen_ok,run_loadVar_mid w b o ty cs d hc hu hd hi]
theorem aDb {w:World} {b o:Nat} {c:Array Value} {t:TypeId} {cs:List Value} (h:w.heap[b]?=some (.cells c t (0,0))) (hc:∀ j v,cs[j]?=some v→c[o+j]?=some v):w.rangeAt b o cs:=fun j v hv=>by
 have h2:=aB h (o+j)
 rw [hc j v hv] at h2
 exact h2
section
variable {w:World} {sb bb o:Nat} {c:Array Value} {i now:Int}
theorem aKi {cs:List Value} (hb:w.heap[sb]?=some (.cells c 244 (0,0))) (hs:o+34≤c.size) (h1:c[o+1]?=some (.int .i64 1)) (h5:c[o+33]?=some (.bool false)) (h0:c[0]?=some (.iface 87 (.pointer (some ⟨bb,0,none⟩))))
  (hl:cs.length=20) (hc:∀ j v,cs[j]?=some v→c[o+2+j]?=some v)
  (hat:∀ wx,K0 w wx→Calls Tryz.prog 115 #[.pointer (some ⟨sb,0,none⟩),.int .i64 i] wx fun e w'=>e=.returned (.pointer (some ⟨sb,o,none⟩))∧K0 wx w') (P:List Value→World→World→Prop)
  (hP:∀ vs wx wy,K0 w wx→P vs wx wy→wy.heap[sb]?=some (.cells c 244 (0,0)))
  (hdo:∀ wx,K0 w wx→Calls Tryz.prog 28 #[.pointer (some ⟨bb,0,none⟩),.agg cs.toArray,.int .i64 now] wx fun e w'=>∃ vs:List Value,e=.returned (.agg vs.toArray)∧vs.length=10∧vs.toArray.all (·.oneCell')=true∧P vs wx w') :
  Calls Tryz.prog 54 #[.pointer (some ⟨sb,0,none⟩),.int .i64 i,.int .i64 now] w fun e w'=>e=.returned (.tuple #[.string ⟨#[]⟩,.bool true])∧∃ vs wx wy,K0 w wx∧P vs wx wy∧vs.length=10∧w'.heap[sb]?=some (.cells ((putL c (o+22) vs).setIfInBounds (o+1) (.int .i64 2)) 244 (0,0))∧aD (fun k=>k=sb) wy w':=by
 have HA:=Lib.hid hat
 have HB:=Lib.hid hb
 have H0:=Lib.hid h0
 have H1:=Lib.hid h1
 have H5:=Lib.hid h5
 have HS:=Lib.hid hs
 have HP:=Lib.hid hP
 have HDO:=Lib.hid hdo
 have HC:=Lib.hid hc
 have HQ0:Hid ((Tryz.prog.info? 45).map (·.size)=some cs.length):=by show _=_;rw [hl];exact gQ
 clear hb h0 h1 h5 hat hs hP hdo hl hc
 go_enter Tryz.func54,Tryz.ntmps54
 go_wp2_with fail
 refine (HA.out _ (aD.refl _ _)).mono ?_
 rintro e w2 ⟨rfl,k2⟩
 have hb2:=(k2.block _ (aC HB.out) (fun e=>e)).trans HB.out
 have x0:w2.cell? ⟨sb,0,none⟩=some (.iface 87 (.pointer (some ⟨bb,0,none⟩))):=(aB hb2 0).trans H0.out
 have x1:w2.cell? ⟨sb,o+1,none⟩=some (.int .i64 1):=(aB hb2 (o+1)).trans H1.out
 have x5:w2.cell? ⟨sb,o+33,none⟩=some (.bool false):=(aB hb2 (o+33)).trans H5.out
 have xr:w2.rangeAt sb (o+2) cs:=aDb hb2 HC.out
 have bl:=aC hb2
 have HK2:=Lib.hid k2
 clear hb2 k2
 go_upto_region 8 with fail
 refine aX 12 (fun w'=>w'.cell? ⟨sb,0,none⟩=some (.iface 87 (.pointer (some ⟨bb,0,none⟩)))∧w'.rangeAt sb (o+2) cs) (fun _=>True) aF ⟨by go_simp,xr⟩ trivial (fun hS=>?_)
 refine tB 0 hS (fun hS=>?_)
 simp only [Act.put,Sw]
 refine tB 1 hS (fun hS=>?_)
 simp only [Act.put]
 refine tB 2 hS (fun hS=>?_)
 simp only [Act.put]
 refine tB 3 hS (fun hS=>?_)
 simp only [Act.put]
 refine tA 4 hS (fun hS=>?_)
 simp only [Act.put]
 refine tB 5 hS (fun hS=>?_)
 simp only [Act.put]
 refine tB 6 hS (fun hS=>?_)
 simp only [Act.put]
 refine tB 7 hS (fun hS=>?_)
 simp only [Act.put]
 refine jF (i:=8) (v:=.agg cs.toArray) rfl aF aF aF aF aE (fun _ _ _ h=>h) aBx (fun w hA hB=>aB5 45 _ rfl sb (o+2) rfl cs _ hA.2 Tryz.underlying45 rfl HQ0.out) hS (fun hS=>?_)
 simp only [Act.put]
 refine tB 9 hS (fun hS=>?_)
 simp only [Act.put]
 refine tB 10 hS (fun hS=>?_)
 simp only [Act.put]
 refine tB 11 hS (fun hS=>?_)
 simp only [Act.put]
 refine tO 12 (fun K hK=>?_)
 go_simp
 refine (HDO.out _ HK2.out.drew).mono ?_
 rintro e w3 ⟨vs,rfl,hl3,ho3,hp3⟩
 have hb3:w3.heap[sb]?=some (.cells c 244 (0,0)):=HP.out _ _ _ HK2.out.drew hp3
 have HB3:=Lib.hid hb3
 have HP3:=Lib.hid hp3
 have HL3:=Lib.hid hl3
 have HO3:=Lib.hid ho3
 clear hp3 hl3 ho3 hb3
 show K _ _
 refine hK.out _ _ ⟨fun e=>absurd e aE,trivial⟩ (fun hS=>?_)
 clear hK K
 try simp only [Act.put,Sw]
 refine tO 13 (fun K hK=>?_)
 go_simp
 refine (aRu HB3.out HS.out HL3.out HO3.out).mono ?_
 rintro e w4 ⟨rfl,hb4,k4⟩
 have HB4:=Lib.hid hb4
 have HK4:=Lib.hid k4
 clear hb4 k4
 show K _ _
 refine hK.out _ _ ⟨fun e=>absurd e aE,trivial⟩ (fun hS=>?_)
 clear hK K
 try simp only [Act.put,Sw]
 refine bC aF ?_ _
 skip
 go_wp2_with fail
 go_ret2
 exact ⟨rfl,_,_,w3,HK2.out.drew,HP3.out,HL3.out,HB4.out,HK4.out⟩
theorem aKh {vs:List Value} {s:ByteArray} (hb:w.heap[sb]?=some (.cells c 244 (0,0))) (hs:o+34≤c.size) (h1:c[o+1]?=some (.int .i64 2)) (h4:c[o+32]?=some (.bool false)) (h5:c[o+33]?=some (.bool false))
  (hl:vs.length=10) (hc:∀ j v,vs[j]?=some v→c[o+22+j]?=some v) (hz:s.size≤60000)
  (hat:∀ wx,K0 w wx→Calls Tryz.prog 115 #[.pointer (some ⟨sb,0,none⟩),.int .i64 i] wx fun e w'=>e=.returned (.pointer (some ⟨sb,o,none⟩))∧K0 wx w')
  (han:∀ wx,aD (fun k=>k=sb) w wx→Calls Tryz.prog 118 #[.agg vs.toArray] wx fun e w'=>e=.returned (.tuple #[.string s,.int .i64 0])∧K0 wx w') :
  Calls Tryz.prog 54 #[.pointer (some ⟨sb,0,none⟩),.int .i64 i,.int .i64 now] w fun e w'=>e=.returned (.tuple #[.string (dR s.size++s),.bool true])∧w'.heap[sb]?=some (.cells ((c.setIfInBounds (o+1) (.int .i64 0)).setIfInBounds (o+33) (.bool false)) 244 (0,0))∧aD (fun k=>k=sb) w w':=by
 have HA:=Lib.hid hat
 have HB:=Lib.hid hb
 have H1:=Lib.hid h1
 have H4:=Lib.hid h4
 have H5:=Lib.hid h5
 have HS:=Lib.hid hs
 have HAN:=Lib.hid han
 have HC:=Lib.hid hc
 have HF:=Lib.hid (fun wx=>aC2 s wx hz)
 have HL:=Lib.hid hl
 have HQ0:Hid ((Tryz.prog.info? 33).map (·.size)=some vs.length):=by show _=_;rw [hl];exact fF
 clear hb h1 h4 h5 hat hs han hl hc hz
 go_enter Tryz.func54,Tryz.ntmps54
 go_wp2_with fail
 refine (HA.out _ (aD.refl _ _)).mono ?_
 rintro e w2 ⟨rfl,k2⟩
 have hb2:=(k2.block _ (aC HB.out) (fun e=>e)).trans HB.out
 have x1:w2.cell? ⟨sb,o+1,none⟩=some (.int .i64 2):=(aB hb2 (o+1)).trans H1.out
 have x4:w2.cell? ⟨sb,o+32,none⟩=some (.bool false):=(aB hb2 (o+32)).trans H4.out
 have x5:w2.cell? ⟨sb,o+33,none⟩=some (.bool false):=(aB hb2 (o+33)).trans H5.out
 have f1:w2.frozen? ⟨sb,o+1,none⟩=false:=aH hb2 (o+1)
 have f5:w2.frozen? ⟨sb,o+33,none⟩=false:=aH hb2 (o+33)
 have bl:=aC hb2
 have hb3:=aM (aM hb2 (o+1) (.int .i64 0)) (o+33) (.bool false)
 have HB3:=Lib.hid hb3
 have HR:Hid (((w2.setCell ⟨sb,o+1,none⟩ (.int .i64 0)).setCell ⟨sb,o+33,none⟩ (.bool false)).rangeAt sb (o+22) vs):=aDb hb3 (fun j v hv=>by
  have hj:j<vs.length:=by
   rcases Nat.lt_or_ge j vs.length with h | h
   ·exact h
   ·rw [List.getElem?_eq_none h] at hv;cases hv
  have h10:vs.length=10:=HL.out
  rw [Array.getElem?_setIfInBounds_ne aA,Array.getElem?_setIfInBounds_ne aA]
  exact HC.out j v hv)
 have HK3:Hid (aD (fun k=>k=sb) w ((w2.setCell ⟨sb,o+1,none⟩ (.int .i64 0)).setCell ⟨sb,o+33,none⟩ (.bool false))):=by
  have h0:aD (fun k=>k=sb) w w2:=k2.mono (fun _ _ e=>e.elim)
  exact (h0.setC _ _ (fun _=>rfl)).setC _ _ (fun _=>rfl)
 clear hb2 k2 hb3
 go_wp2_with (first
  | (refine wpList_load_mid rfl 33 (.tmp 61) rfl sb (o+22) rfl vs _ HR.out Tryz.underlying33 rfl HQ0.out ?_)
  | fail)
 refine (HAN.out _ HK3.out).mono ?_
 rintro e w4 ⟨rfl,k4⟩
 have HK4:=Lib.hid k4
 clear k4
 go_wp2_with fail
 refine (HF.out _).mono ?_
 rintro e w5 ⟨rfl,k5⟩
 have HK5:=Lib.hid (K0.tr HK4.out k5)
 clear k5
 go_wp2_with fail
 go_ret2
 exact ⟨rfl,(HK5.out.block _ (aC HB3.out) (fun e=>e)).trans HB3.out,HK3.out.trans HK5.out (fun _ _ e=>e.elim)⟩
end
end Go.Proofs.YteapahcklcldkaaGreatDoor
