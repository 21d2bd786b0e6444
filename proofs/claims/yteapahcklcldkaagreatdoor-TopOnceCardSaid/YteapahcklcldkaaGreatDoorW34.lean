/-
  The statement is proved: all that it reaches, in parts.
-/
import Derived.Test.YteapahcklcldkaaGreatDoorW33
import Derived.Laws.StructEq
set_option maxRecDepth 100000
set_option maxHeartbeats 16000000
namespace Go.Proofs.YteapahcklcldkaaGreatDoor
open Go.RowKit Fx
theorem aKu {w:World} {FD:Nat→Prop} {db:Nat} {D:Dsk.aS} {stb:Nat} (c0:w.cell? ⟨stb,0,none⟩=some (.pointer (some ⟨db,0,none⟩))) (hd:aU w FD db D) (wf:Dsk.fV D) (hfu:¬ D.fuse=0) (hfl:D.files.length≤900)
  (hpl:∀ wx,K0 w wx→Calls Tryz.prog 183 #[.pointer (some ⟨stb,0,none⟩)] wx fun e w'=>e=.returned (.slice none 0 0)∧K0 wx w')
  (hnm:∀ s∈Dsk.cR D.files,isP s=false) :
  Calls Tryz.prog 130 #[.pointer (some ⟨stb,0,none⟩)] w fun e w'=>e=.returned (.int .i64 0)∧K0 w w':=by
 have HNM:Hid (∀ wx,K0 w wx→Calls Tryz.prog 184 #[.pointer (some ⟨db,0,none⟩)] wx (Dsk.lX wx D)):=fun wx k=>aAm (hd.k0 k) wf aA
 have HPL:=Lib.hid hpl
 have HN:=Lib.hid hnm
 have HFU:=Lib.hid hfu
 have HFL:=Lib.hid hfl
 have lt:stb<w.heap.size:=World.block_lt_of_cell? w _ c0
 clear hd wf hfu hfl hpl hnm
 go_enter Tryz.func130,Tryz.ntmps130
 go_wp2_with fail
 go_step3
 go_wp2_with fail
 refine (HPL.out _ (aD.refl _ _)).mono ?_
 rintro e w1 ⟨rfl,k1⟩
 have c0':=k1.cell' c0 (fun e=>e)
 have lt':stb<w1.heap.size:=Nat.lt_of_lt_of_le lt k1.size
 have HK1:=Lib.hid k1
 clear k1 c0 lt
 go_wp2_with fail
 go_step3
 go_wp2_with fail
 refine (HNM.out _ HK1.out).mono ?_
 rintro e w2 ⟨a,c,ss,rfl,hS,k2,_,hp,hnew⟩
 obtain ⟨hperm,_⟩:=hp HFU.out
 have HS:=Lib.hid hS
 have HK2:Hid (K0 w w2):=K0.tr HK1.out k2
 have HPERM:=Lib.hid hperm
 have hsl:ss.length≤900:=(by have h1:=hperm.length_eq;have:=HFL.out;simp [Dsk.cR] at h1;omega)
 clear hS k2 hp hnew hperm c0' lt'
 go_wp2_with fail
 go_loopw [17] (fun iv wr=>∃ i:Nat,iv=.int .i64 i∧i≤ss.length∧Hid (K0 w2 wr)) (fun iv _=>ss.length - (intOf iv).toNat)
 case atStart=>exact ⟨0,rfl,by omega,(aD.refl _ _:K0 w2 w2)⟩
 case round=>
  obtain ⟨i,rfl,hil,HKr⟩:=hrel
  have i0:(0:Int)≤i:=aA
  by_cases hi:i<ss.length
  ·have i1:(i:Int)<ss.length:=by omega
   obtain ⟨g,hga,hgl,hgc⟩:=HS.out.row (by intro e;rw [e] at hi;simp at hi)
   subst hga
   have cg:wr.cell? ⟨g,i,none⟩=some (.string ss[i]):=HKr.out.cell' (hgc i hi) (fun e=>e)
   have hs:=HN.out ss[i] ((HPERM.out.mem_iff).1 (List.getElem_mem hi))
   clear hgc hgl
   have HHP:Hid (∀ wx,Calls Tryz.prog 185 #[.string ss[i],.string ⟨#[112]⟩] wx fun e w'=>e=.returned (.bool (isP ss[i]))∧w'=wx):=fun wx=>Tryz.strings_HasPrefix _ _ wx
   rw [hs] at HHP
   clear hs
   go_wp2_with fail
   refine (HHP.out _).mono ?_
   rintro e w3 ⟨rfl,rfl⟩
   clear cg
   go_wp2_with fail
   go_roundw
   case rel=>exact ⟨i+1,by go_num,by omega,HKr⟩
   case measure=>simp [intOf];omega
  ·obtain rfl:i=ss.length:=by omega
   go_wp2_with fail
   rw [Exit.noGoto_ret]
   go_ret
   exact ⟨rfl,K0.tr HK2.out HKr.out⟩
theorem wT {w:World} {stb db:Nat} {lim:Int} {pre:ByteArray} (c0:w.cell? ⟨stb,0,none⟩=some (.pointer (some ⟨db,0,none⟩))) (c1:w.cell? ⟨stb,1,none⟩=some (.int .i64 lim)) (Q:Nat→World→World→Prop)
  (hop:∀ wx,K0 w wx→Calls Tryz.prog 262 #[.pointer (some ⟨db,0,none⟩),.agg #[.string pre,.int .i64 lim,.int .i64 200]] wx fun e w'=>∃ lb,e=.returned (.tuple #[.pointer (some ⟨lb,0,none⟩),.int .i64 0])∧Q lb wx w') :
  Calls Tryz.prog 188 #[.pointer (some ⟨stb,0,none⟩),.string pre] w fun e w'=>∃ lb wx,e=.returned (.tuple #[.pointer (some ⟨lb,0,none⟩),.int .i64 0])∧K0 w wx∧Q lb wx w':=by
 have HOP0:=Lib.hid hop
 have lt:stb<w.heap.size:=World.block_lt_of_cell? w _ c0
 clear hop
 go_enter Tryz.func188,Tryz.ntmps188
 go_upto_region 1 with fail
 obtain ⟨W3,hW3⟩:∃ W3,W3=w:=⟨_,rfl⟩
 rw [← hW3] at HOP0 c0 c1 lt ⊢
 have HOP:=HOP0
 have HW3:=Lib.hid hW3
 clear hW3 HOP0
 refine aX 10 (fun w'=>w'.cell? ⟨stb,0,none⟩=some (.pointer (some ⟨db,0,none⟩))∧w'.cell? ⟨stb,1,none⟩=some (.int .i64 lim)) (fun _=>True) aF ⟨by go_simp,by go_simp⟩ trivial (fun hS=>?_)
 refine tB 0 hS (fun hS=>?_)
 simp only [Act.put,Sw]
 refine tB 1 hS (fun hS=>?_)
 simp only [Act.put]
 refine tB 2 hS (fun hS=>?_)
 simp only [Act.put]
 refine tA 3 hS (fun hS=>?_)
 simp only [Act.put]
 refine tB 4 hS (fun hS=>?_)
 simp only [Act.put]
 refine tB 5 hS (fun hS=>?_)
 simp only [Act.put]
 refine tB 6 hS (fun hS=>?_)
 simp only [Act.put]
 refine tB 7 hS (fun hS=>?_)
 simp only [Act.put]
 refine tA 8 hS (fun hS=>?_)
 simp only [Act.put]
 refine tB 9 hS (fun hS=>?_)
 simp only [Act.put]
 refine tO 10 (fun K hK=>?_)
 go_simp
 ((with_reducible refine Calls.mono (HOP.out _ ?_) ?_);· exact (aD.refl _ _).drew)
 rintro e w5 ⟨lb,rfl,hq⟩
 have HQ:=Lib.hid hq
 clear hq
 go_simp
 refine hK.out _ _ ⟨fun e=>absurd e aE,trivial⟩ (fun hS=>?_)
 clear hK K
 try simp only [Act.put,Sw]
 refine tB 11 hS (fun hS=>?_)
 simp only [Act.put,Sw]
 refine tB 12 hS (fun hS=>?_)
 simp only [Act.put]
 refine tO 13 (fun K hK=>?_)
 go_simp
 refine hK.out _ _ ⟨fun e=>absurd e aE,trivial⟩ (fun hS=>?_)
 clear hK K
 try simp only [Act.put,Sw]
 refine tO 14 (fun K hK=>?_)
 go_simp
 refine hK.out _ _ ⟨fun e=>absurd e aE,trivial⟩ (fun hS=>?_)
 clear hK K
 try simp only [Act.put,Sw]
 refine bC aF ?_ _
 skip
 go_wp2_with fail
 go_ret2
 have hh:=HW3.out
 subst hh
 exact ⟨lb,_,rfl,(aD.refl _ _).drew,HQ.out⟩
theorem aCb {w:World} {FD:Nat→Prop} {db stb:Nat} {D:Dsk.aS} (c0:w.cell? ⟨stb,0,none⟩=some (.pointer (some ⟨db,0,none⟩))) (hd:aU w FD db D) (he:Dsk.bJ D eS=6) :
  Calls Tryz.prog 127 #[.pointer (some ⟨stb,0,none⟩)] w fun e w'=>e=.returned (.int .i64 0)∧K0 w w':=by
 have HRD:Hid (Calls Tryz.prog 180 #[.pointer (some ⟨db,0,none⟩),.string ⟨#[109,101,116,97]⟩] w fun e w'=>e=.returned (.tuple #[.string (Dsk.jM D eS),.int .i64 6])∧K0 w w'):=by
  have:=yY hd eS
  rwa [he] at this
 have lt:stb<w.heap.size:=World.block_lt_of_cell? w _ c0
 clear hd he
 go_enter Tryz.func127,Tryz.ntmps127
 go_wp2_with fail
 refine HRD.out.mono ?_
 rintro e w1 ⟨rfl,k1⟩
 have HK:=Lib.hid k1
 clear k1 c0 lt
 go_wp2_with fail
 go_ret
 exact ⟨rfl,HK.out⟩
structure gX where
 id:Int
 index:Int
deriving DecidableEq
def gX.enc (k:gX):Value:=.agg #[.int .i64 k.id,.int .i64 k.index]
theorem aXe (w:World) (em:Bool) (x:gX):(Instr.checkKey em 10000 280 x.enc).run Tryz.prog w=.ok () w:=by kernel_rfl
theorem aYq (a b:Int) (w:World):(part 3 #[.int .i64 a,.int .i64 b] 0).run Tryz.prog w=.ok (.int .i64 a) w:=by kernel_rfl
theorem aYr (a b:Int) (w:World):(part 3 #[.int .i64 a,.int .i64 b] 1).run Tryz.prog w=.ok (.int .i64 b) w:=by kernel_rfl
theorem aXh (d:Nat) (xs ys:Array Value):Op.eqFields d xs ys (Tryz.prog.fieldsOf 280).toList=(do
  let a ← part 3 xs 0
  let b ← part 3 ys 0
  let r ← Op.equalIn d 3 a b
  if (!r)=true then pure false else do
   let a ← part 3 xs 1
   let b ← part 3 ys 1
   let r ← Op.equalIn d 3 a b
   if (!r)=true then pure false else pure true):=aF
theorem aM8 (w:World) (x y:gX):(Op.equal 280 x.enc y.enc).run Tryz.prog w=.ok (decide (x=y)) w:=by
 obtain ⟨a,b⟩:=x
 obtain ⟨a',b'⟩:=y
 have e1:(Op.equal 280 (gX.enc ⟨a,b⟩) (gX.enc ⟨a',b'⟩)).run Tryz.prog w=(Op.eqFields 9999 #[.int .i64 a,.int .i64 b] #[.int .i64 a',.int .i64 b'] (Tryz.prog.fieldsOf 280).toList).run Tryz.prog w:=
  run_equalIn_struct w 9999 _ _ _ aF aF
 have e4:∀ (a b:Int) w,(Op.equalIn 9999 3 (.int .i64 a) (.int .i64 b)).run Tryz.prog w=.ok (a==b) w:=fun a b w=>run_equalIn_int w 9998 3 .i64 .i64 a b Tryz.underlying3
 rw [e1,aXh]
 simp only [Sem.run_bind,aYq,aYr,Result.andThen_ok,e4,Sem.run_ite,Sem.run_pure]
 by_cases h1:a=a' <;> by_cases h2:b=b' <;> simp_all
theorem aGz (x:gX) (es:List MapEntry) (i:Nat):∀ {L:List (gX×Value)},es.map (fun x=>(x.key,x.val))=L.map (fun p=>(p.1.enc,p.2))→Instr.findNow (.struct (Tryz.prog.fieldsOf 280)) x.enc es i=if es=[] then some none else none:=by
 intro L h
 cases es with
 | nil=>rfl
 | cons e es=>
  cases L with
  | nil=>simp at h
  | cons p L=>
   simp only [List.map_cons,List.cons.injEq] at h
   have hk:e.key=p.1.enc:=congrArg Prod.fst h.1
   simp [Instr.findNow,Instr.sameNow]
theorem aAp (w:World) (x:gX):∀ (es:List MapEntry) (L:List (gX×Value)) (i:Nat),es.map (fun x=>(x.key,x.val))=L.map (fun p=>(p.1.enc,p.2))→
  (Instr.findAsking 280 x.enc es i).run Tryz.prog w=.ok ((aQ L x).map fun v=>(i+(L.findIdx fun p=>p.1=x),v)) w:=by
 intro es
 induction es with
 | nil=>intro L i h;cases L <;> simp_all [Instr.findAsking,aQ]
 | cons e es ih=>
  intro L i h
  cases L with
  | nil=>simp at h
  | cons p L=>
   simp only [List.map_cons,List.cons.injEq] at h
   obtain ⟨h1,h2⟩:=h
   have hk:e.key=p.1.enc:=congrArg Prod.fst h1
   have hv:e.val=p.2:=congrArg Prod.snd h1
   obtain ⟨k,v⟩:=p
   simp only at hk hv
   simp only [Instr.findAsking,hk,Sem.run_bind,aM8,Result.andThen_ok,Sem.run_ite]
   by_cases hx:x=k
   ·exact (by subst hx;simp [aQ,hv,List.findIdx_cons])
   ·have hx':¬ k=x:=fun e=>hx e.symm
    simp [hx,ih L (i+1) h2,aQ,hx',List.findIdx_cons]
    cases aQ L x <;> simp
    omega
theorem aSb:Tryz.prog.underlying 280=some (.struct (Tryz.prog.fieldsOf 280)):=by kernel_rfl
def aRi:qD Tryz.prog 280 gX where
 enc:=gX.enc
 inj:=fun x y e=>by
  obtain ⟨a,b⟩:=x
  obtain ⟨a',b'⟩:=y
  simp [gX.enc] at e
  simp [e]
 check:=fun w em x=>aXe w em x
 find:=fun w x {es L} h=>by
  have hf:=aGz x es 0 h
  have ha:=aAp w x es L 0 h
  simp only [Nat.zero_add] at ha
  unfold Instr.findKey
  simp only [Sem.run_bind,run_underlying aSb,Result.andThen_ok,hf]
  cases es with
  | nil=>cases L <;> simp_all [aQ]
  | cons e es=>simpa using ha
 stays:=fun w x=>by
  have:(Instr.keyThatStays (gX.enc ⟨x.id,x.index⟩) (gX.enc ⟨x.id,x.index⟩)).run Tryz.prog w=.ok (gX.enc ⟨x.id,x.index⟩) w:=by
   have:Instr.sameBits 10000 (gX.enc x) (gX.enc x)=true:=by
    show Instr.sameBits (9999+1) (.agg _) (.agg _)=true
    simp [Instr.sameBits]
   simp [Instr.keyThatStays,this]
  exact this
theorem aSk (w:World):(zeroValue 281).run Tryz.prog w=.ok (.pointer none) w:=by kernel_rfl
theorem aR2 {w:World} {stb tb tm pm pb:Nat} {t:Tpc.gG} {L:List (gX×Value)} {s:ByteArray} {id ix n:Int} (c3:w.cell? ⟨stb,3,none⟩=some (.pointer (some ⟨tb,0,none⟩))) (c4:w.cell? ⟨stb,4,none⟩=some (.map (some pm))) (ht:Tpc.cP w tb tm t) (hm:bM gX.enc w pm L)
  (hf:t.find s=(id,n,0)) (hg:aQ L ⟨id,ix⟩=some (.pointer (some ⟨pb,0,none⟩))) :
  Calls Tryz.prog 141 #[.pointer (some ⟨stb,0,none⟩),.string s,.int .i64 ix] w fun e w'=>e=.returned (.tuple #[.pointer (some ⟨pb,0,none⟩),.int .i64 0])∧K0 w w':=by
 have HF:Hid (Calls Tryz.prog 87 #[.pointer (some ⟨tb,0,none⟩),.string s] w fun e w'=>e=.returned (.tuple #[.int .i64 id,.int .i64 n,.int .i64 0])∧K0 w w'):=by
  refine (Tpc.aEe tb tm t s w ht).mono ?_
  rintro e w' ⟨rfl,k'⟩
  exact ⟨by rw [hf],k'⟩
 have HV:=Lib.hid hg
 have HM:=Lib.hid hm
 have lt:stb<w.heap.size:=World.block_lt_of_cell? w _ c3
 clear ht hf hm hg
 go_enter Tryz.func141,Tryz.ntmps141
 go_wp2_with fail
 refine HF.out.mono ?_
 rintro e w1 ⟨rfl,k1⟩
 have c4':=k1.cell' c4 (fun e=>e)
 have lt':stb<w1.heap.size:=Nat.lt_of_lt_of_le lt k1.size
 have hm1:bM gX.enc w1 pm L:=HM.out.of_block (k1.block _ HM.out.lt (fun e=>e))
 have HK:=Lib.hid k1
 clear k1 c3 c4 lt
 go_wp2_with (at_lookup;refine cI aRi rfl rfl Tryz.underlying261 aSk rfl ⟨id,ix⟩ rfl hm1 _ HV.out ?_)
 go_ret2
 exact ⟨rfl,HK.out⟩
section
variable {w:World} {stb pb:Nat} {s:ByteArray} {ix:Int}
theorem aOo (hp:Calls Tryz.prog 141 #[.pointer (some ⟨stb,0,none⟩),.string s,.int .i64 ix] w fun e w'=>e=.returned (.tuple #[.pointer (some ⟨pb,0,none⟩),.int .i64 0])∧K0 w w') :
  Calls Tryz.prog 82 #[.pointer (some ⟨stb,0,none⟩),.string s,.int .i64 ix] w fun e w'=>e=.returned (.bool true)∧K0 w w':=by
 have HP:=Lib.hid hp
 clear hp
 go_enter Tryz.func82,Tryz.ntmps82
 go_wp2_with fail
 refine HP.out.mono ?_
 rintro e w1 ⟨rfl,k1⟩
 have HK:=Lib.hid k1
 clear k1
 go_wp2_with fail
 go_ret
 exact ⟨rfl,HK.out⟩
theorem aKg {lb:Nat} {en:Int} (hp:Calls Tryz.prog 141 #[.pointer (some ⟨stb,0,none⟩),.string s,.int .i64 ix] w fun e w'=>e=.returned (.tuple #[.pointer (some ⟨pb,0,none⟩),.int .i64 0])∧K0 w w')
  (c0:w.cell? ⟨pb,0,none⟩=some (.pointer (some ⟨lb,0,none⟩))) (hs:∀ wx,K0 w wx→Calls Tryz.prog 150 #[.pointer (some ⟨lb,0,none⟩)] wx fun e w'=>e=.returned (.int .i64 0)∧K0 wx w')
  (he:∀ wx,K0 w wx→Calls Tryz.prog 142 #[.pointer (some ⟨lb,0,none⟩)] wx fun e w'=>e=.returned (.int .i64 en)∧K0 wx w') :
  Calls Tryz.prog 83 #[.pointer (some ⟨stb,0,none⟩),.string s,.int .i64 ix] w fun e w'=>e=.returned (.tuple #[.int .i64 0,.int .i64 en])∧K0 w w':=by
 have HP:=Lib.hid hp
 have HS:=Lib.hid hs
 have HE:=Lib.hid he
 have lt:pb<w.heap.size:=World.block_lt_of_cell? w _ c0
 clear hp hs he
 go_enter Tryz.func83,Tryz.ntmps83
 go_wp2_with fail
 refine HP.out.mono ?_
 rintro e W ⟨rfl,k1⟩
 have c0':=k1.cell' c0 (fun e=>e)
 have lt':pb<W.heap.size:=Nat.lt_of_lt_of_le lt k1.size
 have HK:=Lib.hid k1
 have HSW:Hid (∀ wx,K0 W wx→Calls Tryz.prog 150 #[.pointer (some ⟨lb,0,none⟩)] wx fun e w'=>e=.returned (.int .i64 0)∧K0 wx w'):=fun wx k=>HS.out wx (K0.tr HK.out k)
 have HEW:Hid (∀ wx,K0 W wx→Calls Tryz.prog 142 #[.pointer (some ⟨lb,0,none⟩)] wx fun e w'=>e=.returned (.int .i64 en)∧K0 wx w'):=fun wx k=>HE.out wx (K0.tr HK.out k)
 clear k1 c0 lt HS HE HP
 go_upto_region 4 with fail
 go_region_held3 (fun w':World=>K0 W w'∧w'.cell? ⟨pb,0,none⟩=some (.pointer (some ⟨lb,0,none⟩)))
  (first | exact ⟨(aD.refl _ _).drew,by first | assumption | go_simp⟩ | (go_split_ands;exact ⟨K0.tr aG kk,kk.cell' aG (fun e=>e)⟩))
  (first
   | (go_at_call 150;go_split_ands;refine (HSW.out _ aG).mono ?_;rintro e w' ⟨rfl,kk⟩)
   | (go_at_call 142;go_split_ands;refine (HEW.out _ (by assumption)).mono ?_;rintro e w' ⟨rfl,kk⟩))
 go_wp2_with fail
 go_ret2
 go_split_ands
 exact ⟨rfl,K0.tr HK.out aG⟩
theorem aRx {lb:Nat} {from_ most:Int} (hp:Calls Tryz.prog 141 #[.pointer (some ⟨stb,0,none⟩),.string s,.int .i64 ix] w fun e w'=>e=.returned (.tuple #[.pointer (some ⟨pb,0,none⟩),.int .i64 0])∧K0 w w')
  (c0:w.cell? ⟨pb,0,none⟩=some (.pointer (some ⟨lb,0,none⟩))) (Q:Value→World→World→Prop) (hr:∀ wx,K0 w wx→Calls Tryz.prog 219 #[.pointer (some ⟨lb,0,none⟩),.int .i64 from_,.int .i64 most] wx fun e w'=>∃ u,e=.returned (.tuple #[u,.int .i64 0])∧Q u wx w') :
  Calls Tryz.prog 144 #[.pointer (some ⟨stb,0,none⟩),.string s,.int .i64 ix,.int .i64 from_,.int .i64 most] w fun e w'=>∃ u wx,e=.returned (.tuple #[u,.int .i64 0])∧K0 w wx∧Q u wx w':=by
 have HP:=Lib.hid hp
 have HR:=Lib.hid hr
 have lt:pb<w.heap.size:=World.block_lt_of_cell? w _ c0
 clear hp hr
 go_enter Tryz.func144,Tryz.ntmps144
 go_wp2_with fail
 refine HP.out.mono ?_
 rintro e W ⟨rfl,k1⟩
 have c0':=k1.cell' c0 (fun e=>e)
 have lt':pb<W.heap.size:=Nat.lt_of_lt_of_le lt k1.size
 have HK:=Lib.hid k1
 clear k1 c0 lt HP
 go_wp2_with fail
 refine (HR.out _ HK.out).mono ?_
 rintro e w2 ⟨u,rfl,hq⟩
 have HQ:=Lib.hid hq
 clear hq
 go_wp2_with fail
 go_ret2
 exact ⟨u,W,rfl,HK.out,HQ.out⟩
end
end Go.Proofs.YteapahcklcldkaaGreatDoor
namespace Go.Proofs.YteapahcklcldkaaGreatDoor.Tpc
open Go.RowKit Fx
def okR (nx:Int) (q:iR):Prop:=0≤q.2.1∧q.2.1<nx∧1≤q.2.2∧q.2.2≤16∧1≤q.1.size∧q.1.size≤100
structure aDt (s:ByteArray) (nx n:Int) (p:pE):Prop where
 lo:0≤p.a
 hi:p.a≤s.size
 pre:s.extract 0 p.a.toNat=dA (putB nx++putB n) p.l
 ord:gC p.l
 ok:∀ q∈p.l,okR nx q
theorem aR1 {l:List iR} (h:gC l) {nm:ByteArray} {x:Int×Int} (hl:gU (xM l) nm=true):gC (l++[(nm,x)]):=by
 have hall:∀ q∈l,gU q.1 nm=true:=by
  intro q hq
  rcases List.eq_nil_or_concat l with rfl | ⟨l',z,rfl⟩
  ·cases hq
  ·rw [List.concat_eq_append] at *
   rw [nR] at hl
   rcases List.mem_append.1 hq with hq | hq
   ·have h2:=(List.pairwise_append.1 (List.pairwise_map.1 h)).2.2 q hq z aK
    exact wA h2 hl
   ·obtain rfl:=List.mem_singleton.1 hq
    exact hl
 refine List.pairwise_map.2 (List.pairwise_append.2 ⟨List.pairwise_map.1 h,by simp,fun a ha b hb=>?_⟩)
 obtain rfl:=List.mem_singleton.1 hb
 exact hall a ha
theorem aD2 {a nm:ByteArray} (h:gU a nm=true):1≤nm.size:=by
 rw [lP] at h
 have h1:nm.data.toList.length=nm.size:=rfl
 cases hx:nm.data.toList with
 | nil=>rw [hx] at h;exact absurd h (List.not_lt_nil _)
 | cons b l=>rw [hx] at h1;simp at h1;omega
section
variable {s:ByteArray} {nx n:Int}
theorem aDt.step {p:pE} (h:aDt s nx n p) (_hp:p.e=0) (he:(lL s nx p).e=0):aDt s nx n (lL s nx p):=by
 have h3:aFf s nx p=0:=he
 obtain ⟨e2,g3,a3,b3,n3,t3⟩:=nS h3
 obtain ⟨e1,g2,a2,b2,n2,t2⟩:=nS e2
 obtain ⟨e0,hb⟩:=zK e1
 obtain ⟨_,hk,hS,hT⟩:=aR9 e0
 have k1:=aR7 hk
 have k2:=nB g2
 have k3:=nB g3
 obtain ⟨x1,z1⟩:=aWv hk
 have x2:=uQ g2
 have x3:=uQ g3
 have e2T:yQ s p=dW s (wW s p.a p.e):=t2
 have e3T:tN s nx p=dW s (yQ s p):=t3
 have e2N:nX s p=dE s (wW s p.a p.e):=n2
 have e3N:pR s nx p=dE s (yQ s p):=n3
 have hnm:=aD2 hb
 rw [hS] at hnm
 rw [← e3T] at x3 k3
 rw [← e2T] at x2 k2
 rw [← e2N] at x2 a2 b2
 rw [← e3N] at x3 a3 b3
 rw [← hT] at x1 k1
 have hlo:=h.lo
 refine ⟨?_,?_,?_,aR1 h.ord hb,?_⟩
 ·show 0≤tN s nx p;omega
 ·show tN s nx p≤s.size;omega
 ·show s.extract 0 (tN s nx p).toNat=dA _ (p.l++[aHv s nx p])
  rw [tG,← h.pre]
  rw [nQ (a:=0) (b:=p.a.toNat) (c:=(tN s nx p).toNat) aA aA aA]
  rw [nQ (a:=p.a.toNat) (b:=(wW s p.a p.e).toNat) (c:=(tN s nx p).toNat) aA aA aA]
  rw [nQ (a:=(wW s p.a p.e).toNat) (b:=(yQ s p).toNat) (c:=(tN s nx p).toNat) aA aA aA]
  rw [x1,x2,x3]
  show _=_++qQ (txS s p.a p.e,(nX s p,pR s nx p))
  unfold qQ
  rw [hS]
  simp only [ByteArray.append_assoc]
 ·intro q hq
  have hq:q∈p.l++[aHv s nx p]:=hq
  rcases List.mem_append.1 hq with hq | hq
  ·exact h.ok q hq
  ·obtain rfl:=List.mem_singleton.1 hq
   show 0≤nX s p∧nX s p<nx∧1≤pR s nx p∧pR s nx p≤16∧1≤(txS s p.a p.e).size∧(txS s p.a p.e).size≤100
   rw [hS]
   exact ⟨a2,by omega,a3,b3,hnm,z1⟩
theorem aHz:∀ (j:Nat) (p:pE),(p.e=0→aDt s nx n p)→(oZ s nx j p).e=0→aDt s nx n (oZ s nx j p)∧(oZ s nx j p).l.length=p.l.length+j∧p.e=0
 | 0,p,h,he=>⟨h he,rfl,he⟩
 | j+1,p,h,he=>by
  by_cases hp:p.e=0
  ·rw [oZ,if_pos hp] at he ⊢
   obtain ⟨h1,h2,_⟩:=aHz j (lL s nx p) (fun h2=>(h hp).step hp h2) he
   refine ⟨h1,?_,hp⟩
   rw [h2]
   show (p.l++[aHv s nx p]).length+j=_
   simp
   omega
  ·rw [oZ,if_neg hp] at he
   exact absurd he hp
theorem aDt.first (h:(paP s).e=0):aDt s (paX s) (paC s) (paP s):=by
 obtain ⟨h1,g1,_,_,h4,h5⟩:=nS h
 obtain ⟨_,g2,_,_,f4,f5⟩:=nS h1
 have k1:=nB g1
 have k2:=nB g2
 have x1:=uQ g1
 have x2:=uQ g2
 have eA:(paP s).a=dW s (vO s 0 0):=h5
 have eC:paC s=dE s (vO s 0 0):=h4
 have eX:paX s=dE s 0:=f4
 rw [← eA] at x1 k1
 rw [← eC] at x1
 rw [f5] at x1 k1
 rw [← eX] at x2
 refine ⟨by omega,by omega,?_,List.Pairwise.nil,fun q hq=>by cases hq⟩
 rw [nQ (a:=0) (b:=(dW s 0).toNat) (c:=(paP s).a.toNat) aA aA aA]
 have x2:s.extract 0 (dW s 0).toNat=putB (paX s):=x2
 rw [x2,x1]
 rfl
theorem aBc (h:paE s=0):aA0 (xO s).l=(xO s).l∧gC (xO s).l∧tS ⟨paX s,(xO s).l⟩∧bE ⟨paX s,(xO s).l⟩=s:=by
 obtain ⟨hF,hb⟩:=zK h
 simp only [Bool.and_eq_true,decide_eq_true_eq] at hb
 obtain ⟨ha,hi⟩:=hb
 obtain ⟨hI,hl,hp⟩:=aHz (s:=s) (nx:=paX s) (n:=paC s) (paC s).toNat (paP s) aDt.first hF
 have hI:aDt s (paX s) (paC s) (xO s):=hI
 have hl:(xO s).l.length=0+(paC s).toNat:=hl
 obtain ⟨z1,z2,z3,z4⟩:=aHq hp
 have hlen:paC s=(xO s).l.length:=aA
 have hnd:((xO s).l.map (·.2.1)).Nodup:=(aG5 _).1 aA
 have hkd:KD (xO s).l:=hI.ord.kd
 refine ⟨aNo _ hkd,hI.ord,⟨hkd,⟨z1,z2⟩,by show (xO s).l.length≤20;omega,fun t x e=>?_,fun t t' x x' e e' hne hx=>?_⟩,?_⟩
 ·have:=hI.ok _ (kL e)
  exact ⟨this.1,this.2.1,this.2.2.1,this.2.2.2.1,this.2.2.2.2.1,this.2.2.2.2.2⟩
 ·obtain ⟨i,hi2,ei⟩:=List.mem_iff_getElem.1 (kL e)
  obtain ⟨j,hj2,ej⟩:=List.mem_iff_getElem.1 (kL e')
  have hpw:=List.pairwise_iff_getElem.1 (List.pairwise_map.1 (List.nodup_iff_pairwise_ne.1 hnd))
  have hij:i≠j:=fun hh=>by subst hh;rw [ei] at ej;exact hne (congrArg Prod.fst ej)
  rcases Nat.lt_or_gt_of_ne hij with hlt | hlt
  ·have:=hpw i j hi2 hj2 hlt
   rw [ei,ej] at this
   exact this hx
  ·have:=hpw j i hj2 hi2 hlt
   rw [ei,ej] at this
   exact this hx.symm
 ·have hpre:=hI.pre
  rw [ha,Int.toNat_natCast,aLq] at hpre
  show dA (putB (paX s)++putB ((xO s).l.length:Int)) (xO s).l=s
  rw [← hlen,← hpre]
end
end Go.Proofs.YteapahcklcldkaaGreatDoor.Tpc
namespace Go.Proofs.YteapahcklcldkaaGreatDoor
open Go.RowKit Fx
theorem aIc {w:World} {stb tb tm:Nat} {t R:Tpc.gG} (c3:w.cell? ⟨stb,3,none⟩=some (.pointer (some ⟨tb,0,none⟩))) (ht:Tpc.cP w tb tm t) (hs:Tpc.mS t R) (hw:Tpc.tS t) :
  Calls Tryz.prog 137 #[.pointer (some ⟨stb,0,none⟩)] w fun e w'=>∃ tb2 tm2,e=.returned (.pointer (some ⟨tb2,0,none⟩))∧Tpc.cP w' tb2 tm2 ⟨R.next,R.all⟩∧w.heap.size≤tb2∧w.heap.size≤tm2∧K0 w w':=by
 have hR:Tpc.tS R:=hs.wf hw
 obtain ⟨p1,p2,p3⟩:=Tpc.xQ hR hs.ord
 have p4:=(Tpc.aBc p1).1
 have hz1:(Tpc.bE R).size≤2620:=(by have:=Tpc.mZ hR R.all.length;rw [List.take_length] at this;exact this)
 have HPR:Hid (Calls Tryz.prog 200 #[.pointer (some ⟨tb,0,none⟩)] w fun e w'=>e=.returned (.string (Tpc.bE R))∧K0 w w'):=Tpc.aBv ht hs hw
 have HPA:Hid (∀ wx,Calls Tryz.prog 181 #[.string (Tpc.bE R)] wx fun e w'=>∃ tb2 tm2,e=.returned (.tuple #[.pointer (some ⟨tb2,0,none⟩),.int .i64 0])∧Tpc.cP w' tb2 tm2 ⟨R.next,R.all⟩∧wx.heap.size≤tb2∧wx.heap.size≤tm2∧K0 wx w'):=fun wx=>by
  refine (Tpc.aDa (Tpc.bE R) wx aA).mono ?_
  intro e w' h
  rcases h with ⟨h,_⟩ | ⟨_,tb2,m2,h1,h2,h3,h4,h5⟩
  ·exact absurd p1 h
  ·rw [p4,p2,p3] at h2
   exact ⟨tb2,m2,h1,h2,h3,h4,h5⟩
 have lt:stb<w.heap.size:=World.block_lt_of_cell? w _ c3
 clear ht hs hw hR p1 p2 p3 p4 hz1
 go_enter Tryz.func137,Tryz.ntmps137
 go_wp2_with fail
 refine HPR.out.mono ?_
 rintro e w1 ⟨rfl,k1⟩
 have HK:=Lib.hid k1
 clear k1 c3 lt
 go_wp2_with fail
 refine (HPA.out _).mono ?_
 rintro e w2 ⟨tb2,tm2,rfl,h1,h2,h3,k2⟩
 have HT:=Lib.hid h1
 have HZ:Hid (w.heap.size≤tb2∧w.heap.size≤tm2):=⟨Nat.le_trans HK.out.size h2,Nat.le_trans HK.out.size h3⟩
 have HK2:=Lib.hid k2
 clear h1 h2 h3 k2
 go_wp2_with fail
 go_ret
 exact ⟨tb2,tm2,rfl,HT.out,HZ.out.1,HZ.out.2,K0.tr HK.out HK2.out⟩
theorem iY.cells {w wr:World} {Bs:List aR} {v:Value} (h:iY w Bs v wr):∃ a c,v=.slice a Bs.length c∧K0 w wr∧∀ i (hi:i<Bs.length),∃ g x cp,a=some ⟨g,0,none⟩∧w.heap.size≤g∧g<wr.heap.size∧wr.cell? ⟨g,i*6,none⟩=some (.int .i64 Bs[i].base)∧wr.cell? ⟨g,i*6+1,none⟩=some (.int .i64 Bs[i].span)∧wr.cell? ⟨g,i*6+2,none⟩=some (.int .i64 Bs[i].prod)∧
  wr.cell? ⟨g,i*6+3,none⟩=some (.int .i64 Bs[i].epoch)∧wr.cell? ⟨g,i*6+4,none⟩=some (.int .i64 Bs[i].seq)∧wr.cell? ⟨g,i*6+5,none⟩=some (.slice x Bs[i].recs.length cp):=by
 obtain ⟨xs,D,hx⟩:=h
 have hlen:xs.length=Bs.length:=by rw [← hx.bs,List.length_map]
 rcases hx.own.2 with ⟨h1,h2⟩ | ⟨g,cap,cur,rfl,hb,hg,_⟩
 ·exact ⟨none,0,by rw [h2];exact h1,hx.k0,fun i hi=>by omega⟩
 ·refine ⟨some ⟨g,0,none⟩,cap,rfl,hx.k0,fun i hi=>?_⟩
  have hi':i<xs.length:=aA
  have hb:xs[i].b=Bs[i]:=by
   have:(xs.map (·.b))[i]?=Bs[i]?:=by rw [hx.bs]
   rw [List.getElem?_map,List.getElem?_eq_getElem hi',List.getElem?_eq_getElem hi] at this
   exact Option.some.inj this
  have hc:∀ j,j<6→wr.cell? ⟨g,i*6+j,none⟩=(qL xs[i])[j]?:=fun j hj=>by
   rw [hx.own.cellAt (i*6+j) aA]
   exact fR qL 6 (fun _=>rfl) xs i hi' j hj
  have c0:=hc 0 aA
  have c1:=hc 1 aA
  have c2:=hc 2 aA
  have c3:=hc 3 aA
  have c4:=hc 4 aA
  have c5:=hc 5 aA
  simp only [qL,hb,Nat.add_zero,List.getElem?_cons_zero,List.getElem?_cons_succ] at c0 c1 c2 c3 c4 c5
  exact ⟨g,xs[i].a,xs[i].cap,rfl,(hx.own.lt g rfl).1,(hx.own.lt g rfl).2,c0,c1,c2,c3,c4,c5⟩
def bI (b:aR):Idm.cY:=⟨b.base,b.span,b.prod,b.epoch,b.seq,none,0,0⟩
def cD (M:List (Int×Idm.aW)) (Bs:List aR):List (Int×Idm.aW):=Bs.foldl (fun M b=>Idm.hZ M (bI b)) M
theorem oV (M:List (Int×Idm.aW)) (Bs Cs:List aR):cD M (Bs++Cs)=cD (cD M Bs) Cs:=by simp [cD]
theorem rM {M:List (Int×Idm.aW)} (h:Idm.WfM M) (Bs:List aR):Idm.WfM (cD M Bs):=by
 induction Bs generalizing M with
 | nil=>exact h
 | cons b r ih=>exact ih (h.note (bI b))
theorem aHi (M:List (Int×Idm.aW)) (Bs:List aR) {k:Nat} (h:k<Bs.length):cD M (Bs.take (k+1))=Idm.hZ (cD M (Bs.take k)) (bI Bs[k]):=by
 have et:Bs.take (k+1)=Bs.take k++[Bs[k]]:=(by rw [List.take_add_one,List.getElem?_eq_getElem h];rfl)
 rw [et,oV]
 rfl
theorem zL:Idm.WfM []:=fun id H e=>by cases e
theorem aHy {w:World} {F:Nat→Prop} {pb:Nat} {M:List (Int×Idm.aW)} (h:dS w F pb M) (wf:Idm.WfM M) (b:aR) (x:Option Addr) (n c:Nat):Calls Tryz.prog 95 #[.pointer (some ⟨pb,0,none⟩),.agg #[.int .i64 b.base,.int .i64 b.span,.int .i64 b.prod,.int .i64 b.epoch,.int .i64 b.seq,.slice x n c]] w fun e w'=>e=.returned (.tuple #[])∧∃ F',dS w' F' pb (Idm.hZ M (bI b))∧aP F F' w w':=
 aUe h wf ⟨b.base,b.span,b.prod,b.epoch,b.seq,x,n,c⟩
structure aK8 (w:World) (F:Nat→Prop) (pb db:Nat) (pre:ByteArray) (lim:Int) (Ss:List fO) (M:List (Int×Idm.aW)) (lb prb:Nat) (FL FP:Nat→Prop):Prop where
 blk:w.heap[pb]?=some (.cells #[.pointer (some ⟨lb,0,none⟩),.pointer (some ⟨prb,0,none⟩)] 285 (0,0))
 log:fN w FL lb db pre lim 200 Ss
 prod:dS w FP prb M
 ne1:¬ FL pb∧¬ FP pb
 ne2:∀ k,FL k→¬ FP k
 own:F pb∧(∀ k,FL k→F k)∧∀ k,FP k→F k
 lt:∀ k,F k→k<w.heap.size
def lF (w:World) (F:Nat→Prop) (pb db:Nat) (pre:ByteArray) (lim:Int) (Ss:List fO) (M:List (Int×Idm.aW)):Prop:=∃ lb prb FL FP,aK8 w F pb db pre lim Ss M lb prb FL FP
theorem aK8.keep {w w':World} {F S:Nat→Prop} {pb db:Nat} {pre:ByteArray} {lim:Int} {Ss:List fO} {M:List (Int×Idm.aW)} {lb prb:Nat} {FL FP:Nat→Prop} (h:aK8 w F pb db pre lim Ss M lb prb FL FP) (k:aD S w w') (hS:∀ k,F k→¬ S k):aK8 w' F pb db pre lim Ss M lb prb FL FP:=
 ⟨(k.block _ (aC h.blk) (hS _ h.own.1)).trans h.blk,h.log.keep k (fun j e=>hS j (h.own.2.1 j e)),h.prod.keep k (fun j e=>hS j (h.own.2.2 j e)),h.ne1,h.ne2,h.own,fun j e=>Nat.lt_of_lt_of_le (h.lt j e) k.size⟩
theorem lF.keep {w w':World} {F S:Nat→Prop} {pb db:Nat} {pre:ByteArray} {lim:Int} {Ss:List fO} {M:List (Int×Idm.aW)} (h:lF w F pb db pre lim Ss M) (k:aD S w w') (hS:∀ k,F k→¬ S k):lF w' F pb db pre lim Ss M:=by
 obtain ⟨lb,prb,FL,FP,h⟩:=h
 exact ⟨lb,prb,FL,FP,h.keep k hS⟩
theorem lF.lt {w:World} {F:Nat→Prop} {pb db:Nat} {pre:ByteArray} {lim:Int} {Ss:List fO} {M:List (Int×Idm.aW)} (h:lF w F pb db pre lim Ss M):∀ k,F k→k<w.heap.size:=by
 obtain ⟨lb,prb,FL,FP,h⟩:=h
 exact h.lt
structure aSw (fs:List aY):Prop where
 pos:∀ f∈fs,0<f.Bs.length
 len:∀ f∈fs,f.Bs.length≤1000
 few:∀ f∈fs,∀ b∈f.Bs,Few b∧1≤b.span∧b.span≤50
 size:∀ f∈fs,(bN f.Bs).size≤1000000
 num:fs.length≤1000
theorem aUs {w:World} {F:Nat→Prop} {lb db:Nat} {pre:ByteArray} {lim:Int} {Ss:List fO} {fs:List aY} (h:fN w F lb db pre lim 200 Ss) (hf:Ss.map iA=fs) (ho:aSw fs) (i:Nat) (hi:i<fs.length) :
  Calls Tryz.prog 190 #[.pointer (some ⟨lb,0,none⟩),.int .i64 i] w fun e w'=>∃ u,e=.returned (.tuple #[u,.bool true])∧iY w fs[i].Bs u w':=by
 obtain ⟨v,FS,hx⟩:=h
 have hl:Ss.length=fs.length:=by rw [← hf,List.length_map]
 have hi':i<Ss.length:=aA
 have he:fs[i]=iA Ss[i]:=by
  have:(Ss.map iA)[i]?=fs[i]?:=by rw [hf]
  rw [List.getElem?_map,List.getElem?_eq_getElem hi',List.getElem?_eq_getElem hi] at this
  exact (Option.some.inj this).symm
 have hm:fs[i]∈fs:=List.getElem_mem _
 have hB:fs[i].Bs=Ss[i].Bs:=by rw [he];rfl
 obtain ⟨L,hs,hL⟩:=hx.segs i hi'
 have hb:∀ k∈L,k.b∈fs[i].Bs:=fun k hk=>by rw [hB,← hL.bs];exact List.mem_map_of_mem hk
 have:=aHp hx i hi' hs hL (by rw [← hB];exact ho.pos _ hm) ⟨fun k hk=>(ho.few _ hm _ (hb k hk)).1,fun k hk=>(ho.few _ hm _ (hb k hk)).2,by rw [hL.len,← hB];exact ho.len _ hm,by rw [hL.size,← hB];exact ho.size _ hm⟩
 rw [hB]
 exact this
theorem vE {w:World} {F:Nat→Prop} {lb db:Nat} {pre:ByteArray} {lim:Int} {Ss:List fO} {fs:List aY} (h:fN w F lb db pre lim 200 Ss) (hf:Ss.map iA=fs) (i:Nat) (hi:i=fs.length) :
  Calls Tryz.prog 190 #[.pointer (some ⟨lb,0,none⟩),.int .i64 i] w fun e w'=>e=.returned (.tuple #[.slice none 0 0,.bool false])∧K0 w w':=by
 obtain ⟨v,FS,hx⟩:=h
 exact aE0 hx i (by rw [hi,← hf,List.length_map])
def kA (FD:Nat→Prop) (db:Nat) (D:Dsk.aS) (pre:ByteArray) (lim:Int) (fs:List aY) (lb:Nat) (w w':World):Prop:=
 ∃ FD' F' Ss,aU w' FD' db D∧fN w' F' lb db pre lim 200 Ss∧Ss.map iA=fs∧aP FD FD' w w'∧(∀ k,F' k→w.heap.size≤k)∧∀ k,F' k→¬ FD' k
def aDu (w:World) (FD:Nat→Prop) (db pm:Nat) (D:Dsk.aS) (pre:ByteArray) (lim:Int) (fs:List aY) (L:List (gX×Value)) (k:gX) (w':World):Prop:=
 ∃ pb F FD' Ss,lF w' F pb db pre lim Ss (cD [] (fs.flatMap (·.Bs)))∧Ss.map iA=fs∧aU w' FD' db D∧bM gX.enc w' pm (bD L k (.pointer (some ⟨pb,0,none⟩)))∧
  aP (fun j=>FD j∨j=pm) (fun j=>(FD' j∨j=pm)∨F j) w w'∧(∀ j,F j→w.heap.size≤j)∧(∀ j,F j→¬ FD' j)∧¬ FD' pm
theorem aS5 {fs:List aY} {k:Nat} (h:k<fs.length):(fs.take (k+1)).flatMap (·.Bs)=(fs.take k).flatMap (·.Bs)++fs[k].Bs:=by
 have et:fs.take (k+1)=fs.take k++[fs[k]]:=(by rw [List.take_add_one,List.getElem?_eq_getElem h];rfl)
 rw [et,List.flatMap_append]
 simp
theorem uZ {w:World} {FD:Nat→Prop} {stb db pm:Nat} {D:Dsk.aS} {lim:Int} {L:List (gX×Value)} {id ix:Int} {pre:ByteArray} {fs:List aY} (c0:w.cell? ⟨stb,0,none⟩=some (.pointer (some ⟨db,0,none⟩))) (c1:w.cell? ⟨stb,1,none⟩=some (.int .i64 lim)) (c4:w.cell? ⟨stb,4,none⟩=some (.map (some pm)))
  (hm:bM gX.enc w pm L) (hpm:¬ FD pm) (hsb:¬ FD stb) (hlt:∀ k,FD k→k<w.heap.size) (hpf:∀ wx,Calls Tryz.prog 187 #[.agg #[.int .i64 id,.int .i64 ix]] wx fun e w'=>e=.returned (.string pre)∧K0 wx w')
  (hop:∀ wx,K0 w wx→Calls Tryz.prog 262 #[.pointer (some ⟨db,0,none⟩),.agg #[.string pre,.int .i64 lim,.int .i64 200]] wx fun e w'=>∃ lb,e=.returned (.tuple #[.pointer (some ⟨lb,0,none⟩),.int .i64 0])∧kA FD db D pre lim fs lb wx w') (ho:aSw fs) :
  Calls Tryz.prog 139 #[.pointer (some ⟨stb,0,none⟩),.agg #[.int .i64 id,.int .i64 ix]] w fun e w'=>e=.returned (.int .i64 0)∧aDu w FD db pm D pre lim fs L ⟨id,ix⟩ w':=by
 have HPF:=Lib.hid hpf
 have HOPEN:Hid (∀ wx,K0 w wx→Calls Tryz.prog 188 #[.pointer (some ⟨stb,0,none⟩),.string pre] wx fun e w'=>∃ lb wy,e=.returned (.tuple #[.pointer (some ⟨lb,0,none⟩),.int .i64 0])∧K0 wx wy∧kA FD db D pre lim fs lb wy w'):=fun wx k=>
  wT (k.cell' c0 (fun e=>e)) (k.cell' c1 (fun e=>e)) (fun lb a b=>kA FD db D pre lim fs lb a b) (fun wy ky=>hop wy (K0.tr k ky))
 have HM:=Lib.hid hm
 have HPM:=Lib.hid hpm
 have HSB:=Lib.hid hsb
 have HLT:=Lib.hid hlt
 have HO:=Lib.hid ho
 have HC4:=Lib.hid c4
 have hsl:stb<w.heap.size:=World.block_lt_of_cell? w _ c0
 clear hpf hop hm hpm hsb hlt ho c0 c1 c4
 go_enter Tryz.func139,Tryz.ntmps139
 go_wp2_with fail
 refine (HPF.out _).mono ?_
 rintro e w1 ⟨rfl,k1⟩
 have HD0:Hid (w1.heap[w.heap.size]?=some (.cells #[.int .i64 id,.int .i64 ix] 280 (0,0))):=(k1.block _ aK (fun e=>e)).trans (aI w _ _ rfl)
 have HK1:Hid (K0 w w1):=K0.tr ((aD.refl (fun _=>False) w).alloc _) k1
 clear k1
 go_wp2_with fail
 refine (HOPEN.out _ HK1.out).mono ?_
 rintro e w2 ⟨lb,wy,rfl,ky,FD2,FL,Ss,hd2,hl2,hf2,hm2,hn2,ha2⟩
 have hwy:K0 w wy:=K0.tr HK1.out ky
 have hz0:w.heap.size<wy.heap.size:=Nat.lt_of_lt_of_le (aC HD0.out) ky.size
 have HM2:Hid (aP FD FD2 w w2):=aP.k0_left hwy hm2
 have HD2:Hid (w2.heap[w.heap.size]?=some (.cells #[.int .i64 id,.int .i64 ix] 280 (0,0))):=(hm2.keeps.block _ hz0 (fun e=>by have:=HLT.out _ e;omega)).trans ((ky.block _ (aC HD0.out) (fun e=>e)).trans HD0.out)
 have HLN:Hid (∀ k,FL k→w.heap.size≤k):=fun k e=>by have h1:=hn2 k e;omega
 have HLA:=Lib.hid ha2
 have HDK:=Lib.hid hd2
 have HLG:=Lib.hid hl2
 have HFS:=Lib.hid hf2
 clear hd2 hl2 hf2 hm2 hn2 ha2 hwy hz0 ky HD0 HK1
 go_wp2_with fail
 refine (aWj _).mono ?_
 rintro e w3 ⟨prb,FP0,rfl,hp3,k3,hn3⟩
 have HP3:=Lib.hid hp3
 have HK3:=Lib.hid k3
 have HN3:=Lib.hid hn3
 clear hp3 k3 hn3
 go_wp2_with fail
 obtain ⟨W,hW⟩:∃ W,W=w3.alloc (.cells #[.pointer (some ⟨lb,0,none⟩),.pointer (some ⟨prb,0,none⟩)] 285):=⟨_,rfl⟩
 rw [← hW]
 have KW:K0 w3 W:=(by rw [hW];exact (aD.refl _ _).alloc _)
 have HBX0:Hid (W.heap[w3.heap.size]?=some (.cells #[.pointer (some ⟨lb,0,none⟩),.pointer (some ⟨prb,0,none⟩)] 285 (0,0))):=by rw [hW];exact aI w3 _ _ rfl
 have HPB:Hid (∃ pb,pb=w3.heap.size):=⟨_,rfl⟩
 obtain ⟨pb,hpb⟩:=HPB.out
 rw [← hpb] at HBX0 ⊢
 have HBX:=HBX0
 have HPBS:=Lib.hid hpb
 have hk2:K0 w2 W:=K0.tr HK3.out KW
 have HK2W:=Lib.hid hk2
 have HP0:Hid (dS W FP0 prb []):=HP3.out.k0 KW
 have HL0:Hid (fN W FL lb db pre lim 200 Ss):=HLG.out.k0 hk2
 have HLF:Hid (∀ k,FL k→¬ FP0 k):=fun k e q=>by have h1:=HLG.out.lt k e;have h2:=HN3.out k q;omega
 have HPF0:Hid (¬ FP0 pb):=fun e=>by have h1:=HP3.out.lt _ e;have h2:=HPBS.out;omega
 have hfl:fs.length≤1000:=HO.out.num
 have hpmw:pm<w.heap.size:=HM.out.lt
 have h02:w.heap.size≤w2.heap.size:=HM2.out.keeps.size
 have HC4W:Hid (W.cell? ⟨stb,4,none⟩=some (.map (some pm))):=hk2.cell' (HM2.out.keeps.cell' HC4.out HSB.out) (fun e=>e)
 have HMW:Hid (bM gX.enc W pm L):=(HM.out.keep HM2.out.keeps HPM.out).keep hk2 (fun e=>e)
 have HDW:Hid (W.heap[w.heap.size]?=some (.cells #[.int .i64 id,.int .i64 ix] 280 (0,0))):=(hk2.block _ (aC HD2.out) (fun e=>e)).trans HD2.out
 have HW2:Hid (w.heap.size<w2.heap.size):=aC HD2.out
 clear hW KW hk2 hpb HBX0 HPB
 go_loopw [8] (fun iv wr=>∃ k:Nat,iv=.int .i64 k∧k≤fs.length∧Hid (∃ FP,dS wr FP prb (cD [] ((fs.take k).flatMap (·.Bs)))∧aP FP0 FP W wr)) (fun iv _=>fs.length - (intOf iv).toNat)
 case atStart=>exact ⟨0,rfl,by omega,⟨FP0,HP0.out,aP.refl _ _⟩⟩
 case round=>
  obtain ⟨k,rfl,hk,HE⟩:=hrel
  obtain ⟨FP,hP,hM⟩:=HE.out
  have HP:=Lib.hid hP
  have HMV:=Lib.hid hM
  have HLR:Hid (fN wr FL lb db pre lim 200 Ss):=HL0.out.keep hM.keeps (fun j e=>HLF.out j e)
  clear hP hM HE
  have i0:(0:Int)≤k:=aA
  by_cases hlt:k<fs.length
  ·have i1:(k:Int)<fs.length:=by omega
   have HSG:Hid (Calls Tryz.prog 190 #[.pointer (some ⟨lb,0,none⟩),.int .i64 k] wr fun e w'=>∃ u,e=.returned (.tuple #[u,.bool true])∧iY wr fs[k].Bs u w'):=aUs HLR.out HFS.out HO.out k hlt
   have hbl:fs[k].Bs.length≤1000:=HO.out.len _ (List.getElem_mem hlt)
   have HTK:Hid ((fs.take (k+1)).flatMap (·.Bs)=(fs.take k).flatMap (·.Bs)++fs[k].Bs):=aS5 hlt
   generalize fs[k].Bs=Bs at HSG HTK hbl
   go_wp2_with fail
   refine HSG.out.mono ?_
   rintro e ws ⟨u,rfl,hO⟩
   obtain ⟨a,cp,rfl,ko,hc⟩:=hO.cells
   have HKO:=Lib.hid ko
   have HC:=Lib.hid hc
   have HPS:Hid (dS ws FP prb (cD [] ((fs.take k).flatMap (·.Bs)))):=HP.out.k0 ko
   have HFPL:Hid (∀ j,FP j→j<wr.heap.size):=HP.out.lt
   have HXW:Hid (ws.heap[pb]?=some (.cells #[.pointer (some ⟨lb,0,none⟩),.pointer (some ⟨prb,0,none⟩)] 285 (0,0))):=(ko.block _ (Nat.lt_of_lt_of_le (aC HBX.out) HMV.out.keeps.size) (fun e=>e)).trans ((HMV.out.keeps.block _ (aC HBX.out) HPF0.out).trans HBX.out)
   have HXF:Hid (¬ FP pb):=(HMV.out.apart (G:=fun j=>j=pb) (fun j e=>⟨e▸aC HBX.out,fun q=>HPF0.out (e▸q)⟩) pb rfl).2
   clear ko hc hO HSG HLR
   generalize hMk:cD [] ((fs.take k).flatMap (·.Bs))=Mk at HPS HP
   have HMK:=Lib.hid hMk
   have HWM:Hid (Idm.WfM Mk):=by rw [← hMk];exact rM zL _
   clear hMk
   go_wp2_with fail
   go_loopw [39] (fun jv wi=>∃ i:Nat,jv=.int .i64 i∧i≤Bs.length∧Hid (∃ FP',dS wi FP' prb (cD Mk (Bs.take i))∧aP FP FP' ws wi)) (fun jv _=>Bs.length - (intOf jv).toNat)
   case atStart=>exact ⟨0,rfl,by omega,⟨FP,HPS.out,aP.refl _ _⟩⟩
   case round=>
    obtain ⟨i,rfl,hi,HF⟩:=hrel
    obtain ⟨FP',hP,hM⟩:=HF.out
    have HPI:=Lib.hid hP
    have HMI:=Lib.hid hM
    clear hP hM HF
    have j0:(0:Int)≤i:=aA
    by_cases hlt2:i<Bs.length
    ·have j1:(i:Int)<Bs.length:=by omega
     obtain ⟨g,x,c2,rfl,hg1,hg2,b0,b1,b2,b3,b4,b5⟩:=HC.out i hlt2
     have hgF:¬ FP g:=fun e=>by have:=HFPL.out g e;omega
     have b0':=HMI.out.keeps.cell' b0 hgF
     have b1':=HMI.out.keeps.cell' b1 hgF
     have b2':=HMI.out.keeps.cell' b2 hgF
     have b3':=HMI.out.keeps.cell' b3 hgF
     have b4':=HMI.out.keeps.cell' b4 hgF
     have b5':=HMI.out.keeps.cell' b5 hgF
     have HTI:Hid (cD Mk (Bs.take (i+1))=Idm.hZ (cD Mk (Bs.take i)) (bI Bs[i])):=aHi Mk Bs hlt2
     have HWI:Hid (Idm.WfM (cD Mk (Bs.take i))):=rM HWM.out _
     have x1:wr.cell? ⟨pb,1,none⟩=some (.pointer (some ⟨prb,0,none⟩)):=aB ((HMI.out.keeps.block _ (aC HXW.out) HXF.out).trans HXW.out) 1
     have xl:pb<wr.heap.size:=Nat.lt_of_lt_of_le (aC HXW.out) HMI.out.keeps.size
     clear b0 b1 b2 b3 b4 b5 hgF hg1 hg2
     generalize Bs[i]=b at b0' b1' b2' b3' b4' b5' HTI
     go_upto_region 12 with fail
     obtain ⟨W5,hW5⟩:∃ W5,W5=wr.alloc (.cells #[.int .i64 b.base,.int .i64 b.span,.int .i64 b.prod,.int .i64 b.epoch,.int .i64 b.seq,.slice x b.recs.length c2] 39):=⟨_,rfl⟩
     rw [← hW5]
     have k5:K0 wr W5:=(by rw [hW5];exact (aD.refl _ _).alloc _)
     have y5:W5.heap[wr.heap.size]?=some (.cells #[.int .i64 b.base,.int .i64 b.span,.int .i64 b.prod,.int .i64 b.epoch,.int .i64 b.seq,.slice x b.recs.length c2] 39 (0,0)):=by rw [hW5];exact aI wr _ _ rfl
     have HP5:Hid (dS W5 FP' prb (cD Mk (Bs.take i))):=HPI.out.k0 k5
     have HM5:Hid (aP FP FP' ws W5):=HMI.out.k0 k5
     have d0:W5.cell? ⟨wr.heap.size,0,none⟩=some (.int .i64 b.base):=aB y5 0
     have d1:W5.cell? ⟨wr.heap.size,1,none⟩=some (.int .i64 b.span):=aB y5 1
     have d2:W5.cell? ⟨wr.heap.size,2,none⟩=some (.int .i64 b.prod):=aB y5 2
     have d3:W5.cell? ⟨wr.heap.size,3,none⟩=some (.int .i64 b.epoch):=aB y5 3
     have d4:W5.cell? ⟨wr.heap.size,4,none⟩=some (.int .i64 b.seq):=aB y5 4
     have d5:W5.cell? ⟨wr.heap.size,5,none⟩=some (.slice x b.recs.length c2):=aB y5 5
     have e1:W5.cell? ⟨pb,1,none⟩=some (.pointer (some ⟨prb,0,none⟩)):=k5.cell' x1 (fun e=>e)
     have el:pb<W5.heap.size:=Nat.lt_of_lt_of_le xl k5.size
     have yl:wr.heap.size<W5.heap.size:=aC y5
     have HNP:Hid (¬ FP' pb):=(HMI.out.apart (G:=fun j=>j=pb) (fun j e=>⟨e▸aC HXW.out,fun q=>HXF.out (e▸q)⟩) pb rfl).2
     have HNY:Hid (¬ FP' wr.heap.size):=fun e=>Nat.lt_irrefl _ (HPI.out.lt _ e)
     have HPD:Hid (dS W5.drew FP' prb (cD Mk (Bs.take i))):=HP5.out.k0 (aD.refl _ _).drew
     have HMD:Hid (aP FP FP' ws W5.drew):=HM5.out.k0 (aD.refl _ _).drew
     clear hW5 k5 y5 x1 xl b0' b1' b2' b3' b4' b5' HPI HMI HP5 HM5
     go_region_held3 (fun w':World=>w'.cell? ⟨pb,1,none⟩=some (.pointer (some ⟨prb,0,none⟩))∧w'.cell? ⟨wr.heap.size,0,none⟩=some (.int .i64 b.base)∧w'.cell? ⟨wr.heap.size,1,none⟩=some (.int .i64 b.span)∧w'.cell? ⟨wr.heap.size,2,none⟩=some (.int .i64 b.prod)∧w'.cell? ⟨wr.heap.size,3,none⟩=some (.int .i64 b.epoch)∧w'.cell? ⟨wr.heap.size,4,none⟩=some (.int .i64 b.seq)∧w'.cell? ⟨wr.heap.size,5,none⟩=some (.slice x b.recs.length c2))
      (first | go_keep | exact ⟨by assumption,by assumption,by assumption,by assumption,by assumption,by assumption,by assumption⟩)
      (first
       | (go_at_call 95;refine (aHy HPD.out HWI.out b x _ c2).mono ?_;rintro e w' ⟨rfl,F6,q1,q2⟩;have g0:w'.cell? ⟨pb,1,none⟩=some (.pointer (some ⟨prb,0,none⟩)):=q2.keeps.cell' (show W5.drew.cell? _=_ from e1) HNP.out;have g1:w'.cell? ⟨wr.heap.size,0,none⟩=some (.int .i64 b.base):=q2.keeps.cell' (show W5.drew.cell? _=_ from d0) HNY.out;have g2:w'.cell? ⟨wr.heap.size,1,none⟩=some (.int .i64 b.span):=q2.keeps.cell' (show W5.drew.cell? _=_ from d1) HNY.out;have g3:w'.cell? ⟨wr.heap.size,2,none⟩=some (.int .i64 b.prod):=q2.keeps.cell' (show W5.drew.cell? _=_ from d2) HNY.out;have g4:w'.cell? ⟨wr.heap.size,3,none⟩=some (.int .i64 b.epoch):=q2.keeps.cell' (show W5.drew.cell? _=_ from d3) HNY.out;have g5:w'.cell? ⟨wr.heap.size,4,none⟩=some (.int .i64 b.seq):=q2.keeps.cell' (show W5.drew.cell? _=_ from d4) HNY.out;have g6:w'.cell? ⟨wr.heap.size,5,none⟩=some (.slice x b.recs.length c2):=q2.keeps.cell' (show W5.drew.cell? _=_ from d5) HNY.out;have HQ1:Hid (dS w' F6 prb (cD Mk (Bs.take (i+1)))):=(by rw [HTI.out];exact q1);have HQ2:Hid (aP FP F6 ws w'):=HMD.out.trans q2;clear q1 q2))
     all_goals
      go_wp2_with fail
      go_roundw
      case rel=>exact ⟨i+1,by go_num,by omega,⟨_,HQ1.out,HQ2.out⟩⟩
      case measure=>simp [intOf];omega
    ·obtain rfl:i=Bs.length:=by omega
     have hP:=HPI.out
     rw [List.take_length] at hP
     have HP9:Hid (dS wr FP' prb (cD [] ((fs.take (k+1)).flatMap (·.Bs)))):=by
      show dS _ _ _ _
      rw [HTK.out,oV,HMK.out]
      exact hP
     have HM9:Hid (aP FP0 FP' W wr):=(HMV.out.k0 HKO.out).trans HMI.out
     clear hP
     go_wp2_with fail
     go_roundw
     case rel=>exact ⟨k+1,by go_num,by omega,⟨_,HP9.out,HM9.out⟩⟩
     case measure=>simp [intOf];omega
  ·obtain rfl:k=fs.length:=by omega
   have HSG:Hid (Calls Tryz.prog 190 #[.pointer (some ⟨lb,0,none⟩),.int .i64 fs.length] wr fun e w'=>e=.returned (.tuple #[.slice none 0 0,.bool false])∧K0 wr w'):=vE HLR.out HFS.out fs.length rfl
   have hnp:∀ j,j<w2.heap.size→¬ FP0 j:=fun j hj e=>by have:=HN3.out j e;omega
   have HNP0:=Lib.hid hnp
   clear hnp
   go_wp2_with fail
   refine HSG.out.mono ?_
   rintro e ws ⟨rfl,ko⟩
   have HKO:=Lib.hid ko
   have s4:ws.cell? ⟨stb,4,none⟩=some (.map (some pm)):=ko.cell' (HMV.out.keeps.cell' HC4W.out (HNP0.out _ (by show stb<_;omega))) (fun e=>e)
   have hms:bM gX.enc ws pm L:=(HMW.out.keep HMV.out.keeps (HNP0.out _ aA)).keep ko (fun e=>e)
   have hpl:ws.heap[w.heap.size]?=some (.cells #[.int .i64 id,.int .i64 ix] 280 (0,0)):=(ko.block _ (Nat.lt_of_lt_of_le (aC HDW.out) HMV.out.keeps.size) (fun e=>e)).trans ((HMV.out.keeps.block _ (aC HDW.out) (HNP0.out _ HW2.out)).trans HDW.out)
   have p0:ws.cell? ⟨w.heap.size,0,none⟩=some (.int .i64 id):=aB hpl 0
   have p1:ws.cell? ⟨w.heap.size,1,none⟩=some (.int .i64 ix):=aB hpl 1
   have pl:w.heap.size<ws.heap.size:=aC hpl
   have sl:stb<ws.heap.size:=aA
   obtain ⟨o,hu,hu2⟩:=hms.put_all aRi Tryz.underlying261 ⟨id,ix⟩ (.pointer (some ⟨pb,0,none⟩))
   have hu1:(Instr.mapUpdate 261 (.map (some pm)) (.agg #[.int .i64 id,.int .i64 ix]) (.pointer (some ⟨pb,0,none⟩))).run Tryz.prog ws.drew=.ok () (aO ws.drew pm o):=hu _ rfl
   have HFIN:Hid (aDu w FD db pm D pre lim fs L ⟨id,ix⟩ (aO ws.drew pm o)):=by
    have kS:aD (fun j=>j=pm) wr (aO ws.drew pm o):=aD.setObj (b:=pm) ((ko.mono (S1:=fun j=>j=pm) (fun _ _ e=>e.elim)).drew) (fun _=>rfl) o
    have hFP:∀ j,FP j→w2.heap.size≤j:=fun j e=>(HMV.out.grows j e).elim (HN3.out j) (fun h=>by have:=HK2W.out.size;omega)
    have hpb:w2.heap.size≤pb:=by have h1:=HPBS.out;have h2:=HK3.out.size;omega
    have hpm2:¬ FD2 pm:=(HM2.out.apart (G:=fun j=>j=pm) (fun j e=>⟨e▸hpmw,fun q=>HPM.out (e▸q)⟩) pm rfl).2
    have hd:aU (aO ws.drew pm o) FD2 db D:=((HDK.out.k0 HK2W.out).keep HMV.out.keeps (fun j e=>HNP0.out j (HDK.out.lt j e))).keep kS (fun j e q=>hpm2 ((show j=pm from q)▸e))
    have hpbFP:¬ FP pb:=(HMV.out.apart (G:=fun j=>j=pb) (fun j e=>⟨e▸aC HBX.out,fun q=>HPF0.out (e▸q)⟩) pb rfl).2
    have hFl:∀ j,FL j→j<w2.heap.size:=HLG.out.lt
    refine ⟨pb,fun j=>j=pb∨FL j∨FP j,FD2,Ss,⟨lb,prb,FL,FP,?_,HLR.out.keep kS (fun j e q=>by have h1:=HLN.out j e;have:j=pm:=q;omega),?_,⟨fun e=>by have:=hFl _ e;omega,hpbFP⟩,fun j e q=>by have h1:=hFl j e;have h2:=hFP j q;omega,⟨.inl rfl,fun j e=>.inr (.inl e),fun j e=>.inr (.inr e)⟩,?_⟩,HFS.out,hd,hu2 _ rfl,⟨?_,?_⟩,?_,?_,hpm2⟩
    ·exact (kS.block _ (Nat.lt_of_lt_of_le (aC HBX.out) HMV.out.keeps.size) (fun e=>by have:pb=pm:=e;omega)).trans ((HMV.out.keeps.block _ (aC HBX.out) HPF0.out).trans HBX.out)
    ·have h1:=HP.out.keep kS (fun j e q=>by have h1:=hFP j e;have:j=pm:=q;omega)
     rw [List.take_length] at h1
     exact h1
    ·intro j e
     rcases e with e | e | e
     ·rw [e];exact Nat.lt_of_lt_of_le (aC HBX.out) (Nat.le_trans HMV.out.keeps.size kS.size)
     ·have h1:=hFl j e;have h2:=HK2W.out.size;have h3:=HMV.out.keeps.size;have h4:=kS.size;omega
     ·have h1:=HP.out.lt j e;have h4:=kS.size;omega
    ·have k12:aD (fun j=>FD j∨j=pm) w W:=(HM2.out.keeps.mono (fun _ _ e=>.inl e)).trans HK2W.out (fun _ _ e=>e.elim)
     have k3:aD (fun j=>FP0 j∨j=pm) W (aO ws.drew pm o):=(HMV.out.keeps.mono (fun _ _ e=>.inl e)).trans kS (fun _ _ e=>.inr e)
     exact k12.trans k3 (fun j hj e=>e.elim (fun e=>absurd e (HNP0.out j aA)) .inr)
    ·intro j e
     rcases e with (e | e) | e | e | e
     ·exact (HM2.out.grows j e).imp .inl (fun h=>h)
     ·exact .inl (.inr e)
     ·exact .inr aA
     ·exact .inr (HLN.out j e)
     ·exact .inr (by have:=hFP j e;omega)
    ·intro j e
     rcases e with e | e | e
     ·omega
     ·exact HLN.out j e
     ·exact (by have:=hFP j e;omega)
    ·intro j e q
     have hq:=HDK.out.lt j q
     rcases e with e | e | e
     ·omega
     ·exact HLA.out j e q
     ·exact (by have:=hFP j e;omega)
   clear hu hu2 hms hpl ko
   go_wp2_with fail
   go_region
   all_goals
    go_wp2_with fail
    go_ret
    exact ⟨rfl,HFIN.out⟩
end Go.Proofs.YteapahcklcldkaaGreatDoor
