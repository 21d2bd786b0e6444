/-
  The statement is proved: all that it reaches, in parts.
-/
import Derived.Test.YteapahcklcldkaaGreatDoorW07
import Derived.Test.YteapahcklcldkaaGreatDoorW08
import Derived.Deep.DeepCutAuto
import Derived.Deep.RegionHeld3
set_option maxRecDepth 100000
set_option maxHeartbeats 16000000
namespace Go.Proofs.YteapahcklcldkaaGreatDoor
open Go.RowKit Fx
def cJ (s:ByteArray):ByteArray:=putB s.size++s
def aTq (h:yE):ByteArray:=cJ h.key++cJ h.value
def hY (r:dY):Int:=(if r.bare then 1 else 0)+(if r.gone then 2 else 0)
def lV (r:dY):ByteArray:=⟨#[]⟩++putB r.at_++putB r.time++putB (hY r)++(cJ r.key++cJ r.value++putB r.headers.length)
def yM (r:dY) (k:Nat):ByteArray:=(r.headers.take k).foldl (fun s h=>s++aTq h) (lV r)
def lU (r:dY):ByteArray:=r.headers.foldl (fun s h=>s++aTq h) (lV r)
theorem aFh (a b:ByteArray):Lib.strCells (a++b)=Lib.strCells a++Lib.strCells b:=by
 unfold Lib.strCells
 rw [ByteArray.data_append,Array.toList_append,List.map_append]
theorem aDd (r:dY) {k:Nat} (h:k<r.headers.length):yM r (k+1)=yM r k++aTq r.headers[k]:=by
 unfold yM
 rw [List.take_succ_eq_append_getElem h,List.foldl_append]
 rfl
theorem aOe (r:dY):yM r 0=lV r:=by simp [yM]
theorem aRq (r:dY):yM r r.headers.length=lU r:=by unfold yM lU;rw [List.take_length]
theorem dG {s:ByteArray} (h:s.size≤9223372036854775807):(cJ s).size≤10+s.size:=by
 unfold cJ
 rw [ByteArray.size_append]
 have:=bU (n:=s.size) aA
 omega
theorem fB {r:dY} (h:jV r=true):(0≤r.at_∧r.at_≤49∧0≤r.time∧r.time≤1099511627776)∧r.key.size≤1000∧r.value.size≤1000∧r.headers.length≤10∧¬ (r.bare=true∧r.gone=true)∧∀ k (hk:k<r.headers.length),r.headers[k].key.size≤1000∧r.headers[k].value.size≤1000:=by
 unfold jV aBg at h
 simp only [Bool.and_eq_true,decide_eq_true_eq] at h
 obtain ⟨⟨⟨h1,h2⟩,h3⟩,h4⟩:=h
 refine ⟨h1,h2.1,h2.2.1,h2.2.2,?_,fun k hk=>?_⟩
 ·rintro ⟨e1,e2⟩
  rw [e1,e2] at h3
  simp at h3
 ·have:=List.all_eq_true.1 h4 _ (List.getElem_mem hk)
  unfold lK at this
  simp only [Bool.and_eq_true,decide_eq_true_eq] at this
  exact this.2
theorem aE8 {r:dY} (h:jV r=true):(lV r).size≤2060:=by
 obtain ⟨h1,h2,h3,h4,h5,h6⟩:=fB h
 unfold lV
 simp only [ByteArray.size_append]
 have e1:=bU (n:=r.at_) aA
 have e2:=bU (n:=r.time) aA
 have e3:=bU (n:=hY r) aSc
 have e4:=dG (s:=r.key) aA
 have e5:=dG (s:=r.value) aA
 have e6:=bU (n:=r.headers.length) aA
 have e7:(⟨#[]⟩:ByteArray).size=0:=rfl
 omega
theorem aDc {r:dY} (h:jV r=true):∀ k,k≤r.headers.length→(yM r k).size≤2060+2020*k
 | 0,_=>by simpa [yM] using aE8 h
 | k+1,hk=>by
  rw [aDd r aA,ByteArray.size_append]
  have h1:=aDc h k aA
  obtain ⟨_,_,_,_,_,h6⟩:=fB h
  have h7:=h6 k aA
  unfold aTq
  rw [ByteArray.size_append]
  have e4:=dG (s:=r.headers[k].key) aA
  have e5:=dG (s:=r.headers[k].value) aA
  omega
theorem aFn (s:ByteArray) (w:World) (hs:s.size≤1000000000000):Calls Tryz.prog 173 #[.string s] w fun e w'=>e=.returned (.string (cJ s))∧K0 w w':=aIk s w hs
theorem aPx (B b:Nat) (s:ByteArray) (w:World) (h:Bld w B b (Lib.strCells s)) (hBw:B≤w.heap.size) :
  Calls Tryz.prog 296 #[.pointer (some ⟨b,0,none⟩)] w fun e w'=>e=.returned (.string s)∧Below B w w':=by
 refine (Tryz.Builder_String_any B b s.data.toList w h hBw).mono ?_
 rintro e w' ⟨rfl,hb⟩
 exact ⟨rfl,hb⟩
theorem jZ.far {w:World} {B b k:Nat} {cs:Array Value} {t:TypeId} {fr:Nat×Nat} (h:w.heap[k]?=some (.cells cs t fr)) (hk:k≠b) (ht:t≠5):¬ jZ w B b k:=by
 rintro (rfl | ⟨_,cs',fr',e⟩)
 ·exact hk rfl
 ·rw [h] at e
  cases e
  exact ht rfl
theorem jZ.block {w w':World} {B b k:Nat} {cs:Array Value} {t:TypeId} {fr:Nat×Nat} (hk:aD (jZ w B b) w w') (h:w.heap[k]?=some (.cells cs t fr)) (hne:k≠b) (ht:t≠5):w'.heap[k]?=some (.cells cs t fr):=
 (hk.block k (aC h) (jZ.far h hne ht)).trans h
structure lO (r:dY) (a:Option Addr) (cap x b:Nat) (w0:World) (s:ByteArray) (w:World):Prop where
 box:w.heap[x]?=some (.cells #[.int .i64 r.at_,.int .i64 r.time,.bool r.bare,.string r.key,.bool r.gone,.string r.value,.slice a r.headers.length cap] 98 (0,0))
 ne:x<b
 bld:Bld w b b (Lib.strCells s)
 lt:b<w.heap.size
 kept:aD (jZ w0 b b) w0 w
theorem lO.k0 {r:dY} {a:Option Addr} {cap x b:Nat} {w0 w w':World} {s:ByteArray} (h:lO r a cap x b w0 s w) (hk:K0 w w'):lO r a cap x b w0 s w':=
 ⟨(hk.block x (aC h.box) (fun e=>e)).trans h.box,h.ne,h.bld.keep hk,Nat.lt_of_lt_of_le h.lt hk.size,jZ.k0 h.kept hk⟩
theorem lO.cells {r:dY} {a:Option Addr} {cap x b:Nat} {w0 w:World} {s:ByteArray} (h:lO r a cap x b w0 s w):w.cell? ⟨x,3,none⟩=some (.string r.key)∧w.cell? ⟨x,5,none⟩=some (.string r.value)∧w.cell? ⟨x,6,none⟩=some (.slice a r.headers.length cap)∧x<w.heap.size:=
 ⟨aB h.box 3,aB h.box 5,aB h.box 6,aC h.box⟩
theorem lO.wrote {r:dY} {a:Option Addr} {cap x b:Nat} {w0 w w':World} {s t:ByteArray} (h:lO r a cap x b w0 s w) (hb:Bld w' b b (Lib.strCells s++Lib.strCells t)) (hk:aD (jZ w b b) w w'):lO r a cap x b w0 (s++t) w':=
 ⟨jZ.block hk h.box (Nat.ne_of_lt h.ne) aE,h.ne,by rw [aFh];exact hb,Nat.lt_of_lt_of_le h.lt hk.size,jZ.trans h.kept hk⟩
theorem lO.write {r:dY} {a:Option Addr} {cap x b:Nat} {w0 w:World} {s:ByteArray} (h:lO r a cap x b w0 s w) (t:ByteArray) (hl:s.size+t.size≤1000000) :
  Calls Tryz.prog 295 #[.pointer (some ⟨b,0,none⟩),.string t] w fun e w'=>e=.returned (.tuple #[.int .i64 t.size,.nilIface])∧lO r a cap x b w0 (s++t) w'∧aD (jZ w b b) w w':=by
 refine (aI2 b b _ t w h.bld (by rw [Lib.strCells_length];omega) (Nat.le_of_lt h.lt)).mono ?_
 rintro e w' ⟨rfl,hb,hk⟩
 exact ⟨rfl,h.wrote hb hk,hk⟩
structure zN (r:dY) (a:Option Addr) (cap x b:Nat) (w0:World) (s:ByteArray) (y:Nat) (h:yE) (w:World):Prop where
 enc:lO r a cap x b w0 s w
 hdr:w.heap[y]?=some (.cells #[.string h.key,.string h.value] 232 (0,0))
theorem zN.k0 {r:dY} {a:Option Addr} {cap x b y:Nat} {w0 w w':World} {s:ByteArray} {h:yE} (e:zN r a cap x b w0 s y h w) (hk:K0 w w'):zN r a cap x b w0 s y h w':=
 ⟨e.enc.k0 hk,(hk.block y (aC e.hdr) (fun e=>e)).trans e.hdr⟩
theorem zN.cells {r:dY} {a:Option Addr} {cap x b y:Nat} {w0 w:World} {s:ByteArray} {h:yE} (e:zN r a cap x b w0 s y h w):w.cell? ⟨y,0,none⟩=some (.string h.key)∧w.cell? ⟨y,1,none⟩=some (.string h.value)∧y<w.heap.size:=
 ⟨aB e.hdr 0,aB e.hdr 1,aC e.hdr⟩
theorem zN.after {r:dY} {a:Option Addr} {cap x b y:Nat} {w0 w w':World} {s:ByteArray} {h:yE} (e:zN r a cap x b w0 s y h w) (hy:b<y) (hk:aD (jZ w b b) w w'):w'.cell? ⟨y,0,none⟩=some (.string h.key)∧w'.cell? ⟨y,1,none⟩=some (.string h.value)∧y<w'.heap.size:=by
 have h1:=jZ.block hk e.hdr aA aE
 exact ⟨aB h1 0,aB h1 1,aC h1⟩
theorem lO.base {r:dY} {a:Option Addr} {cap x b:Nat} {w w0 w1:World} {s:ByteArray} (h:lO r a cap x b w0 s w1) (h0:K0 w w0) (hx:w.heap.size≤x):K0 w w1:=by
 have hxb:=h.ne
 refine h0.trans h.kept fun k hk e=>?_
 rcases e with rfl | ⟨hB,_⟩
 ·omega
 ·omega
theorem lO.done {r:dY} {a:Option Addr} {cap x b:Nat} {w w0 w1 w2:World} {s:ByteArray} (h:lO r a cap x b w0 s w1) (h0:K0 w w0) (hx:w.heap.size≤x) (hb:Below b w1 w2):K0 w w2:=by
 have hxb:=h.ne
 have k1:K0 w w1:=h0.trans h.kept fun k hk e=>by
  rcases e with rfl | ⟨hB,_⟩
  ·omega
  ·omega
 exact k1.trans (aD.of_below (S:=fun k=>b≤k) hb fun k hk _=>hk) fun k hk e=>by have:b≤k:=e;omega
def qO (r:dY):List Int:=[r.at_,r.time,hY r]
def xJ (r:dY) (k:Nat):ByteArray:=((qO r).take k).foldl (fun s n=>s++putB n) ⟨#[]⟩
theorem aAr (r:dY) {k:Nat} (h:k<(qO r).length):xJ r (k+1)=xJ r k++putB (qO r)[k]:=by
 unfold xJ
 rw [List.take_succ_eq_append_getElem h,List.foldl_append]
 rfl
theorem aG3 {r:dY} (ho:jV r=true) {k:Nat} (h:k<(qO r).length):0≤(qO r)[k]∧(qO r)[k]≤1099511627776:=by
 obtain ⟨h1,_⟩:=fB ho
 have hf:0≤hY r∧hY r≤3:=aSc
 have h3:k<3:=h
 rcases (by omega:k=0∨k=1∨k=2) with rfl | rfl | rfl
 ·exact ⟨h1.1,by show r.at_≤_;omega⟩
 ·exact ⟨h1.2.2.1,h1.2.2.2⟩
 ·exact ⟨hf.1,by show hY r≤_;omega⟩
theorem sV {r:dY} (ho:jV r=true):∀ k,k≤3→(xJ r k).size≤10*k
 | 0,_=>Nat.le_refl _
 | k+1,hk=>by
  have hl:k<(qO r).length:=by show k<3;omega
  rw [aAr r hl,ByteArray.size_append]
  have h1:=sV ho k aA
  have h2:=aG3 ho hl
  have h3:=bU (n:=(qO r)[k]) aA
  omega
theorem aKa (r:dY):lV r=xJ r 3++(cJ r.key++cJ r.value++putB r.headers.length):=rfl
theorem aM7 (D:Nat→Prop) (r:dY) (a:Option Addr) (cap:Nat) (w:World) (h:zS D 2 aRn w a cap r.headers) (h1:r.key.size≤maxLen) (h2:r.value.size≤maxLen) (ho:jV r=true) :
  Calls Tryz.prog 228 #[.agg #[.int .i64 r.at_,.int .i64 r.time,.bool r.bare,.string r.key,.bool r.gone,.string r.value,.slice a r.headers.length cap]] w fun e w'=>e=.returned (.tuple #[.string (lU r),.int .i64 0])∧K0 w w':=by
 have HC:Hid (∀ w1,K0 w w1→Calls Tryz.prog 234 #[.agg #[.int .i64 r.at_,.int .i64 r.time,.bool r.bare,.string r.key,.bool r.gone,.string r.value,.slice a r.headers.length cap]] w1 fun e w'=>e=.returned (.int .i64 0)∧K0 w1 w'):=fun w1 k1=>by
  have:=nO D r a cap w1 (h.keep k1 (fun _ _ e=>e) (fun _ e=>e) (fun _ _ e=>e)) h1 h2
  rw [ho] at this
  exact this
 obtain ⟨p1,p2,p3,p4,p5,p6⟩:=fB ho
 have HO:=Lib.hid ho
 have HH:=Lib.hid h
 have HP6:=Lib.hid p6
 have k0:K0 w (w.alloc (.cells #[.int .i64 r.at_,.int .i64 r.time,.bool r.bare,.string r.key,.bool r.gone,.string r.value,.slice a r.headers.length cap] 98)):=(aD.refl _ _).alloc _
 have hb0:=aI w (.cells #[.int .i64 r.at_,.int .i64 r.time,.bool r.bare,.string r.key,.bool r.gone,.string r.value,.slice a r.headers.length cap] 98) _ rfl
 have HC1:=Lib.hid (HC.out _ k0)
 have HK0:=Lib.hid k0
 have HB0:=Lib.hid hb0
 clear h p6 ho k0 hb0 HC
 go_enter Tryz.func228,Tryz.ntmps228
 go_wp2_with fail
 refine HC1.out.mono ?_
 rintro e w1 ⟨rfl,k1⟩
 have hb1:=(k1.block _ (aC HB0.out) (fun e=>e)).trans HB0.out
 have c0:w1.cell? ⟨w.heap.size,0,none⟩=some (.int .i64 r.at_):=aB hb1 0
 have c1:w1.cell? ⟨w.heap.size,1,none⟩=some (.int .i64 r.time):=aB hb1 1
 have c2:w1.cell? ⟨w.heap.size,2,none⟩=some (.bool r.bare):=aB hb1 2
 have c4:w1.cell? ⟨w.heap.size,4,none⟩=some (.bool r.gone):=aB hb1 4
 have hlt:=aC hb1
 have HK1:=Lib.hid (K0.tr HK0.out k1)
 have HB1:=Lib.hid hb1
 clear k1 hb1 HC1 HB0 HK0
 go_upto_if 17 with fail
 go_cut [5,0] (fun v _ wc=>v=.int .i64 (if r.bare then 1 else 0)∧wc=w1)
 case first=>
  cases hb:r.bare
  all_goals
   go_wp2
   go_meet
   case rel=>exact ⟨by simp [hb] <;> kernel_rfl,rfl⟩
 case rest=>
  obtain ⟨rfl,rfl⟩:=hcut
  go_upto_if 21 with fail
  go_cut [5] (fun v wd=>v=.int .i64 (hY r)∧wd=wc)
  case first=>
   cases hb:r.bare <;> cases hg:r.gone
   all_goals
    go_wp2
    go_meet
    case rel=>exact ⟨by simp [hY,hb,hg] <;> kernel_rfl,rfl⟩
  case rest=>
   obtain ⟨rfl,rfl⟩:=hcut
   go_upto_region 11 with fail
   have hx:=aC HB1.out
   have HE0:Hid (lO r a cap w.heap.size wc.heap.size ((wc.alloc (.cells #[.pointer none,.slice none 0 0] 445)).alloc (.cells #[.int .i64 r.at_,.int .i64 r.time,.int .i64 (hY r)] 3)) ⟨#[]⟩ ((wc.alloc (.cells #[.pointer none,.slice none 0 0] 445)).alloc (.cells #[.int .i64 r.at_,.int .i64 r.time,.int .i64 (hY r)] 3))):=
    ⟨aL (aL HB1.out _) _,hx,.inl ⟨Nat.le_refl _,_,aL (aI wc _ _ rfl) _,World.ownsRow_nil _ _ _ _,fun e=>by cases e⟩,by rw [World.size_alloc,World.size_alloc];omega,aD.refl _ _⟩
   have HRW:Hid (((wc.alloc (.cells #[.pointer none,.slice none 0 0] 445)).alloc (.cells #[.int .i64 r.at_,.int .i64 r.time,.int .i64 (hY r)] 3)).heap[wc.heap.size+1]?=some (.cells #[.int .i64 r.at_,.int .i64 r.time,.int .i64 (hY r)] 3 (0,0))):=aI _ _ _ aK
   have HKW:Hid (K0 w ((wc.alloc (.cells #[.pointer none,.slice none 0 0] 445)).alloc (.cells #[.int .i64 r.at_,.int .i64 r.time,.int .i64 (hY r)] 3))):=(HK1.out.alloc _).alloc _
   generalize (wc.alloc (.cells #[.pointer none,.slice none 0 0] 445)).alloc (.cells #[.int .i64 r.at_,.int .i64 r.time,.int .i64 (hY r)] 3)=W0 at HE0 HRW HKW ⊢
   have hxb:w.heap.size<wc.heap.size:=hx
   generalize wc.heap.size=b at HE0 HRW hxb ⊢
   clear c0 c1 c2 c4 hlt HB1 HK1 hx
   go_loopw [31] (fun i wr=>∃ k:Nat,i=.int .i64 k∧k≤3∧lO r a cap w.heap.size b W0 (xJ r k) wr) (fun i _=>3 - (intOf i).toNat)
   case atStart=>exact ⟨0,rfl,by omega,HE0.out⟩
   case round=>
    obtain ⟨k,rfl,hk3,hE⟩:=hrel
    by_cases h3:k<3
    ·have hl:k<(qO r).length:=h3
     have hrw:=jZ.block hE.kept HRW.out aA aE
     have c:wr.cell? ⟨b+1,k,none⟩=some (.int .i64 (qO r)[k]):=by
      rw [aB hrw]
      rcases (by omega:k=0∨k=1∨k=2) with rfl | rfl | rfl <;> rfl
     have hv:=aG3 HO.out hl
     have HN:=Lib.hid (aAr r hl)
     have HSZ:=Lib.hid (sV HO.out k hk3)
     have hr2:=aC hrw
     generalize (qO r)[k]=v at c hv HN
     have HPS:=Lib.hid (bU (n:=v) aA)
     have HE:=Lib.hid hE
     have i0:(0:Int)≤k:=aA
     have i1:(k:Int)<3:=aA
     clear hE hrw
     go_wp2_with fail
     refine (rB v _ aA).mono ?_
     rintro e w2 ⟨rfl,k2⟩
     go_wp2_with fail
     refine ((HE.out.k0 k2).write (putB v) (by have:=HPS.out;have:=HSZ.out;omega)).mono ?_
     rintro e w3 ⟨rfl,h4,_⟩
     have H4:=Lib.hid h4
     clear h4 k2
     go_wp2
     go_roundw
     case rel=>exact ⟨k+1,by go_num,by omega,by rw [HN.out];exact H4.out⟩
     case measure=>simp [intOf];omega
    ·have hk33:k=3:=by omega
     have j3:(3:Int)≤k:=aA
     rw [hk33] at hE
     clear hk33
     have c3:wr.cell? ⟨w.heap.size,3,none⟩=some (.string r.key):=aB hE.box 3
     have c5:wr.cell? ⟨w.heap.size,5,none⟩=some (.string r.value):=aB hE.box 5
     have c6:wr.cell? ⟨w.heap.size,6,none⟩=some (.slice a r.headers.length cap):=aB hE.box 6
     have hlx:=aC hE.box
     have HE:=Lib.hid hE
     have HSZ:=Lib.hid (sV HO.out 3 aA)
     have HTK:=Lib.hid (dG (s:=r.key) aA)
     have HTV:=Lib.hid (dG (s:=r.value) aA)
     have HPL:=Lib.hid (bU (n:=r.headers.length) aA)
     have s1:¬ 9223372036854775807<(cJ r.key).size+(cJ r.value).size:=by have:=HTK.out;have:=HTV.out;omega
     have s2:¬ 9223372036854775807<(cJ r.key++cJ r.value).size+(putB r.headers.length).size:=by rw [ByteArray.size_append];have:=HTK.out;have:=HTV.out;have:=HPL.out;omega
     have s3:¬ 9223372036854775807<(cJ r.key).size+(cJ r.value).size+(putB r.headers.length).size:=by have:=HTK.out;have:=HTV.out;have:=HPL.out;omega
     clear hE h3
     have j4:(k:Int)≤3:=aA
     clear hk3
     go_upto_region 15 with fail
     go_cut [6] (fun v wx=>v=.pointer (some ⟨b,0,none⟩)∧lO r a cap w.heap.size b W0 (lV r) wx)
     case first=>
      have hE:=HE.out
      have hEd:=hE.k0 ((aD.refl (fun _=>False) wr).drew)
      have HSZW:Hid ((xJ r 3).size+(cJ r.key++cJ r.value++putB r.headers.length).size≤1000000):=by
       show _≤_
       rw [ByteArray.size_append,ByteArray.size_append];have:=HSZ.out;have:=HTK.out;have:=HTV.out;have:=HPL.out;omega
      have HEQ:Hid (lV r=xJ r 3++(cJ r.key++cJ r.value++putB r.headers.length)):=aKa r
      go_wp2_with fail
      obtain ⟨c3d,c5d,c6d,hld⟩:=hEd.cells
      go_region_held3 (fun w':World=>w'.cell? ⟨w.heap.size,3,none⟩=some (.string r.key)∧w'.cell? ⟨w.heap.size,5,none⟩=some (.string r.value)∧w'.cell? ⟨w.heap.size,6,none⟩=some (.slice a r.headers.length cap)∧w.heap.size<w'.heap.size)
       (first | go_keep | (refine ⟨?_,?_,?_,?_⟩ <;> assumption))
       (first
       | (go_at_call 173;refine (aFn _ _ aA).mono ?_;rintro e w' ⟨rfl,hk⟩;have h5:=lO.k0 aG hk;obtain ⟨x3,x5,x6,hl6⟩:=h5.cells)
       | (go_at_call 172;refine (rB _ _ aA).mono ?_;rintro e w' ⟨rfl,hk⟩;have h5:=lO.k0 aG hk;obtain ⟨x3,x5,x6,hl6⟩:=h5.cells)
       | (go_at_call 295;refine (lO.write (by assumption) _ HSZW.out).mono ?_;rintro e w' ⟨rfl,h6,_⟩;obtain ⟨x3,x5,x6,hl6⟩:=h6.cells))
      all_goals
       go_wp2
       go_meet
       case rel=>exact ⟨rfl,by rw [HEQ.out];assumption⟩
     case rest=>
      obtain ⟨rfl,hE2⟩:=hcut
      have HE2:=Lib.hid hE2
      have e6:wc.cell? ⟨w.heap.size,6,none⟩=some (.slice a r.headers.length cap):=aB hE2.box 6
      have hly:=aC hE2.box
      clear c3 c5 c6 hlx hE2 HE s1 s2 s3 HTK HTV HPL HSZ
      go_wp2
      go_loopw [55] (fun i wr=>∃ k:Nat,i=.int .i64 k∧k≤r.headers.length∧lO r a cap w.heap.size b W0 (yM r k) wr) (fun i _=>r.headers.length - (intOf i).toNat)
      case atStart=>exact ⟨0,rfl,by omega,by rw [aOe];exact HE2.out⟩
      case round=>
       obtain ⟨k,rfl,hk,hE⟩:=hrel
       by_cases hlt:k<r.headers.length
       ·have k0r:=hE.base HKW.out (Nat.le_refl _)
        obtain ⟨hb,hoff,rfl,d0,d1,hbl,m1,m2⟩:=aC4 (HH.out.keep (D':=D) k0r (fun _ _ e=>e) (fun _ e=>e) (fun _ _ e=>e)) hlt
        have HN:=Lib.hid (aDd r hlt)
        have HSZ:=Lib.hid (aDc HO.out k hk)
        have hz:=HP6.out k hlt
        have HB2:Hid (∀ h:yE,zN r (some ⟨hb,hoff,none⟩) cap w.heap.size b W0 (yM r k) wr.heap.size h (wr.alloc (.cells #[.string h.key,.string h.value] 232))):=fun h=>⟨hE.k0 ((aD.refl _ _).alloc _),aI wr _ _ rfl⟩
        have HBW:=Lib.hid hE.lt
        clear m1 m2 hE k0r
        generalize r.headers[k]=hd at d0 d1 HN hz
        have i0:(0:Int)≤k:=aA
        have i1:(k:Int)<r.headers.length:=aA
        have HTK:=Lib.hid (dG (s:=hd.key) aA)
        have HTV:=Lib.hid (dG (s:=hd.value) aA)
        have s1:¬ 9223372036854775807<(cJ hd.key).size+(cJ hd.value).size:=by have:=HTK.out;have:=HTV.out;omega
        have HSZW:Hid ((yM r k).size+(cJ hd.key++cJ hd.value).size≤1000000):=by
         show _≤_
         rw [ByteArray.size_append];have:=HSZ.out;have:=HTK.out;have:=HTV.out;omega
        have hE1:=HB2.out hd
        have HBY:Hid (b<wr.heap.size):=HBW.out
        have hE2:=hE1.k0 ((aD.refl (fun _=>False) _).drew)
        obtain ⟨z0,z1,z2⟩:=hE1.cells
        clear HB2
        obtain ⟨z4,z5⟩:=hz
        go_wp2_with fail
        obtain ⟨y0,y1,y2⟩:=hE2.cells
        go_region_held3 (fun w':World=>w'.cell? ⟨wr.heap.size,0,none⟩=some (.string hd.key)∧w'.cell? ⟨wr.heap.size,1,none⟩=some (.string hd.value)∧wr.heap.size<w'.heap.size)
         (first | go_keep | (refine ⟨?_,?_,?_⟩ <;> assumption))
         (first
         | (go_at_call 173;refine (aFn _ _ aA).mono ?_;rintro e w' ⟨rfl,hk⟩;have h5:=zN.k0 aG hk;obtain ⟨x3,x5,hl6⟩:=h5.cells)
         | (go_at_call 295;refine (lO.write (zN.enc (by assumption)) _ HSZW.out).mono ?_;rintro e w' ⟨rfl,h6,hkb⟩;obtain ⟨x3,x5,hl6⟩:=zN.after (by assumption) HBY.out hkb))
        all_goals
         go_wp2
         go_roundw
         case rel=>exact ⟨k+1,by go_num,by omega,by rw [HN.out];assumption⟩
         case measure=>simp [intOf];omega
       ·obtain rfl:k=r.headers.length:=by omega
        have HE:=Lib.hid hE
        rw [aRq] at HE
        clear hE
        go_wp2_with fail
        refine (aPx _ _ _ _ HE.out.bld (Nat.le_of_lt HE.out.lt)).mono ?_
        rintro e w9 ⟨rfl,hb9⟩
        have HF:=Lib.hid (HE.out.done HKW.out (Nat.le_refl _) hb9)
        clear hb9
        go_wp2
        go_ret2
        exact ⟨rfl,HF.out⟩
def wE (e:Int) (is:Bool):Int:=if e=0 then (if is=true then 0 else 3) else e
def xN (s:ByteArray) (a e:Int):Int:=if e=0 then dE s a else 0
def vO (s:ByteArray) (a e:Int):Int:=if e=0 then dW s a else a
def txS (s:ByteArray) (a e:Int):ByteArray:=if e=0 then tkS s a 1000 else ⟨#[]⟩
def wW (s:ByteArray) (a e:Int):Int:=if e=0 then tkT s a 1000 else a
def txE (s:ByteArray) (a e:Int):Int:=if e=0 then tU s a 1000 else e
def Rr (ty:Nat) (w:World) (b:Nat) (s:ByteArray) (i e:Int):Prop:=w.heap[b]?=some (.cells #[.string s,.int .i64 i,.int .i64 e] ty (0,0))
def RrP (ty:Nat) (w:World) (b:Nat) (s:ByteArray) (v:Value) (i e:Int) (en:Ending) (w':World):Prop:=en=.returned v∧Rr ty w' b s i e∧aD (fun k=>k=b) w w'
structure RrC (ty:Nat) (w:World) (b:Nat) (s:ByteArray) (i e:Int):Prop where
 c0:w.cell? ⟨b,0,none⟩=some (.string s)
 c1:w.cell? ⟨b,1,none⟩=some (.int .i64 i)
 c2:w.cell? ⟨b,2,none⟩=some (.int .i64 e)
 lt:b<w.heap.size
 f1:w.frozen? ⟨b,1,none⟩=false
 f2:w.frozen? ⟨b,2,none⟩=false
section
variable {ty:Nat} {w w':World} {b:Nat} {s:ByteArray} {i e:Int}
theorem Rr.all (h:Rr ty w b s i e):RrC ty w b s i e:=⟨aB h 0,aB h 1,aB h 2,aC h,aH h 1,aH h 2⟩
theorem Rr.keep {S:Nat→Prop} (h:Rr ty w b s i e) (hk:aD S w w') (hb:¬ S b):Rr ty w' b s i e:=(hk.block b (aC h) hb).trans h
theorem Rr.set1 (h:Rr ty w b s i e) (x:Int):Rr ty (w.setCell ⟨b,1,none⟩ (.int .i64 x)) b s x e:=aM h 1 _
theorem Rr.set2 (h:Rr ty w b s i e) (x:Int):Rr ty (w.setCell ⟨b,2,none⟩ (.int .i64 x)) b s i x:=aM h 2 _
theorem Rr.drew (h:Rr ty w b s i e):Rr ty w.drew b s i e:=h
end
theorem dD {w wx:World} {b:Nat} (h:aD (fun k=>k=b) w wx) (j:Nat) (v:Value):aD (fun k=>k=b) w (wx.setCell ⟨b,j,none⟩ v):=h.setC j v (fun _=>rfl)
theorem k0b {w wx:World} {b:Nat} (h:K0 w wx):aD (fun k=>k=b) w wx:=h.mono (fun _ _ e=>e.elim)
theorem nZ {w:World} {b:Nat} {s:ByteArray} {i e:Int} (is:Bool) (h:Rr 453 w b s i e) :
  Calls Tryz.prog 299 #[.pointer (some ⟨b,0,none⟩),.bool is] w (RrP 453 w b s (.tuple #[]) i (wE e is)):=by
 obtain ⟨c0,c1,c2,lt,f1,f2⟩:=h.all
 have HH:=Lib.hid h
 unfold wE
 by_cases he:e=0
 ·subst he
  cases is
  ·clear h
   go_enter Tryz.func299,Tryz.ntmps299
   go_wp2
   go_end0
   exact ⟨rfl,HH.out.set2 3,dD (aD.refl _ _) 2 _⟩
  ·clear h
   go_enter Tryz.func299,Tryz.ntmps299
   go_wp2
   go_end0
   exact ⟨rfl,HH.out,aD.refl _ _⟩
 ·rw [if_neg he]
  have he:(e==0)=false:=cB
  clear h
  go_enter Tryz.func299,Tryz.ntmps299
  go_wp2
  go_end0
  exact ⟨rfl,HH.out,aD.refl _ _⟩
theorem aRr {w:World} {b:Nat} {s:ByteArray} {i e:Int} (h:Rr 453 w b s i e) (hs:s.size≤9223372036854775807) (ha:i≤9223372036854775807) :
  Calls Tryz.prog 297 #[.pointer (some ⟨b,0,none⟩)] w (RrP 453 w b s (.int .i64 (xN s i e)) (vO s i e) (if e=0 then gD s i else e)):=by
 obtain ⟨c0,c1,c2,lt,f1,f2⟩:=h.all
 have HH:=Lib.hid h
 unfold xN vO
 by_cases he:e=0
 ·subst he
  have HG:Hid (∀ wx,Calls Tryz.prog 170 #[.string s,.int .i64 i] wx (iO wx s i)):=by
   show ∀ _,_
   exact fun wx=>vI s i wx hs ha
  unfold iO at HG
  simp only [if_true]
  generalize dE s i=n at HG ⊢
  generalize dW s i=t at HG ⊢
  generalize gD s i=x at HG ⊢
  clear h hs ha
  go_enter Tryz.func297,Tryz.ntmps297
  go_wp2_with fail
  go_region_with (go_at_call 170;refine (HG.out _).mono ?_;rintro e w' ⟨rfl,rfl⟩)
  all_goals
   go_wp2
   go_ret
   first | exact ⟨rfl,((HH.out.set1 t).set2 x).drew,(dD (dD (aD.refl _ _) 1 _) 2 _).drew⟩ | exact ⟨rfl,((HH.out.set2 x).set1 t).drew,(dD (dD (aD.refl _ _) 2 _) 1 _).drew⟩ | exact ⟨rfl,(HH.out.drew.set1 t).set2 x,dD (dD (aD.refl _ _).drew 1 _) 2 _⟩ | exact ⟨rfl,(HH.out.drew.set2 x).set1 t,dD (dD (aD.refl _ _).drew 2 _) 1 _⟩
 ·rw [if_neg he,if_neg he,if_neg he]
  have he:(e==0)=false:=cB
  clear h
  go_enter Tryz.func297,Tryz.ntmps297
  go_wp2
  go_ret
  exact ⟨rfl,HH.out,aD.refl _ _⟩
theorem aRt {w:World} {b:Nat} {s:ByteArray} {i e:Int} (h:Rr 453 w b s i e) (hs:s.size≤9223372036854775807) (ha:i≤9223372036854775807) :
  Calls Tryz.prog 298 #[.pointer (some ⟨b,0,none⟩)] w (RrP 453 w b s (.string (txS s i e)) (wW s i e) (txE s i e)):=by
 obtain ⟨c0,c1,c2,lt,f1,f2⟩:=h.all
 have HH:=Lib.hid h
 unfold txS wW txE
 by_cases he:e=0
 ·subst he
  have HG:Hid (∀ wx,Calls Tryz.prog 174 #[.string s,.int .i64 i,.int .i64 1000] wx (kN wx s i 1000)):=by
   show ∀ _,_
   exact fun wx=>aBu s i 1000 wx hs ha
  unfold kN at HG
  simp only [if_true]
  generalize tkS s i 1000=n at HG ⊢
  generalize tkT s i 1000=t at HG ⊢
  generalize tU s i 1000=x at HG ⊢
  clear h hs ha
  go_enter Tryz.func298,Tryz.ntmps298
  go_wp2_with fail
  go_region_with (go_at_call 174;refine (HG.out _).mono ?_;rintro e w' ⟨rfl,hk⟩;have h2:=Rr.keep (Rr.drew HH.out) hk (fun e=>e);obtain ⟨g0,g1,g2,g3,g4,g5⟩:=Rr.all h2)
  all_goals
   go_wp2
   go_ret
   first | exact ⟨rfl,(h2.set1 t).set2 x,dD (dD (k0b (K0.tr (aD.refl _ _).drew hk)) 1 _) 2 _⟩ | exact ⟨rfl,(h2.set1 t).set2 x,dD (dD (k0b hk) 1 _) 2 _⟩ | exact ⟨rfl,(h2.set2 x).set1 t,dD (dD (k0b (K0.tr (aD.refl _ _).drew hk)) 2 _) 1 _⟩ | exact ⟨rfl,(h2.set2 x).set1 t,dD (dD (k0b hk) 2 _) 1 _⟩
 ·rw [if_neg he,if_neg he,if_neg he]
  have he:(e==0)=false:=cB
  clear h
  go_enter Tryz.func298,Tryz.ntmps298
  go_wp2
  go_ret
  exact ⟨rfl,HH.out,aD.refl _ _⟩
def vK (n l m:Int):Bool:=decide (l≤n)&&decide (n≤m)
theorem qH (n l m:Int) (w:World):Calls Tryz.prog 226 #[.int .i64 n,.int .i64 l,.int .i64 m] w fun e w'=>e=.returned (.bool (vK n l m))∧w'=w:=by
 unfold vK
 by_cases h1:l≤n
 ·by_cases h2:n≤m
  ·go_enter Tryz.func226,Tryz.ntmps226
   go_wp2
   go_ret
   exact ⟨by simp [h1,h2],rfl⟩
  ·go_enter Tryz.func226,Tryz.ntmps226
   go_wp2
   go_ret
   exact ⟨by simp [h2],rfl⟩
 ·go_enter Tryz.func226,Tryz.ntmps226
  go_wp2
  go_ret
  exact ⟨by simp;omega,rfl⟩
def aPl (b:aR):Prop:=(b.prod=-1∧b.epoch=-1∧b.seq=-1)∨(0≤b.prod∧b.prod≤1073741824∧0≤b.epoch∧b.epoch≤32768∧0≤b.seq∧b.seq≤1073741824)
def nU (b:aR):List Int:=[b.base,b.span,b.prod,b.epoch,b.seq,(b.recs.length:Int)]
def iH (b:aR) (k:Nat):ByteArray:=((nU b).take k).foldl (fun s n=>s++putB n) ⟨#[]⟩
def lI (b:aR) (k:Nat):ByteArray:=(b.recs.take k).foldl (fun s r=>s++lU r) (iH b 6)
def bV (b:aR):ByteArray:=b.recs.foldl (fun s r=>s++lU r) (iH b 6)
def aAx (b:aR) (k:Nat):Int:=match k with
 | 0=>-1
 | k+1=>((b.recs[k]?).map (·.at_)).getD (-1)
structure dH (b:aR):Prop where
 base:0≤b.base∧b.base≤1099511627776
 span:1≤b.span∧b.span≤50
 who:aPl b
 len:b.recs.length≤50
 recs:∀ k (h:k<b.recs.length),jV b.recs[k]=true∧aAx b k<b.recs[k].at_∧b.recs[k].at_<b.span
 size:(bV b).size≤60000
theorem oH (b:aR) {k:Nat} (h:k<b.recs.length):lI b (k+1)=lI b k++lU b.recs[k]:=by
 unfold lI
 rw [List.take_succ_eq_append_getElem h,List.foldl_append]
 rfl
theorem rF (b:aR):lI b b.recs.length=bV b:=by unfold lI bV;rw [List.take_length]
theorem oI (b:aR):lI b 0=iH b 6:=by simp [lI]
theorem aF6 (b:aR):∀ k j,k≤j→j≤b.recs.length→(lI b k).size≤(lI b j).size
 | k,0,h,_=>by rw [show k=0 by omega];exact Nat.le_refl _
 | k,j+1,h,hj=>by
  by_cases hk:k=j+1
  ·rw [hk];exact Nat.le_refl _
  ·have:=aF6 b k j aA aA
   rw [oH b aA,ByteArray.size_append]
   omega
theorem nT (b:aR) {k:Nat} (h:k<(nU b).length):iH b (k+1)=iH b k++putB (nU b)[k]:=by
 unfold iH
 rw [List.take_succ_eq_append_getElem h,List.foldl_append]
 rfl
theorem aEn {b:aR} (h:dH b) {k:Nat} (hk:k<(nU b).length):-1≤(nU b)[k]∧(nU b)[k]≤1099511627776:=by
 have h6:k<6:=hk
 have h1:=h.base
 have h2:=h.span
 have h3:=h.who
 have h4:=h.len
 unfold aPl at h3
 rcases (by omega:k=0∨k=1∨k=2∨k=3∨k=4∨k=5) with rfl | rfl | rfl | rfl | rfl | rfl <;> simp only [nU,List.getElem_cons_succ,List.getElem_cons_zero] <;> omega
theorem aC7 {b:aR} (h:dH b):∀ k,k≤6→(iH b k).size≤10*k
 | 0,_=>Nat.le_refl _
 | k+1,hk=>by
  have hl:k<(nU b).length:=by show k<6;omega
  rw [nT b hl,ByteArray.size_append]
  have h1:=aC7 h k aA
  have h2:=aEn h hl
  have h3:=bU (n:=(nU b)[k]) aA
  omega
theorem aSf (b:aR) (a:Option Addr) (cap:Nat) (w:World) (h:aPl b) :
  Calls Tryz.prog 227 #[.agg #[.int .i64 b.base,.int .i64 b.span,.int .i64 b.prod,.int .i64 b.epoch,.int .i64 b.seq,.slice a b.recs.length cap]] w fun e w'=>e=.returned (.bool true)∧K0 w w':=by
 rcases h with ⟨h1,h2,h3⟩ | ⟨h1,h2,h3,h4,h5,h6⟩
 ·rw [h1,h2,h3]
  clear h1 h2 h3
  go_enter Tryz.func227,Tryz.ntmps227
  go_wp2
  go_ret
  exact ⟨rfl,(aD.refl _ _).alloc _⟩
 ·have e1:(b.prod==-1)=false:=by rw [beq_eq_false_iff_ne];omega
  have w1:Hid (vK b.prod 0 1073741824=true):=xX
  have w2:Hid (vK b.epoch 0 32768=true):=xX
  have w3:Hid (vK b.seq 0 1073741824=true):=xX
  clear h1 h2 h3 h4 h5 h6
  go_enter Tryz.func227,Tryz.ntmps227
  go_wp2_with (go_at_call 226;refine (qH _ _ _ _).mono ?_;rintro e w' ⟨rfl,rfl⟩;first | rw [w1.out] | rw [w2.out] | rw [w3.out])
  go_ret
  exact ⟨rfl,(aD.refl _ _).alloc _⟩
theorem aOf {D:Nat→Prop} {w:World} {b:aR} {a:Option Addr} {cap:Nat} (h:gB D w b a cap) {k:Nat} (hk:k<b.recs.length):∃ rb off ha hc,a=some ⟨rb,off,none⟩∧
  w.cell? ⟨rb,off+k*7,none⟩=some (.int .i64 b.recs[k].at_)∧w.cell? ⟨rb,off+k*7+1,none⟩=some (.int .i64 b.recs[k].time)∧w.cell? ⟨rb,off+k*7+2,none⟩=some (.bool b.recs[k].bare)∧
  w.cell? ⟨rb,off+k*7+3,none⟩=some (.string b.recs[k].key)∧w.cell? ⟨rb,off+k*7+4,none⟩=some (.bool b.recs[k].gone)∧w.cell? ⟨rb,off+k*7+5,none⟩=some (.string b.recs[k].value)∧
  w.cell? ⟨rb,off+k*7+6,none⟩=some (.slice ha b.recs[k].headers.length hc)∧rb<w.heap.size∧D rb∧zS D 2 aRn w ha hc b.recs[k].headers∧b.recs[k].key.size≤maxLen∧b.recs[k].value.size≤maxLen:=by
 obtain ⟨rb,off,ha,hD⟩:=zS.addr h hk
 obtain ⟨cs,h1,h2,⟨⟨a2,c2,rfl,h3⟩,h4,h5⟩⟩:=zS.cells h ha hk
 have e0:w.cell? ⟨rb,off+k*7,none⟩=some (.int .i64 b.recs[k].at_):=h2 0 aA
 exact ⟨rb,off,a2,c2,ha,e0,h2 1 aA,h2 2 aA,h2 3 aA,h2 4 aA,h2 5 aA,h2 6 aA,World.block_lt_of_cell? w _ e0,hD,h3,h4,h5⟩
theorem aX2 (a b c d e f:Int) (w:World) :
  (Instr.index 382 (.agg #[.int .i64 a,.int .i64 b,.int .i64 c,.int .i64 d,.int .i64 e,.int .i64 f]) (.int .i64 0)).run Tryz.prog w=.ok (.int .i64 a) w∧
  (Instr.index 382 (.agg #[.int .i64 a,.int .i64 b,.int .i64 c,.int .i64 d,.int .i64 e,.int .i64 f]) (.int .i64 1)).run Tryz.prog w=.ok (.int .i64 b) w∧
  (Instr.index 382 (.agg #[.int .i64 a,.int .i64 b,.int .i64 c,.int .i64 d,.int .i64 e,.int .i64 f]) (.int .i64 2)).run Tryz.prog w=.ok (.int .i64 c) w∧
  (Instr.index 382 (.agg #[.int .i64 a,.int .i64 b,.int .i64 c,.int .i64 d,.int .i64 e,.int .i64 f]) (.int .i64 3)).run Tryz.prog w=.ok (.int .i64 d) w∧
  (Instr.index 382 (.agg #[.int .i64 a,.int .i64 b,.int .i64 c,.int .i64 d,.int .i64 e,.int .i64 f]) (.int .i64 4)).run Tryz.prog w=.ok (.int .i64 e) w∧
  (Instr.index 382 (.agg #[.int .i64 a,.int .i64 b,.int .i64 c,.int .i64 d,.int .i64 e,.int .i64 f]) (.int .i64 5)).run Tryz.prog w=.ok (.int .i64 f) w:=
 ⟨by kernel_rfl,by kernel_rfl,by kernel_rfl,by kernel_rfl,by kernel_rfl,by kernel_rfl⟩
theorem aLh (D:Nat→Prop) (b:aR) (a:Option Addr) (cap:Nat) (w:World) (h:gB D w b a cap) (ho:dH b) :
  Calls Tryz.prog 152 #[.agg #[.int .i64 b.base,.int .i64 b.span,.int .i64 b.prod,.int .i64 b.epoch,.int .i64 b.seq,.slice a b.recs.length cap]] w fun e w'=>e=.returned (.tuple #[.string (bV b),.bool true])∧K0 w w':=by
 have HW1:Hid (vK b.base 0 1099511627776=true):=by show _=_;have:=ho.base;simp [vK];omega
 have HW2:Hid (vK b.span 1 50=true):=by show _=_;have:=ho.span;simp [vK];omega
 have HO:=Lib.hid ho
 have HH:=Lib.hid h
 have hb50:decide (50<(b.recs.length:Int))=false:=by have:=ho.len;simp;omega
 have HX0:=Lib.hid (aI w (.cells #[.int .i64 b.base,.int .i64 b.span,.int .i64 b.prod,.int .i64 b.epoch,.int .i64 b.seq,.slice a b.recs.length cap] 39) _ rfl)
 have HK0:Hid (K0 w (w.alloc (.cells #[.int .i64 b.base,.int .i64 b.span,.int .i64 b.prod,.int .i64 b.epoch,.int .i64 b.seq,.slice a b.recs.length cap] 39))):=(aD.refl _ _).alloc _
 have HWH:Hid (∀ w,Calls Tryz.prog 227 #[.agg #[.int .i64 b.base,.int .i64 b.span,.int .i64 b.prod,.int .i64 b.epoch,.int .i64 b.seq,.slice a b.recs.length cap]] w fun e w'=>e=.returned (.bool true)∧K0 w w'):=fun w=>aSf b a cap w ho.who
 clear h ho
 go_enter Tryz.func152,Tryz.ntmps152
 go_wp2_with (go_at_call 226;refine (qH _ _ _ _).mono ?_;rintro e w' ⟨rfl,rfl⟩;first | rw [HW1.out] | rw [HW2.out])
 refine (HWH.out _).mono ?_
 rintro e w1 ⟨rfl,k1⟩
 have hx1:=(k1.block _ (aC HX0.out) (fun e=>e)).trans HX0.out
 have c0:w1.cell? ⟨w.heap.size,0,none⟩=some (.int .i64 b.base):=aB hx1 0
 have c1:w1.cell? ⟨w.heap.size,1,none⟩=some (.int .i64 b.span):=aB hx1 1
 have c2:w1.cell? ⟨w.heap.size,2,none⟩=some (.int .i64 b.prod):=aB hx1 2
 have c3:w1.cell? ⟨w.heap.size,3,none⟩=some (.int .i64 b.epoch):=aB hx1 3
 have c4:w1.cell? ⟨w.heap.size,4,none⟩=some (.int .i64 b.seq):=aB hx1 4
 have c5:w1.cell? ⟨w.heap.size,5,none⟩=some (.slice a b.recs.length cap):=aB hx1 5
 have hlt:=aC hx1
 have HK1:=Lib.hid (K0.tr HK0.out k1)
 have HX1:=Lib.hid hx1
 clear k1 hx1 HX0 HK0
 go_wp2
 go_loopw [47,4] (fun i v wr=>∃ k:Nat,i=.int .i64 k∧k≤6∧v=.string (iH b k)∧K0 w1 wr) (fun i _ _=>6 - (intOf i).toNat)
 case atStart=>exact ⟨0,rfl,by omega,rfl,aD.refl _ _⟩
 case round=>
  obtain ⟨k,rfl,hk6,rfl,kr⟩:=hrel
  by_cases h6:k<6
  ·have hl:k<(nU b).length:=h6
   have HN:=Lib.hid (nT b hl)
   have HI:=Lib.hid (aEn HO.out hl)
   have HS:=Lib.hid (aC7 HO.out k hk6)
   have HKR:=Lib.hid kr
   have hsz:∀ n:Int,-1≤n→n≤1099511627776→¬ 9223372036854775807<(iH b k).size+(putB n).size:=fun n h1 h2=>by
    have:=bU (n:=n) aA
    have:=HS.out
    omega
   clear kr hk6 c0 c1 c2 c3 c4 c5
   obtain ⟨ix0,ix1,ix2,ix3,ix4,ix5⟩:=aX2 b.base b.span b.prod b.epoch b.seq b.recs.length wr
   rcases (by omega:k=0∨k=1∨k=2∨k=3∨k=4∨k=5) with rfl | rfl | rfl | rfl | rfl | rfl
   all_goals
    clear h6
    simp only [nU,List.getElem_cons_succ,List.getElem_cons_zero] at HI HN
    have hz:=hsz _ HI.out.1 HI.out.2
    clear hsz HS
    go_wp2_with fail
    refine (rB _ _ ?_).mono ?_
    ·have:=HI.out;omega
    rintro e w2 ⟨rfl,k2⟩
    have HK2:=Lib.hid (K0.tr HKR.out k2)
    clear k2
    go_wp2
    go_roundw
    case rel=>first | exact ⟨1,rfl,by decide,congrArg Value.string HN.out.symm,HK2.out⟩ | exact ⟨2,rfl,by decide,congrArg Value.string HN.out.symm,HK2.out⟩ | exact ⟨3,rfl,by decide,congrArg Value.string HN.out.symm,HK2.out⟩ | exact ⟨4,rfl,by decide,congrArg Value.string HN.out.symm,HK2.out⟩ | exact ⟨5,rfl,by decide,congrArg Value.string HN.out.symm,HK2.out⟩ | exact ⟨6,rfl,by decide,congrArg Value.string HN.out.symm,HK2.out⟩
    case measure=>simp [intOf]
  ·have hk66:k=6:=by omega
   have j6:(6:Int)≤k:=aA
   have HX2:=Lib.hid ((kr.block _ (aC HX1.out) (fun e=>e)).trans HX1.out)
   have HK2:=Lib.hid (K0.tr HK1.out kr)
   have d5:wr.cell? ⟨w.heap.size,5,none⟩=some (.slice a b.recs.length cap):=aB HX2.out 5
   have d1:wr.cell? ⟨w.heap.size,1,none⟩=some (.int .i64 b.span):=aB HX2.out 1
   have hlt2:=aC HX2.out
   rw [show iH b k=iH b 6 by rw [hk66]]
   clear hk66 hk6 h6 c0 c1 c2 c3 c4 c5 kr hlt
   go_wp2
   rename World=>wp
   go_loopw [58,4,7] (fun i v la wr=>∃ k:Nat,i=.int .i64 k∧k≤b.recs.length∧v=.string (lI b k)∧la=.int .i64 (aAx b k)∧K0 wp wr) (fun i _ _ _=>b.recs.length - (intOf i).toNat)
   case atStart=>exact ⟨0,rfl,by omega,by rw [oI],rfl,aD.refl _ _⟩
   case round=>
    obtain ⟨k,rfl,hk,rfl,rfl,kq⟩:=hrel
    by_cases hlt:k<b.recs.length
    ·obtain ⟨rb,off,ha,hc,rfl,e0,e1,e2,e3,e4,e5,e6,hrb,_,hsl,m1,m2⟩:=aOf (HH.out.keep0 (K0.tr HK2.out kq)) hlt
     obtain ⟨r1,r2,r3⟩:=HO.out.recs k hlt
     have HN:=Lib.hid (oH b hlt)
     have HLA:Hid (aAx b (k+1)=b.recs[k].at_):=by show _=_;simp [aAx,hlt]
     have HSZ:Hid (¬ 9223372036854775807<(lI b k).size+(lU b.recs[k]).size):=by
      show ¬ _
      have h1:=aF6 b (k+1) b.recs.length aA (Nat.le_refl _)
      rw [rF,HN.out,ByteArray.size_append] at h1
      have:=HO.out.size
      omega
     have hx3:=(kq.block _ (aC HX2.out) (fun e=>e)).trans HX2.out
     have HKQ:=Lib.hid kq
     generalize hrr:b.recs[k]=r at e0 e1 e2 e3 e4 e5 e6 hsl m1 m2 r1 r2 r3 HN HLA HSZ
     clear hrr
     have HE:Hid (Calls Tryz.prog 228 #[.agg #[.int .i64 r.at_,.int .i64 r.time,.bool r.bare,.string r.key,.bool r.gone,.string r.value,.slice ha r.headers.length hc]] (wr.alloc (.cells #[.int .i64 r.at_,.int .i64 r.time,.bool r.bare,.string r.key,.bool r.gone,.string r.value,.slice ha r.headers.length hc] 98)) fun e w'=>e=.returned (.tuple #[.string (lU r),.int .i64 0])∧K0 (wr.alloc (.cells #[.int .i64 r.at_,.int .i64 r.time,.bool r.bare,.string r.key,.bool r.gone,.string r.value,.slice ha r.headers.length hc] 98)) w'):=
      aM7 D r ha hc _ (hsl.keep ((aD.refl (fun _=>False) wr).alloc _) (fun _ _ e=>e) (fun _ e=>e) (fun _ _ e=>e)) m1 m2 r1
     have hbx:=aI wr (.cells #[.int .i64 r.at_,.int .i64 r.time,.bool r.bare,.string r.key,.bool r.gone,.string r.value,.slice ha r.headers.length hc] 98) _ rfl
     have hx4:=aL hx3 (.cells #[.int .i64 r.at_,.int .i64 r.time,.bool r.bare,.string r.key,.bool r.gone,.string r.value,.slice ha r.headers.length hc] 98)
     have HBX:=Lib.hid hbx
     have HX4:=Lib.hid hx4
     have i0:(0:Int)≤k:=aA
     have i1:(k:Int)<b.recs.length:=aA
     have R2:=Lib.hid r2
     have R3:=Lib.hid r3
     clear hsl m1 m2 r1 r2 r3 hx3 hx4 hbx kq d5 d1 hlt2
     have i2:(b.recs.length:Int)≤9223372036854775807:=by have:=HO.out.len;omega
     go_wp2_with fail
     refine HE.out.mono ?_
     rintro e w5 ⟨rfl,k5⟩
     have g0:w5.cell? ⟨wr.heap.size,0,none⟩=some (.int .i64 r.at_):=aB ((k5.block _ (aC HBX.out) (fun e=>e)).trans HBX.out) 0
     have g1:w5.cell? ⟨w.heap.size,1,none⟩=some (.int .i64 b.span):=aB ((k5.block _ (aC HX4.out) (fun e=>e)).trans HX4.out) 1
     have g2:=Nat.lt_of_lt_of_le (aC HBX.out) k5.size
     have g3:=Nat.lt_of_lt_of_le (aC HX4.out) k5.size
     have HK5:=Lib.hid (K0.tr (HKQ.out.alloc _) k5)
     have q1:¬ r.at_≤aAx b k:=by have:=R2.out;omega
     have q2:¬ b.span≤r.at_:=by have:=R3.out;omega
     have q3:=HSZ.out
     clear k5 HE
     go_wp2
     go_roundw
     case rel=>exact ⟨k+1,by go_num,by omega,by rw [HN.out],by rw [HLA.out],HK5.out⟩
     case measure=>simp [intOf];omega
    ·obtain rfl:k=b.recs.length:=by omega
     have HK3:=Lib.hid (K0.tr HK2.out kq)
     have HBS:=Lib.hid HO.out.size
     rw [rF]
     have q1:((bV b).size:Int)≤60000:=by have:=HBS.out;omega
     clear kq d5 d1 hlt2
     go_wp2
     go_ret2
     exact ⟨rfl,HK3.out⟩
def aZ (b:aR):ByteArray:=dR (bV b).size++dR (crc (bV b))++bV b
theorem dX (b:aR):(aZ b).size=8+(bV b).size:=by
 unfold aZ
 rw [ByteArray.size_append,ByteArray.size_append,dB,dB]
theorem rE (D:Nat→Prop) (b:aR) (a:Option Addr) (cap:Nat) (w:World) (h:gB D w b a cap) (ho:dH b) :
  Calls Tryz.prog 212 #[.agg #[.int .i64 b.base,.int .i64 b.span,.int .i64 b.prod,.int .i64 b.epoch,.int .i64 b.seq,.slice a b.recs.length cap]] w fun e w'=>e=.returned (.int .i64 0)∧K0 w w':=by
 have HB:Hid (∀ wx,K0 w wx→Calls Tryz.prog 152 #[.agg #[.int .i64 b.base,.int .i64 b.span,.int .i64 b.prod,.int .i64 b.epoch,.int .i64 b.seq,.slice a b.recs.length cap]] wx fun e w'=>e=.returned (.tuple #[.string (bV b),.bool true])∧K0 wx w'):=fun wx k=>aLh D b a cap wx (h.keep0 k) ho
 have HK:Hid (K0 w (w.alloc (.cells #[.int .i64 b.base,.int .i64 b.span,.int .i64 b.prod,.int .i64 b.epoch,.int .i64 b.seq,.slice a b.recs.length cap] 39))):=(aD.refl _ _).alloc _
 clear h ho
 go_enter Tryz.func212,Tryz.ntmps212
 go_wp2_with fail
 refine (HB.out _ (by first | exact HK.out | exact aD.refl _ _)).mono ?_
 rintro e w1 ⟨rfl,k1⟩
 have K1:=Lib.hid (K0.tr HK.out k1)
 clear k1
 go_wp2
 go_ret
 exact ⟨rfl,K1.out⟩
theorem mE (D:Nat→Prop) (b:aR) (a:Option Addr) (cap:Nat) (w:World) (h:gB D w b a cap) (ho:dH b) (hst:bF w) :
  Calls Tryz.prog 92 #[.agg #[.int .i64 b.base,.int .i64 b.span,.int .i64 b.prod,.int .i64 b.epoch,.int .i64 b.seq,.slice a b.recs.length cap]] w fun e w'=>e=.returned (.tuple #[.string (aZ b),.int .i64 0])∧K0 w w':=by
 have HB:Hid (∀ wx,K0 w wx→Calls Tryz.prog 152 #[.agg #[.int .i64 b.base,.int .i64 b.span,.int .i64 b.prod,.int .i64 b.epoch,.int .i64 b.seq,.slice a b.recs.length cap]] wx fun e w'=>e=.returned (.tuple #[.string (bV b),.bool true])∧K0 wx w'):=fun wx k=>aLh D b a cap wx (h.keep0 k) ho
 have HK:Hid (K0 w (w.alloc (.cells #[.int .i64 b.base,.int .i64 b.span,.int .i64 b.prod,.int .i64 b.epoch,.int .i64 b.seq,.slice a b.recs.length cap] 39))):=(aD.refl _ _).alloc _
 have HEQ:Hid (aZ b=dR (bV b).size++dR (crc (bV b))++bV b):=rfl
 have HST:=Lib.hid hst
 have hsz:=ho.size
 have HC:=Lib.hid (aJf (bV b))
 clear h ho hst
 generalize bV b=s at HB HEQ hsz HC
 have z1:¬ 9223372036854775807<(dR s.size).size+(dR (crc s)).size:=by rw [dB,dB];omega
 have z2:¬ 9223372036854775807<(dR s.size++dR (crc s)).size+s.size:=by rw [ByteArray.size_append,dB,dB];omega
 have z3:¬ 9223372036854775807<(dR s.size).size+(dR (crc s)).size+s.size:=by rw [dB,dB];omega
 have i3:(crc s:Int)≤9223372036854775807:=by have:=HC.out;omega
 go_enter Tryz.func92,Tryz.ntmps92
 go_wp2_with fail
 refine (HB.out _ HK.out).mono ?_
 rintro e w1 ⟨rfl,k1⟩
 have K1:=Lib.hid (K0.tr HK.out k1)
 clear k1
 go_wp2_with fail
 refine (wF s.size _ aA).mono ?_
 rintro e w2 ⟨rfl,k2⟩
 have K2:=Lib.hid (K0.tr K1.out k2)
 clear k2
 go_wp2_with fail
 refine (aL4 s _ (HST.out.keep0 K2.out) aA).mono ?_
 rintro e w3 ⟨rfl,k3⟩
 have K3:=Lib.hid (K0.tr K2.out k3)
 clear k3
 go_wp2_with fail
 refine (wF (crc s) _ HC.out).mono ?_
 rintro e w4 ⟨rfl,k4⟩
 have K4:=Lib.hid (K0.tr K3.out k4)
 clear k4
 go_wp2
 go_ret2
 exact ⟨by rw [HEQ.out];rfl,K4.out⟩
@[go_sem] theorem aL2 {P:Program} {w:World} {a:Addr} {m:Mode} (k:FloatKind) (x y:Nat):(store a (.complex k x y) m).run P w=stored P w a (.complex k x y) m:=run_store P w a _ m rfl
def zJ (o p:Int):Value:=.complex .f64 (FloatKind.f64.nearest o) (FloatKind.f64.nearest p)
theorem aBr (o p:Int) (w:World):Calls Tryz.prog 381 #[.int .i64 o,.int .i64 p] w fun e w'=>e=.returned (zJ o p)∧w'=w:=by
 go_enter Tryz.func381,Tryz.ntmps381
 go_wp2
 go_ret
 exact ⟨rfl,rfl⟩
theorem aS3:(List.range 1001).all (fun n=>(FloatKind.f64.decode (FloatKind.f64.nearest n)).toInt .zero==some (n:Int))=true:=by decide +kernel
theorem aS2 {n:Int} (h0:0≤n) (h1:n≤1000):(FloatKind.f64.decode (FloatKind.f64.nearest n)).toInt .zero=some n:=by
 obtain ⟨m,rfl⟩:∃ m:Nat,n=m:=⟨n.toNat,by omega⟩
 have:=List.all_eq_true.1 aS3 m (List.mem_range.2 aA)
 simpa using this
theorem aF3 {n:Int} (h0:0≤n) (h1:n≤1000) (w:World):(convert 529 3 (.float .f64 (FloatKind.f64.nearest n))).run Tryz.prog w=.ok (.int .i64 n) w:=by
 have h:=aS2 h0 h1
 have hmin:IntKind.i64.min=-9223372036854775808:=rfl
 have hmax:IntKind.i64.max=9223372036854775807:=rfl
 simp [convert,run_underlying Tryz.underlying529,run_underlying Tryz.underlying3,Conv.floatToInt,h,hmin,hmax]
 omega
theorem sZ (o p:Int) (w:World) (h0:0≤o) (h1:o≤1000):Calls Tryz.prog 375 #[.complex .f64 (FloatKind.f64.nearest o) (FloatKind.f64.nearest p)] w fun e w'=>e=.returned (.int .i64 o)∧w'=w:=by
 have hr:=aF3 h0 h1
 go_enter Tryz.func375,Tryz.ntmps375
 go_wp2
 trace_state
 go_ret
 exact ⟨rfl,rfl⟩
theorem aE1 (o p:Int) (w:World) (h0:0≤p) (h1:p≤1000):Calls Tryz.prog 380 #[.complex .f64 (FloatKind.f64.nearest o) (FloatKind.f64.nearest p)] w fun e w'=>e=.returned (.int .i64 p)∧w'=w:=by
 have hr:=aF3 h0 h1
 go_enter Tryz.func380,Tryz.ntmps380
 go_wp2
 go_ret
 exact ⟨rfl,rfl⟩
end Go.Proofs.YteapahcklcldkaaGreatDoor
