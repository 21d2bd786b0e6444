/-
  The statement is proved: all that it reaches, in parts.
-/
import Derived.Test.YteapahcklcldkaaGreatDoorW29
import Derived.Test.YteapahcklcldkaaGreatDoorW30
set_option maxRecDepth 100000
set_option maxHeartbeats 16000000
namespace Go.Proofs.YteapahcklcldkaaGreatDoor.Tpc
open Go.RowKit Fx
theorem uU {w:World} {b m:Nat} {t:gG} (h:cP w b m t) (hs:∀ p∈t.all,p.1.size≤100000) (hl:t.all.length≤100000) :
  Calls Tryz.prog 91 #[.pointer (some ⟨b,0,none⟩)] w fun e w'=>∃ a c ss,e=.returned (.slice a ss.length c)∧tY (w.heap.size+1) w' (.slice a ss.length c) ss (gG.vals t.all)∧K0 w w':=by
 have c1:=h.cell1
 have hlt:=h.lt
 have HSR:=Lib.hid (pB h.map (fun p hp=>by obtain ⟨q,hq,rfl⟩:=List.mem_map.1 hp;exact hs q hq) (by simp [gG.vals];omega))
 have HKS:=Lib.hid (uS (some m) w)
 clear h hs hl
 go_enter Tryz.func91,Tryz.ntmps91
 go_wp2_with fail
 refine HKS.out.mono ?_
 rintro e w1 ⟨rfl,rfl⟩
 go_wp2_with fail
 refine HSR.out.mono ?_
 rintro e w1 ⟨v,ss,rfl,hN,k1⟩
 have hrow:=hN.row
 obtain ⟨a0,c0,rfl⟩:∃ a0 c0,v=.slice a0 ss.length c0:=by
  rcases hrow.2 with ⟨h1,h2⟩ | ⟨r,cp,cur,h1,_⟩
  ·rw [h1,h2];exact ⟨_,_,rfl⟩
  ·exact ⟨_,_,h1⟩
 have HN:=Lib.hid hN
 have K1:=Lib.hid (K0.tr ((aD.refl (fun _=>False) w).alloc _) k1)
 clear hN hrow k1
 go_wp2
 go_ret
 exact ⟨a0,c0,ss,rfl,HN.out,K1.out⟩
def rT:Rdr (ByteArray×Int):=fun _ cs p=>cs=[.string p.1,.int .i64 p.2]
def aM6 (p:ByteArray×Int):List Value:=[.string p.1,.int .i64 p.2]
def wO (t:gG) (s:ByteArray):Int:=((aQ t.all s).getD (0,0)).2
def gE (t:gG) (ss:List ByteArray):List (ByteArray×Int):=ss.map fun s=>(s,wO t s)
theorem aV4:(Tryz.prog.info? 36).map (fun i=>(i.zero,i.size,i.bytes))=some (some (.agg #[.string ⟨#[]⟩,.int .i64 0]),2,24):=by kernel_rfl
theorem aNz (x p:Int) (w:World):(Instr.field 193 (.agg #[.int .i64 x,.int .i64 p]) 1).run Tryz.prog w=.ok (.int .i64 p) w:=by kernel_rfl
def aW3 (w:World) (B:Nat) (t:gG) (ss:List ByteArray) (k:Nat) (v:Value) (wr:World):Prop:=
 wr.ownsRow B 36 2 v k ((gE t (ss.take k)).flatMap aM6)∧K0 w wr
theorem aFm (t:gG) (ss:List ByteArray) {k:Nat} (h:k<ss.length):(gE t (ss.take (k+1))).flatMap aM6=(gE t (ss.take k)).flatMap aM6++[.string ss[k],.int .i64 (wO t ss[k])]:=by
 rw [List.take_succ_eq_append_getElem h]
 unfold gE
 rw [List.map_append,List.flatMap_append]
 rfl
theorem aQm {w:World} {b m:Nat} {t:gG} (h:cP w b m t) (hd:KD t.all) (hs:∀ p∈t.all,p.1.size≤100000) (hl:t.all.length≤1000) :
  Calls Tryz.prog 39 #[.pointer (some ⟨b,0,none⟩)] w fun e w'=>∃ a c ss,e=.returned (.slice a ss.length c)∧ss.Perm (t.all.map (·.1))∧(ss.map fun s=>s.data.toList).Pairwise (fun x y=>x≤y)∧rS 2 rT w' a c (gE t ss)∧K0 w w'∧∀ x,a=some x→w.heap.size≤x.block:=by
 have NM:=Lib.hid (uU h hs aA)
 have HT:=Lib.hid h
 have HD:=Lib.hid hd
 have HL:=Lib.hid hl
 have hop:=aNz
 have hka:(gG.vals t.all).map (·.1)=t.all.map (·.1):=by simp [gG.vals,Function.comp_def]
 have HKA:=Lib.hid hka
 clear h hd hs hl hka
 go_enter Tryz.func39,Tryz.ntmps39
 go_wp2_with fail
 refine NM.out.mono ?_
 rintro e w1 ⟨a0,c0,ss,rfl,hN,k1⟩
 have hpm:=hN.perm
 rw [HKA.out] at hpm
 have hsl:ss.length≤1000:=(by have:=hpm.length_eq;have:=HL.out;simp at *;omega)
 have HPM:=Lib.hid hpm
 have HORD:=Lib.hid hN.ord
 have HROW:=Lib.hid hN.row
 have HK1:=Lib.hid k1
 have H0:Hid (aW3 w (w1.heap.size) t ss 0 (.slice none 0 0) w1):=⟨by simpa [gE] using World.ownsRow_nil w1 w1.heap.size 36 2,k1⟩
 clear hN k1 hpm
 go_wp2
 go_loopw [3,9] (fun v i wr=>∃ k:Nat,i=.int .i64 k∧k≤ss.length∧aW3 w w1.heap.size t ss k v wr∧K0 w1 wr) (fun _ i _=>ss.length - (intOf i).toNat)
 case atStart=>exact ⟨0,rfl,by omega,H0.out,aD.refl _ _⟩
 case round=>
  obtain ⟨k,rfl,hk,hr,hkk⟩:=hrel
  by_cases hlt:k<ss.length
  ·have HR:=Lib.hid hr
   have HKK:=Lib.hid hkk
   have hrow:=HROW.out
   obtain ⟨g,rfl⟩:∃ g,a0=some ⟨g,0,none⟩:=by
    rcases hrow.2 with ⟨_,h2⟩ | ⟨r,cp,cur,h1,_⟩
    ·omega
    ·simp only [Value.slice.injEq] at h1
     exact ⟨r,h1.1⟩
   have hc1:w1.cell? ⟨g,k,none⟩=some (.string ss[k]):=by
    rw [hrow.cellAt k aA,List.getElem?_map,List.getElem?_eq_getElem hlt]
    rfl
   have hc:=hkk.cell' hc1 (fun e=>e)
   have hltg:=World.block_lt_of_cell? wr _ hc
   have htb:=HT.out.keep hr.2 (fun e=>e) (fun e=>e)
   have c1:=htb.cell1
   have hltb:=htb.lt
   have hm:=Lib.hid htb.map
   obtain ⟨q,hq,hqe⟩:=List.mem_map.1 (HPM.out.mem_iff.1 (List.getElem_mem hlt))
   have hg:aQ t.all ss[k]=some q.2:=by rw [← hqe];exact eO HD.out hq
   have HV:Hid (aQ (gG.vals t.all) ss[k]=some (.agg #[.int .i64 q.2.1,.int .i64 q.2.2])):=by show _=_;rw [rD,hg];rfl
   have HPT:Hid (wO t ss[k]=q.2.2):=by show _=_;simp [wO,hg]
   have hown:=hr.1
   have HNX:=Lib.hid (aFm t ss hlt)
   generalize (gE t (ss.take k)).flatMap aM6=xs at hown HNX
   have hbs:w1.heap.size≤wr.heap.size:=hkk.size
   clear hr hkk hrow hc1 htb hq hqe hg
   go_wp2_with (first | (at_lookup;refine cI (eG Tryz.underlying9) rfl rfl Tryz.underlying180 pD rfl _ rfl hm.out _ HV.out ?_) | (at_builtin;refine bW rfl rfl Tryz.underlying23 aV4 rfl aE rfl (hown.alloc _) rfl (aI _ _ _ rfl) rfl rfl aA cX ?_;intro g2 cap2 w4 hA4))
   have hown4:=hA4.own
   have hgr:wr.grownBy w4 _:=aG2 hA4.grown
   have hK4:K0 w1 w4:=HKK.out.grown hgr (fun j e hj=>by have:=(hown.lt j e).1;omega)
   have HK4:=Lib.hid hK4
   have HO4:Hid (w4.ownsRow w1.heap.size 36 2 (.slice (some ⟨g2,0,none⟩) (k+1) cap2) (k+1) ((gE t (ss.take (k+1))).flatMap aM6)):=by
    show World.ownsRow _ _ _ _ _ _ _
    rw [HNX.out,HPT.out]
    exact hown4
   clear hown4 hgr hK4 hA4 hown
   go_roundw
   case rel=>exact ⟨k+1,by go_num,by omega,⟨HO4.out,K0.tr HK1.out HK4.out⟩,HK4.out⟩
   case measure=>simp [intOf];omega
  ·obtain rfl:k=ss.length:=by omega
   have hrow:=hr.1
   rw [List.take_length] at hrow
   have hfl:(gE t ss).length=ss.length:=by simp [gE]
   obtain ⟨a,c,hv,hsl2,hob⟩:=aRb (R:=rT) (l:=gE t ss) aM6 (fun _=>rfl) (fun _=>rfl) (by rw [hfl];exact hrow)
   rw [hfl] at hv
   subst hv
   have HOB:Hid (∀ x,a=some x→w.heap.size≤x.block):=fun x e=>by subst e;have h1:=(hob x.block rfl).1;have h2:=HK1.out.size;omega
   clear hob
   have HF:=Lib.hid hr.2
   have HS2:=Lib.hid hsl2
   clear hr hrow hkk hsl2
   go_wp2
   go_ret
   exact ⟨a,c,ss,rfl,HPM.out,HORD.out,HS2.out,HF.out,HOB.out⟩
theorem zC {w:World} {b m:Nat} {t:gG} (h:cP w b m t) (hd:KD t.all) (hs:∀ p∈t.all,p.1.size≤100000) (hl:t.all.length≤1000) :
  Calls Tryz.prog 39 #[.pointer (some ⟨b,0,none⟩)] w fun e w'=>∃ a c ss,e=.returned (.slice a ss.length c)∧ss.Perm (t.all.map (·.1))∧(ss.map fun s=>s.data.toList).Pairwise (fun x y=>x≤y)∧rS 2 rT w' a c (gE t ss)∧K0 w w':=
 (aQm h hd hs hl).mono fun _e _w' ⟨a,c,ss,h1,h2,h3,h4,h5,_⟩=>⟨a,c,ss,h1,h2,h3,h4,h5⟩
end Go.Proofs.YteapahcklcldkaaGreatDoor.Tpc
