/-
  The statement is proved: all that it reaches, in parts.
-/
import Derived.Test.YteapahcklcldkaaGreatDoorW18
import Derived.LaidEqlPtr
set_option maxRecDepth 100000
set_option maxHeartbeats 16000000
namespace Go.Proofs.YteapahcklcldkaaGreatDoor.Dsk
open Go.RowKit Fx
theorem aC1:∃ j,Tryz.prog.info? 167=some j∧j.size≠0:=by
 have h:(Tryz.prog.info? 167).map (·.size)=some 2:=by kernel_rfl
 cases hi:Tryz.prog.info? 167 with
 | none=>rw [hi] at h;cases h
 | some j=>
  rw [hi] at h
  simp only [Option.map_some,Option.some.injEq] at h
  exact ⟨j,rfl,by omega⟩
theorem aQu (w:World) (b:Nat):(binOp .neq 165 (.pointer (some ⟨b,0,none⟩)) (.pointer (some ⟨b,0,none⟩))).run Tryz.prog w=.ok (.bool false) w:=by
 obtain ⟨j,hte,_⟩:=aC1
 have h:∀ d:Nat,(Op.equalIn (d+1) 165 (.pointer (some ⟨b,0,none⟩)) (.pointer (some ⟨b,0,none⟩))).run Tryz.prog w=.ok true w:=fun d=>by
  simp [Op.equalIn,run_underlying Tryz.underlying165,sizeOf,typeInfo,hte,run_sameAddr_same]
 simp only [binOp]
 simp [Op.equal,Op.maxDepth,h 9999]
theorem aNr (w:World) {b c:Nat} {ca cb:Array Value} {ta tb:TypeId} (hne:¬ b=c) (ha:w.heap[b]?=some (.cells ca ta (0,0))) (hb:w.heap[c]?=some (.cells cb tb (0,0))) :
  (binOp .neq 165 (.pointer (some ⟨b,0,none⟩)) (.pointer (some ⟨c,0,none⟩))).run Tryz.prog w=.ok (.bool true) w:=by
 obtain ⟨j,hte,hsz⟩:=aC1
 have h:∀ d:Nat,(Op.equalIn (d+1) 165 (.pointer (some ⟨b,0,none⟩)) (.pointer (some ⟨c,0,none⟩))).run Tryz.prog w=.ok false w:=fun d=>by
  simp [Op.equalIn,run_underlying Tryz.underlying165,sizeOf,typeInfo,hte,hsz,run_sameAddr_other w (a:=⟨b,0,none⟩) (b:=⟨c,0,none⟩) (fun e=>hne (congrArg (fun x:Addr=>x.block) e)) ha hb]
 simp only [binOp]
 simp [Op.equal,Op.maxDepth,h 9999]
section
variable {w0:iW} {w:World} {db mb:Nat} {D:aS} {L:List (ByteArray×(Nat×cN))}
theorem aKb (h:iC w0 w db D mb L) (s t:ByteArray) (he:rY D s t≠0):Calls Tryz.prog 207 #[.pointer (some ⟨db,0,none⟩),.string s,.string t] w fun e w'=>fH w e (.int .i64 (rY D s t)) w':=by
 unfold rY at he ⊢
 by_cases hf:bJ D s=0
 ·rw [if_pos hf] at he ⊢
  obtain ⟨b,hb,hc⟩:=oL h s hf
  have HC:=Lib.hid hc
  have hn:gF t=false:=by
   cases hn:gF t
   ·rfl
   ·rw [if_pos hn] at he;exact absurd rfl he
  have HN:=Lib.hid (kU hn)
  rw [if_neg (by rw [hn];decide)]
  clear h hb hc hf he hn
  go_enter Tryz.func207,Tryz.ntmps207
  go_wp2_with fail
  refine HC.out.mono ?_
  rintro e w1 ⟨rfl,k1⟩
  have K1:=Lib.hid k1
  clear k1
  go_wp2_with fail
  refine (HN.out w1).mono ?_
  rintro e w2 ⟨rfl,k2⟩
  go_wp2
  go_ret
  exact ⟨rfl,K0.tr K1.out k2⟩
 ·have HC:=Lib.hid (uN h s hf)
  rw [if_neg hf] at he ⊢
  clear h hf
  go_enter Tryz.func207,Tryz.ntmps207
  go_wp2_with fail
  refine HC.out.mono ?_
  rintro e w1 ⟨rfl,k1⟩
  go_wp2
  go_ret
  exact ⟨rfl,k1⟩
theorem wR (w:World) (b:Nat) (o1 o2:Obj):aD (fun k=>k=b) w (aO (aO w b o1) b o2):=(iF w b o1).trans (iF _ b o2) (fun _ _ e=>e)
theorem xG {s t:ByteArray} (h:s=t∨aQ D.files t=none):qI D s t=D:=by
 unfold qI
 rw [if_neg]
 rintro ⟨h1,h2⟩
 rcases h with h | h
 ·exact h1 h
 ·rw [h] at h2;cases h2
theorem aGf {s t:ByteArray} (h1:s≠t) (h2:(aQ D.files t).isSome):qI D s t=keepD D t 0:=by unfold qI;rw [if_pos ⟨h1,h2⟩]
theorem aH4 (h:iC w0 w db D mb L) (wf:fV D) (s t:ByteArray) (he:bJ D s=0) (hn:gF t=true) (hfr:aQ L t=none) :
  Calls Tryz.prog 207 #[.pointer (some ⟨db,0,none⟩),.string s,.string t] w fun e w'=>e=.returned (.int .i64 0)∧DSt w0 w' db (burn ⟨D.room,D.used,D.fuse,bD (dQ D.files s) t (dI D s)⟩):=by
 obtain ⟨b,hb,hc⟩:=oL h s he
 have HC:=Lib.hid hc
 have HN:=Lib.hid (kU hn)
 have HH:=Lib.hid h
 have HE:=Lib.hid hb
 have HF:=Lib.hid wf.fuse
 have HV:Hid (aQ (dM mH L) t=none):=by show _=_;rw [fW,hfr];rfl
 clear h wf he hn hb hc hfr
 go_enter Tryz.func207,Tryz.ntmps207
 go_wp2_with fail
 refine HC.out.mono ?_
 rintro e w1 ⟨rfl,k1⟩
 have K1:=Lib.hid k1
 clear k1
 go_wp2_with fail
 refine (HN.out w1).mono ?_
 rintro e w2 ⟨rfl,k2⟩
 have h2:=HH.out.keep (K0.tr K1.out k2)
 have c3:=aB h2.blk 3
 have hlt:=aC h2.blk
 have hm:=Lib.hid h2.map
 have q3:∀ o,(aO w2 mb o).cell? ⟨db,3,none⟩=some (.map (some mb)):=fun o=>(iF w2 mb o).cell' (aB h2.blk 3) h2.ne
 have H2:=Lib.hid h2
 clear k2 h2
 go_wp2_with (first | (at_lookup;refine cI (eG Tryz.underlying9) rfl rfl Tryz.underlying137 lD rfl t rfl hm.out _ HV.out ?_) | (at_delete;refine pC (eG Tryz.underlying9) rfl rfl Tryz.underlying137 rfl s rfl hm.out ?_;intro ob hM) | (at_mapUpdate;refine mN (eG Tryz.underlying9) rfl rfl Tryz.underlying137 rfl t rfl hM (.pointer (some ⟨b,0,none⟩)) rfl ?_;intro ob2 hM2))
 have h3:=H2.out.move (wR _ _ ob ob2) HE.out t hM2
 have HC2:=Lib.hid (iS h3 HF.out)
 clear h3 hM hM2
 refine HC2.out.mono ?_
 rintro e w3 ⟨rfl,h4,_⟩
 have HR:=Lib.hid h4
 clear h4
 go_wp2
 go_ret
 exact ⟨rfl,_,_,HR.out⟩
theorem aH6 (h:iC w0 w db D mb L) (wf:fV D) (s:ByteArray) (he:bJ D s=0) (hn:gF s=true) :
  Calls Tryz.prog 207 #[.pointer (some ⟨db,0,none⟩),.string s,.string s] w fun e w'=>e=.returned (.int .i64 0)∧DSt w0 w' db (burn ⟨D.room,D.used,D.fuse,bD (dQ D.files s) s (dI D s)⟩):=by
 obtain ⟨b,hb,hc⟩:=oL h s he
 have HC:=Lib.hid hc
 have HN:=Lib.hid (kU hn)
 have HH:=Lib.hid h
 have HE:=Lib.hid hb
 have HF:=Lib.hid wf.fuse
 have HV:Hid (aQ (dM mH L) s=some (.pointer (some ⟨b,0,none⟩))):=pY
 clear h wf he hn hb hc
 go_enter Tryz.func207,Tryz.ntmps207
 go_wp2_with fail
 refine HC.out.mono ?_
 rintro e w1 ⟨rfl,k1⟩
 have K1:=Lib.hid k1
 clear k1
 go_wp2_with fail
 refine (HN.out w1).mono ?_
 rintro e w2 ⟨rfl,k2⟩
 have h2:=HH.out.keep (K0.tr K1.out k2)
 have c3:=aB h2.blk 3
 have hlt:=aC h2.blk
 have hm:=Lib.hid h2.map
 have q3:∀ o,(aO w2 mb o).cell? ⟨db,3,none⟩=some (.map (some mb)):=fun o=>(iF w2 mb o).cell' (aB h2.blk 3) h2.ne
 have hpe:=aQu w2 b
 have H2:=Lib.hid h2
 clear k2 h2
 go_wp2_with (first | (at_lookup;refine cI (eG Tryz.underlying9) rfl rfl Tryz.underlying137 lD rfl s rfl hm.out _ HV.out ?_) | (at_delete;refine pC (eG Tryz.underlying9) rfl rfl Tryz.underlying137 rfl s rfl hm.out ?_;intro ob hM) | (at_mapUpdate;refine mN (eG Tryz.underlying9) rfl rfl Tryz.underlying137 rfl s rfl hM (.pointer (some ⟨b,0,none⟩)) rfl ?_;intro ob2 hM2))
 have h3:=H2.out.move (wR _ _ ob ob2) HE.out s hM2
 have HC2:=Lib.hid (iS h3 HF.out)
 clear h3 hM hM2
 refine HC2.out.mono ?_
 rintro e w3 ⟨rfl,h4,_⟩
 have HR:=Lib.hid h4
 clear h4
 go_wp2
 go_ret
 exact ⟨rfl,_,_,HR.out⟩
theorem aH5 (h:iC w0 w db D mb L) (wf:fV D) (s t:ByteArray) (he:bJ D s=0) (hn:gF t=true) (hne:s≠t) {c:Nat} {y:cN} (hfr:aQ L t=some (c,y)) :
  Calls Tryz.prog 207 #[.pointer (some ⟨db,0,none⟩),.string s,.string t] w fun e w'=>e=.returned (.int .i64 0)∧DSt w0 w' db (burn ⟨(keepD D t 0).room,(keepD D t 0).used,(keepD D t 0).fuse,bD (dQ (keepD D t 0).files s) t (dI D s)⟩):=by
 obtain ⟨b,hb,hc⟩:=oL h s he
 have HC:=Lib.hid hc
 have HN:=Lib.hid (kU hn)
 have HH:=Lib.hid h
 have HE:=Lib.hid hb
 have HT:=Lib.hid hfr
 have HF:=Lib.hid wf.fuse
 have HW:=Lib.hid wf
 have HNE:=Lib.hid hne
 have hbc:¬ c=b:=fun e=>h.apart s t _ _ hb hfr hne e.symm
 have HV:Hid (aQ (dM mH L) t=some (.pointer (some ⟨c,0,none⟩))):=by show _=_;rw [fW,hfr];rfl
 clear h wf he hn hb hc hfr hne
 go_enter Tryz.func207,Tryz.ntmps207
 go_wp2_with fail
 refine HC.out.mono ?_
 rintro e w1 ⟨rfl,k1⟩
 have K1:=Lib.hid k1
 clear k1
 go_wp2_with fail
 refine (HN.out w1).mono ?_
 rintro e w2 ⟨rfl,k2⟩
 have h2:=HH.out.keep (K0.tr K1.out k2)
 have c3:=aB h2.blk 3
 have hlt:=aC h2.blk
 have hm:=Lib.hid h2.map
 have HK:Hid (Calls Tryz.prog 81 #[.pointer (some ⟨db,0,none⟩),.pointer (some ⟨c,0,none⟩),.int .i64 0] w2 fun e w'=>tW w0 db D mb L t c y 0 w2 e w'):=aLs h2 HW.out HT.out (n:=0) (Nat.zero_le _)
 have hpe:=aNr w2 hbc (h2.fil t _ HT.out) (h2.fil s _ HE.out)
 clear k2 h2
 go_wp2_with (first | (at_lookup;refine cI (eG Tryz.underlying9) rfl rfl Tryz.underlying137 lD rfl t rfl hm.out _ HV.out ?_))
 refine HK.out.mono ?_
 rintro e w4 ⟨rfl,h4,_⟩
 have d3:=aB h4.blk 3
 have hlt4:=aC h4.blk
 have hm4:=Lib.hid h4.map
 have q3:∀ o,(aO w4 mb o).cell? ⟨db,3,none⟩=some (.map (some mb)):=fun o=>(iF w4 mb o).cell' (aB h4.blk 3) h4.ne
 have H4:=Lib.hid h4
 have HE4:Hid (aQ (bD L t (c,pH y 0)) s=some (b,dI D s)):=by show _=_;rw [bX,if_neg (Ne.symm HNE.out)];exact HE.out
 clear h4 c3 hlt hm
 go_wp2_with (first | (at_delete;refine pC (eG Tryz.underlying9) rfl rfl Tryz.underlying137 rfl s rfl hm4.out ?_;intro ob hM) | (at_mapUpdate;refine mN (eG Tryz.underlying9) rfl rfl Tryz.underlying137 rfl t rfl hM (.pointer (some ⟨b,0,none⟩)) rfl ?_;intro ob2 hM2))
 have h5:=H4.out.move (wR _ _ ob ob2) HE4.out t hM2
 have HC2:=Lib.hid (iS h5 HF.out)
 clear h5 hM hM2
 refine HC2.out.mono ?_
 rintro e w6 ⟨rfl,h6,_⟩
 have HR:=Lib.hid h6
 clear h6
 go_wp2
 go_ret
 exact ⟨rfl,_,_,HR.out⟩
theorem aOg (h:iC w0 w db D mb L) (wf:fV D) (s t:ByteArray):Calls Tryz.prog 207 #[.pointer (some ⟨db,0,none⟩),.string s,.string t] w fun e w'=>e=.returned (.int .i64 (rY D s t))∧DSt w0 w' db (xH D s t):=by
 by_cases he:rY D s t=0
 ·have h1:bJ D s=0∧gF t=true:=by
   unfold rY at he
   split at he
   ·rename_i h1
    split at he
    ·rename_i h2;exact ⟨h1,h2⟩
    ·cases he
   ·rename_i h1;exact absurd he h1
  unfold xH
  rw [if_pos he,he]
  by_cases hst:s=t
  ·subst hst
   rw [xG (.inl rfl)]
   exact aH6 h wf s h1.1 h1.2
  ·cases hg:aQ L t with
   | none=>
    rw [xG (.inr (by rw [h.agetL,hg];rfl))]
    exact aH4 h wf s t h1.1 h1.2 hg
   | some p=>
    obtain ⟨c,y⟩:=p
    rw [aGf hst (by rw [h.agetL,hg];rfl)]
    exact aH5 h wf s t h1.1 h1.2 hst hg
 ·have:xH D s t=D:=by unfold xH;rw [if_neg he]
  rw [this]
  exact (aKb h s t he).mono fun e w' hq=>⟨hq.1,_,_,h.keep hq.2⟩
end
end Go.Proofs.YteapahcklcldkaaGreatDoor.Dsk
