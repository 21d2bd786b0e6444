/-
  A disk's Rename.
-/
import Derived.Test.YtjfblcmpdcbpgaaDe
import Derived.LaidEqlPtr
namespace Go.Proofs.Ytjfblcmpdcbpgaa
open Go.RowKit Fx

theorem file_info : ∃ j, Try.prog.info? 65 = some j ∧ j.size ≠ 0 := by
  have h : (Try.prog.info? 65).map (·.size) = some 2 := by kernel_rfl
  cases hi : Try.prog.info? 65 with
  | none => rw [hi] at h; cases h
  | some j =>
    rw [hi] at h
    simp only [Option.map_some, Option.some.injEq] at h
    exact ⟨j, rfl, by omega⟩
theorem neq_same (w : World) (b : Nat) : (binOp .neq 62 (.pointer (some ⟨b, 0, none⟩)) (.pointer (some ⟨b, 0, none⟩))).run Try.prog w = .ok (.bool false) w := by
  obtain ⟨j, hte, _⟩ := file_info
  have h : ∀ d : Nat, (Op.equalIn (d + 1) 62 (.pointer (some ⟨b, 0, none⟩)) (.pointer (some ⟨b, 0, none⟩))).run Try.prog w = .ok true w := fun d => by
    simp [Op.equalIn, run_underlying Try.underlying62, sizeOf, typeInfo, hte, run_sameAddr_same]
  simp only [binOp]
  simp [Op.equal, Op.maxDepth, h 9999]
theorem neq_other (w : World) {b c : Nat} {ca cb : Array Value} {ta tb : TypeId} (hne : ¬ b = c) (ha : w.heap[b]? = some (.cells ca ta (0, 0))) (hb : w.heap[c]? = some (.cells cb tb (0, 0))) :
    (binOp .neq 62 (.pointer (some ⟨b, 0, none⟩)) (.pointer (some ⟨c, 0, none⟩))).run Try.prog w = .ok (.bool true) w := by
  obtain ⟨j, hte, hsz⟩ := file_info
  have h : ∀ d : Nat, (Op.equalIn (d + 1) 62 (.pointer (some ⟨b, 0, none⟩)) (.pointer (some ⟨c, 0, none⟩))).run Try.prog w = .ok false w := fun d => by
    simp [Op.equalIn, run_underlying Try.underlying62, sizeOf, typeInfo, hte, hsz, run_sameAddr_other w (a := ⟨b, 0, none⟩) (b := ⟨c, 0, none⟩) (fun e => hne (congrArg (fun x : Addr => x.block) e)) ha hb]
  simp only [binOp]
  simp [Op.equal, Op.maxDepth, h 9999]
section
variable {w0 w : World} {db mb : Nat} {D : DiskC} {L : List (ByteArray × (Nat × FileC))}
set_option maxRecDepth 100000 in
set_option maxHeartbeats 2000000 in
theorem rename_bad (h : DAt w0 w db D mb L) (s t : ByteArray) (he : drenE D s t ≠ 0) : Calls Try.prog 21 #[.pointer (some ⟨db, 0, none⟩), .string s, .string t] w fun e w' => Same w e (.int .i64 (drenE D s t)) w' := by
  unfold drenE at he ⊢
  by_cases hf : fileE D s = 0
  · rw [if_pos hf] at he ⊢
    obtain ⟨b, hb, hc⟩ := file_at h s hf
    have HC := Lib.hid hc
    have hn : namedB t = false := by
      cases hn : namedB t
      · rfl
      · rw [if_pos hn] at he; exact absurd rfl he
    have HN := Lib.hid (named_is hn)
    rw [if_neg (by rw [hn]; decide)]
    clear h hb hc hf he hn
    go_enter Try.func21, Try.ntmps21
    go_wp2_with fail
    refine HC.out.mono ?_
    rintro e w1 ⟨rfl, k1⟩
    have K1 := Lib.hid k1
    clear k1
    go_wp2_with fail
    refine (HN.out w1).mono ?_
    rintro e w2 ⟨rfl, k2⟩
    go_wp2
    go_ret
    exact ⟨rfl, K0.tr K1.out k2⟩
  · have HC := Lib.hid (file_bad h s hf)
    rw [if_neg hf] at he ⊢
    clear h hf
    go_enter Try.func21, Try.ntmps21
    go_wp2_with fail
    refine HC.out.mono ?_
    rintro e w1 ⟨rfl, k1⟩
    go_wp2
    go_ret
    exact ⟨rfl, k1⟩
theorem set_twice (w : World) (b : Nat) (o1 o2 : Obj) : Keeps (fun k => k = b) w (setObjAt (setObjAt w b o1) b o2) := (setObj_keeps w b o1).trans (setObj_keeps _ b o2) (fun _ _ e => e)
/-- Where nothing is cleared: the name is free, or the same. -/
theorem clearD_none {s t : ByteArray} (h : s = t ∨ aget D.files t = none) : clearD D s t = D := by
  unfold clearD
  rw [if_neg]
  rintro ⟨h1, h2⟩
  rcases h with h | h
  · exact h1 h
  · rw [h] at h2; cases h2
theorem clearD_some {s t : ByteArray} (h1 : s ≠ t) (h2 : (aget D.files t).isSome) : clearD D s t = keepD D t 0 := by unfold clearD; rw [if_pos ⟨h1, h2⟩]
set_option maxRecDepth 100000 in
set_option maxHeartbeats 2000000 in
theorem rename_free (h : DAt w0 w db D mb L) (wf : WfD D) (s t : ByteArray) (he : fileE D s = 0) (hn : namedB t = true) (hfr : aget L t = none) :
    Calls Try.prog 21 #[.pointer (some ⟨db, 0, none⟩), .string s, .string t] w fun e w' => e = .returned (.int .i64 0) ∧ DSt w0 w' db (burn ⟨D.room, D.used, D.fuse, aput (adel D.files s) t (oldF D s)⟩) := by
  obtain ⟨b, hb, hc⟩ := file_at h s he
  have HC := Lib.hid hc
  have HN := Lib.hid (named_is hn)
  have HH := Lib.hid h
  have HE := Lib.hid hb
  have HF := Lib.hid wf.fuse
  have HV : Hid (aget (avals fptr L) t = none) := by show _ = _; rw [aget_avals, hfr]; rfl
  clear h wf he hn hb hc hfr
  go_enter Try.func21, Try.ntmps21
  go_wp2_with fail
  refine HC.out.mono ?_
  rintro e w1 ⟨rfl, k1⟩
  have K1 := Lib.hid k1
  clear k1
  go_wp2_with fail
  refine (HN.out w1).mono ?_
  rintro e w2 ⟨rfl, k2⟩
  have h2 := HH.out.keep (K0.tr K1.out k2)
  have c3 := block_cell h2.blk 3
  have hlt := block_lt h2.blk
  have hm := Lib.hid h2.map
  have q3 : ∀ o, (setObjAt w2 mb o).cell? ⟨db, 3, none⟩ = some (.map (some mb)) := fun o => (setObj_keeps w2 mb o).cell' (block_cell h2.blk 3) h2.ne
  have H2 := Lib.hid h2
  clear k2 h2
  go_wp2_with (first | (at_lookup; refine wpList_look (strKey Try.underlying9) rfl rfl Try.underlying57 zeroFile rfl t rfl hm.out _ HV.out ?_) | (at_delete; refine wpList_del (strKey Try.underlying9) rfl rfl Try.underlying57 rfl s rfl hm.out ?_; intro ob hM) | (at_mapUpdate; refine wpList_put (strKey Try.underlying9) rfl rfl Try.underlying57 rfl t rfl hM (.pointer (some ⟨b, 0, none⟩)) rfl ?_; intro ob2 hM2))
  have h3 := H2.out.move (set_twice _ _ ob ob2) HE.out t hM2
  have HC2 := Lib.hid (changed_at h3 HF.out)
  clear h3 hM hM2
  refine HC2.out.mono ?_
  rintro e w3 ⟨rfl, h4, _⟩
  have HR := Lib.hid h4
  clear h4
  go_wp2
  go_ret
  exact ⟨rfl, _, _, HR.out⟩
set_option maxRecDepth 100000 in
set_option maxHeartbeats 2000000 in
theorem rename_self (h : DAt w0 w db D mb L) (wf : WfD D) (s : ByteArray) (he : fileE D s = 0) (hn : namedB s = true) :
    Calls Try.prog 21 #[.pointer (some ⟨db, 0, none⟩), .string s, .string s] w fun e w' => e = .returned (.int .i64 0) ∧ DSt w0 w' db (burn ⟨D.room, D.used, D.fuse, aput (adel D.files s) s (oldF D s)⟩) := by
  obtain ⟨b, hb, hc⟩ := file_at h s he
  have HC := Lib.hid hc
  have HN := Lib.hid (named_is hn)
  have HH := Lib.hid h
  have HE := Lib.hid hb
  have HF := Lib.hid wf.fuse
  have HV : Hid (aget (avals fptr L) s = some (.pointer (some ⟨b, 0, none⟩))) := by show _ = _; rw [aget_avals, hb]; rfl
  clear h wf he hn hb hc
  go_enter Try.func21, Try.ntmps21
  go_wp2_with fail
  refine HC.out.mono ?_
  rintro e w1 ⟨rfl, k1⟩
  have K1 := Lib.hid k1
  clear k1
  go_wp2_with fail
  refine (HN.out w1).mono ?_
  rintro e w2 ⟨rfl, k2⟩
  have h2 := HH.out.keep (K0.tr K1.out k2)
  have c3 := block_cell h2.blk 3
  have hlt := block_lt h2.blk
  have hm := Lib.hid h2.map
  have q3 : ∀ o, (setObjAt w2 mb o).cell? ⟨db, 3, none⟩ = some (.map (some mb)) := fun o => (setObj_keeps w2 mb o).cell' (block_cell h2.blk 3) h2.ne
  have hpe := neq_same w2 b
  have H2 := Lib.hid h2
  clear k2 h2
  go_wp2_with (first | (at_lookup; refine wpList_look (strKey Try.underlying9) rfl rfl Try.underlying57 zeroFile rfl s rfl hm.out _ HV.out ?_) | (at_delete; refine wpList_del (strKey Try.underlying9) rfl rfl Try.underlying57 rfl s rfl hm.out ?_; intro ob hM) | (at_mapUpdate; refine wpList_put (strKey Try.underlying9) rfl rfl Try.underlying57 rfl s rfl hM (.pointer (some ⟨b, 0, none⟩)) rfl ?_; intro ob2 hM2))
  have h3 := H2.out.move (set_twice _ _ ob ob2) HE.out s hM2
  have HC2 := Lib.hid (changed_at h3 HF.out)
  clear h3 hM hM2
  refine HC2.out.mono ?_
  rintro e w3 ⟨rfl, h4, _⟩
  have HR := Lib.hid h4
  clear h4
  go_wp2
  go_ret
  exact ⟨rfl, _, _, HR.out⟩
set_option maxRecDepth 100000 in
set_option maxHeartbeats 2000000 in
theorem rename_over (h : DAt w0 w db D mb L) (wf : WfD D) (s t : ByteArray) (he : fileE D s = 0) (hn : namedB t = true) (hne : s ≠ t) {c : Nat} {y : FileC} (hfr : aget L t = some (c, y)) :
    Calls Try.prog 21 #[.pointer (some ⟨db, 0, none⟩), .string s, .string t] w fun e w' => e = .returned (.int .i64 0) ∧ DSt w0 w' db (burn ⟨(keepD D t 0).room, (keepD D t 0).used, (keepD D t 0).fuse, aput (adel (keepD D t 0).files s) t (oldF D s)⟩) := by
  obtain ⟨b, hb, hc⟩ := file_at h s he
  have HC := Lib.hid hc
  have HN := Lib.hid (named_is hn)
  have HH := Lib.hid h
  have HE := Lib.hid hb
  have HT := Lib.hid hfr
  have HF := Lib.hid wf.fuse
  have HW := Lib.hid wf
  have HNE := Lib.hid hne
  have hbc : ¬ c = b := fun e => h.apart s t _ _ hb hfr hne e.symm
  have HV : Hid (aget (avals fptr L) t = some (.pointer (some ⟨c, 0, none⟩))) := by show _ = _; rw [aget_avals, hfr]; rfl
  clear h wf he hn hb hc hfr hne
  go_enter Try.func21, Try.ntmps21
  go_wp2_with fail
  refine HC.out.mono ?_
  rintro e w1 ⟨rfl, k1⟩
  have K1 := Lib.hid k1
  clear k1
  go_wp2_with fail
  refine (HN.out w1).mono ?_
  rintro e w2 ⟨rfl, k2⟩
  have h2 := HH.out.keep (K0.tr K1.out k2)
  have c3 := block_cell h2.blk 3
  have hlt := block_lt h2.blk
  have hm := Lib.hid h2.map
  have HK : Hid (Calls Try.prog 32 #[.pointer (some ⟨db, 0, none⟩), .pointer (some ⟨c, 0, none⟩), .int .i64 0] w2 fun e w' => KeepPost w0 db D mb L t c y 0 w2 e w') := keep_at h2 HW.out HT.out (n := 0) (Nat.zero_le _)
  have hpe := neq_other w2 hbc (h2.fil t _ HT.out) (h2.fil s _ HE.out)
  clear k2 h2
  go_wp2_with (first | (at_lookup; refine wpList_look (strKey Try.underlying9) rfl rfl Try.underlying57 zeroFile rfl t rfl hm.out _ HV.out ?_))
  refine HK.out.mono ?_
  rintro e w4 ⟨rfl, h4, _⟩
  have d3 := block_cell h4.blk 3
  have hlt4 := block_lt h4.blk
  have hm4 := Lib.hid h4.map
  have q3 : ∀ o, (setObjAt w4 mb o).cell? ⟨db, 3, none⟩ = some (.map (some mb)) := fun o => (setObj_keeps w4 mb o).cell' (block_cell h4.blk 3) h4.ne
  have H4 := Lib.hid h4
  have HE4 : Hid (aget (aput L t (c, keepF y 0)) s = some (b, oldF D s)) := by show _ = _; rw [aget_aput, if_neg (Ne.symm HNE.out)]; exact HE.out
  clear h4 c3 hlt hm
  go_wp2_with (first | (at_delete; refine wpList_del (strKey Try.underlying9) rfl rfl Try.underlying57 rfl s rfl hm4.out ?_; intro ob hM) | (at_mapUpdate; refine wpList_put (strKey Try.underlying9) rfl rfl Try.underlying57 rfl t rfl hM (.pointer (some ⟨b, 0, none⟩)) rfl ?_; intro ob2 hM2))
  have h5 := H4.out.move (set_twice _ _ ob ob2) HE4.out t hM2
  have HC2 := Lib.hid (changed_at h5 HF.out)
  clear h5 hM hM2
  refine HC2.out.mono ?_
  rintro e w6 ⟨rfl, h6, _⟩
  have HR := Lib.hid h6
  clear h6
  go_wp2
  go_ret
  exact ⟨rfl, _, _, HR.out⟩
theorem rename_at (h : DAt w0 w db D mb L) (wf : WfD D) (s t : ByteArray) : Calls Try.prog 21 #[.pointer (some ⟨db, 0, none⟩), .string s, .string t] w fun e w' => e = .returned (.int .i64 (drenE D s t)) ∧ DSt w0 w' db (drenC D s t) := by
  by_cases he : drenE D s t = 0
  · have h1 : fileE D s = 0 ∧ namedB t = true := by
      unfold drenE at he
      split at he
      · rename_i h1
        split at he
        · rename_i h2; exact ⟨h1, h2⟩
        · cases he
      · rename_i h1; exact absurd he h1
    unfold drenC
    rw [if_pos he, he]
    by_cases hst : s = t
    · subst hst
      rw [clearD_none (.inl rfl)]
      exact rename_self h wf s h1.1 h1.2
    · cases hg : aget L t with
      | none =>
        rw [clearD_none (.inr (by rw [h.agetL, hg]; rfl))]
        exact rename_free h wf s t h1.1 h1.2 hg
      | some p =>
        obtain ⟨c, y⟩ := p
        rw [clearD_some hst (by rw [h.agetL, hg]; rfl)]
        exact rename_over h wf s t h1.1 h1.2 hst hg
  · have : drenC D s t = D := by unfold drenC; rw [if_neg he]
    rw [this]
    exact (rename_bad h s t he).mono fun e w' hq => ⟨hq.1, _, _, h.keep hq.2⟩
end
end Go.Proofs.Ytjfblcmpdcbpgaa
