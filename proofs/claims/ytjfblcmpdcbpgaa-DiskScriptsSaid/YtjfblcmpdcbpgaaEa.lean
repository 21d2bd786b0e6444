/-
  A disk's Fuse, Sync, Cut, Rename and Crash, and that they leave all but the disk's own blocks as they were.
-/
import Derived.Test.YtjfblcmpdcbpgaaDw
namespace Go.Proofs.Ytjfblcmpdcbpgaa
open Go.RowKit Fx

def InL (L L' : List (ByteArray × (Nat × FileC))) : Prop := ∀ s p, aget L' s = some p → ∃ t q, aget L t = some q ∧ q.1 = p.1
theorem InL.refl (L : List (ByteArray × (Nat × FileC))) : InL L L := fun s p e => ⟨s, p, e, rfl⟩
theorem InL.trans {L L' L'' : List (ByteArray × (Nat × FileC))} (h : InL L L') (h' : InL L' L'') : InL L L'' := fun s p e => by
  obtain ⟨t, q, e1, e2⟩ := h' s p e
  obtain ⟨t', q', e3, e4⟩ := h t q e1
  exact ⟨t', q', e3, e4.trans e2⟩
theorem InL.put {L : List (ByteArray × (Nat × FileC))} {s : ByteArray} {b : Nat} {x : FileC} (h : aget L s = some (b, x)) (y : FileC) : InL L (aput L s (b, y)) := fun t p e => by
  rw [aget_aput] at e
  split at e
  · cases e; exact ⟨s, _, h, rfl⟩
  · exact ⟨t, p, e, rfl⟩
theorem InL.move {L : List (ByteArray × (Nat × FileC))} (hd : KD L) {s t : ByteArray} {b : Nat} {x : FileC} (h : aget L s = some (b, x)) : InL L (aput (adel L s) t (b, x)) := fun u p e => by
  rw [aget_aput, aget_adel hd] at e
  split at e
  · cases e; exact ⟨s, _, h, rfl⟩
  · split at e
    · cases e
    · exact ⟨u, p, e, rfl⟩
section
variable {w0 w : World} {db mb : Nat} {D : DiskC} {L : List (ByteArray × (Nat × FileC))}
theorem DNext.mk {L' : List (ByteArray × (Nat × FileC))} (h : InL L L') {w' : World} {D' : DiskC} (hd : DAt w0 w' db D' mb L') (hk : Keeps (inD db mb L) w w') : DNext w0 w db mb L D' w' := ⟨L', hd, fun s p e => .inl (h s p e), hk⟩
theorem DNext.same (h : DAt w0 w db D mb L) {w' : World} (hk : K0 w w') : DNext w0 w db mb L D w' := ⟨L, h.keep hk, fun s p e => .inl ⟨s, p, e, rfl⟩, hk.mono fun _ _ e => e.elim⟩
set_option maxRecDepth 100000 in
set_option maxHeartbeats 1000000 in
theorem fuse_k (h : DAt w0 w db D mb L) (n : Int) : Calls Try.prog 17 #[.pointer (some ⟨db, 0, none⟩), .int .i64 n] w fun e w' => e = .returned (.int .i64 (dfuseE n)) ∧ DNext w0 w db mb L (dfuseC D n) w' := by
  have c2 : w.cell? ⟨db, 2, none⟩ = some (.int .i64 D.fuse) := block_cell h.blk 2
  have f2 := block_free h.blk 2
  have hlt := block_lt h.blk
  unfold dfuseE dfuseC
  by_cases h1 : n < -1
  · rw [if_pos h1, if_pos h1]
    have HF := Lib.hid h
    clear h
    go_enter Try.func17, Try.ntmps17
    go_wp2
    go_ret
    exact ⟨rfl, DNext.same HF.out (Keeps.refl _ _)⟩
  · rw [if_neg h1, if_neg h1]
    have HF := Lib.hid (h.own (((Keeps.refl (fun k => k = db) w).setC 2 (.int .i64 n) (fun _ => rfl))) (setCell_block h.blk 2 (.int .i64 n)))
    have HKF : Hid (Keeps (inD db mb L) w (w.setCell ⟨db, 2, none⟩ (.int .i64 n))) := (Keeps.refl (inD db mb L) w).setC 2 _ (fun _ => .inl rfl)
    clear h
    go_enter Try.func17, Try.ntmps17
    go_wp2
    go_ret
    exact ⟨rfl, DNext.mk (InL.refl L) HF.out HKF.out⟩
set_option maxRecDepth 100000 in
set_option maxHeartbeats 1000000 in
theorem sync_k (h : DAt w0 w db D mb L) (wf : WfD D) (s : ByteArray) : Calls Try.prog 12 #[.pointer (some ⟨db, 0, none⟩), .string s] w fun e w' => e = .returned (.int .i64 (fileE D s)) ∧ DNext w0 w db mb L (dsyncC D s) w' := by
  unfold dsyncC
  by_cases he : fileE D s = 0
  · obtain ⟨b, hb, hc⟩ := file_at h s he
    have HC := Lib.hid hc
    have HH := Lib.hid h
    have HE := Lib.hid hb
    have HF := Lib.hid wf.fuse
    have hne : b ≠ db := h.fne hb
    have HS : Hid (∀ w1, K0 w w1 → DAt w0 (w1.setCell ⟨b, 1, none⟩ (.int .i64 (oldF D s).bytes.size)) db ⟨D.room, D.used, D.fuse, aput D.files s ⟨(oldF D s).bytes, (oldF D s).bytes.size⟩⟩ mb (aput L s (b, ⟨(oldF D s).bytes, (oldF D s).bytes.size⟩))) := by
      show ∀ w1, _ → _
      intro w1 k1
      have h1 := h.keep k1
      have k2 : Keeps (fun k => k = b) w1 (w1.setCell ⟨b, 1, none⟩ (.int .i64 (oldF D s).bytes.size)) := (Keeps.refl (fun k => k = b) w1).setC 1 _ (fun _ => rfl)
      exact h1.set hb (x' := ⟨(oldF D s).bytes, (oldF D s).bytes.size⟩) (k2.mono fun _ _ e => .inl e) ((k2.block db (block_lt h1.blk) (fun e => hne e.symm)).trans h1.blk) (setCell_block (h1.fil s _ hb) 1 _)
    rw [if_pos he, he]
    clear h hb hc he wf
    go_enter Try.func12, Try.ntmps12
    go_wp2_with fail
    refine HC.out.mono ?_
    rintro e w1 ⟨rfl, k1⟩
    have b1 := (HH.out.keep k1).fil s _ HE.out
    have d0 := block_cell b1 0
    have d1 := block_cell b1 1
    have e1 := block_free b1 1
    have hlt1 := block_lt b1
    have HX := Lib.hid (HS.out w1 k1)
    have HKA := Lib.hid ((k1.mono (S1 := inD db mb L) (fun _ _ e => e.elim)).trans ((Keeps.refl (fun k => k = b) w1).setC 1 (.int .i64 (oldF D s).bytes.size) (fun _ => rfl)) (fun _ _ e => .inr (.inr ⟨s, _, HE.out, e.symm⟩)))
    clear k1 b1
    go_wp2_with fail
    refine (changed_at HX.out HF.out).mono ?_
    rintro e w2 ⟨rfl, h2, k4⟩
    have HR := Lib.hid (DNext.mk (InL.put HE.out _) h2 (HKA.out.trans k4 (fun _ _ e => .inl e)))
    clear h2 k4
    go_wp2
    go_ret
    exact ⟨rfl, HR.out⟩
  · have HC := Lib.hid (file_bad h s he)
    have HH := Lib.hid h
    rw [if_neg he]
    clear h
    go_enter Try.func12, Try.ntmps12
    go_wp2_with fail
    refine HC.out.mono ?_
    rintro e w1 ⟨rfl, k1⟩
    have HK := Lib.hid k1
    clear k1
    go_wp2
    go_ret
    exact ⟨rfl, DNext.same HH.out HK.out⟩
set_option maxRecDepth 100000 in
set_option maxHeartbeats 1000000 in
theorem cut_k (h : DAt w0 w db D mb L) (wf : WfD D) (s : ByteArray) (n : Int) : Calls Try.prog 20 #[.pointer (some ⟨db, 0, none⟩), .string s, .int .i64 n] w fun e w' => e = .returned (.int .i64 (dcutE D s n)) ∧ DNext w0 w db mb L (dcutC D s n) w' := by
  unfold dcutC dcutE
  by_cases he : fileE D s = 0
  · obtain ⟨b, hb, hc⟩ := file_at h s he
    have HC := Lib.hid hc
    have HH := Lib.hid h
    have HE := Lib.hid hb
    have HF := Lib.hid wf.fuse
    have HW := Lib.hid wf
    rw [if_pos he]
    by_cases hr : 0 ≤ n ∧ n ≤ (oldF D s).bytes.size
    · rw [if_pos hr, if_pos rfl]
      obtain ⟨m, rfl⟩ : ∃ m : Nat, n = m := ⟨n.toNat, by omega⟩
      have hr1 := hr.1
      have hr2 := hr.2
      have HM : Hid (m ≤ (oldF D s).bytes.size) := by show _ ≤ _; omega
      clear h hb hc he wf hr
      go_enter Try.func20, Try.ntmps20
      go_wp2_with fail
      refine HC.out.mono ?_
      rintro e w1 ⟨rfl, k1⟩
      have h1 := HH.out.keep k1
      have b1 := h1.fil s _ HE.out
      have d0 := block_cell b1 0
      have hlt1 := block_lt b1
      have HK := Lib.hid (keep_at h1 HW.out HE.out HM.out)
      have HKA := Lib.hid (k1.mono (S1 := inD db mb L) (fun _ _ e => e.elim))
      clear k1 b1 h1
      go_wp2_with fail
      refine HK.out.mono ?_
      rintro e w2 ⟨rfl, h2, k2⟩
      have HKB := Lib.hid (HKA.out.trans k2 (fun _ _ e => e.elim (fun e => .inr (.inr ⟨s, _, HE.out, e.symm⟩)) .inl))
      clear k2
      have HC2 := Lib.hid (changed_at h2 (by rw [keepD_fuse]; exact HF.out))
      clear h2
      go_wp2_with fail
      refine HC2.out.mono ?_
      rintro e w3 ⟨rfl, h3, k4⟩
      have HR := Lib.hid (DNext.mk (InL.put HE.out _) h3 (HKB.out.trans k4 (fun _ _ e => .inl e)))
      clear h3 k4
      go_wp2
      go_ret
      exact ⟨rfl, HR.out⟩
    · rw [if_neg hr, if_neg (by decide)]
      by_cases hr1 : n < 0
      · clear h hb hc he wf hr
        go_enter Try.func20, Try.ntmps20
        go_wp2_with fail
        refine HC.out.mono ?_
        rintro e w1 ⟨rfl, k1⟩
        have HR := Lib.hid (DNext.same HH.out k1)
        clear k1
        go_wp2
        go_ret
        exact ⟨rfl, HR.out⟩
      · have hr2 : ((oldF D s).bytes.size : Int) < n := by omega
        clear h hb hc he wf hr
        go_enter Try.func20, Try.ntmps20
        go_wp2_with fail
        refine HC.out.mono ?_
        rintro e w1 ⟨rfl, k1⟩
        have h1 := HH.out.keep k1
        have b1 := h1.fil s _ HE.out
        have d0 := block_cell b1 0
        have hlt1 := block_lt b1
        have HR := Lib.hid (DNext.same HH.out k1)
        clear k1 b1 h1
        go_wp2
        go_ret
        exact ⟨rfl, HR.out⟩
  · have HC := Lib.hid (file_bad h s he)
    have HH := Lib.hid h
    rw [if_neg he, if_neg he]
    clear h
    go_enter Try.func20, Try.ntmps20
    go_wp2_with fail
    refine HC.out.mono ?_
    rintro e w1 ⟨rfl, k1⟩
    have HK := Lib.hid k1
    clear k1
    go_wp2
    go_ret
    exact ⟨rfl, DNext.same HH.out HK.out⟩
set_option maxRecDepth 100000 in
set_option maxHeartbeats 2000000 in
theorem rename_free_k (h : DAt w0 w db D mb L) (wf : WfD D) (s t : ByteArray) (he : fileE D s = 0) (hn : namedB t = true) (hfr : aget L t = none) :
    Calls Try.prog 21 #[.pointer (some ⟨db, 0, none⟩), .string s, .string t] w fun e w' => e = .returned (.int .i64 0) ∧ DNext w0 w db mb L (burn ⟨D.room, D.used, D.fuse, aput (adel D.files s) t (oldF D s)⟩) w' := by
  obtain ⟨b, hb, hc⟩ := file_at h s he
  have HC := Lib.hid hc
  have HN := Lib.hid (named_is hn)
  have HH := Lib.hid h
  have HE := Lib.hid hb
  have HF := Lib.hid wf.fuse
  have HV : Hid (aget (avals fptr L) t = none) := by show _ = _; rw [aget_avals, hfr]; rfl
  clear h wf he hn hb hc hfr
  go_enter Try.func21, Try.ntmps21
  go_wp2_with fail
  refine HC.out.mono ?_
  rintro e w1 ⟨rfl, k1⟩
  have K1 := Lib.hid k1
  clear k1
  go_wp2_with fail
  refine (HN.out w1).mono ?_
  rintro e w2 ⟨rfl, k2⟩
  have h2 := HH.out.keep (K0.tr K1.out k2)
  have c3 := block_cell h2.blk 3
  have hlt := block_lt h2.blk
  have hm := Lib.hid h2.map
  have q3 : ∀ o, (setObjAt w2 mb o).cell? ⟨db, 3, none⟩ = some (.map (some mb)) := fun o => (setObj_keeps w2 mb o).cell' (block_cell h2.blk 3) h2.ne
  have H2 := Lib.hid h2
  have HKA := Lib.hid ((K0.tr K1.out k2).mono (S1 := inD db mb L) (fun _ _ e => e.elim))
  clear k2 h2
  go_wp2_with (first | (at_lookup; refine wpList_look (strKey Try.underlying9) rfl rfl Try.underlying57 zeroFile rfl t rfl hm.out _ HV.out ?_) | (at_delete; refine wpList_del (strKey Try.underlying9) rfl rfl Try.underlying57 rfl s rfl hm.out ?_; intro ob hM) | (at_mapUpdate; refine wpList_put (strKey Try.underlying9) rfl rfl Try.underlying57 rfl t rfl hM (.pointer (some ⟨b, 0, none⟩)) rfl ?_; intro ob2 hM2))
  have h3 := H2.out.move (set_twice _ _ ob ob2) HE.out t hM2
  have HC2 := Lib.hid (changed_at h3 HF.out)
  have HKB := Lib.hid (HKA.out.trans (set_twice w2 mb ob ob2) (fun _ _ e => .inr (.inl e)))
  clear h3 hM hM2
  refine HC2.out.mono ?_
  rintro e w3 ⟨rfl, h4, k4⟩
  have HR := Lib.hid (DNext.mk (InL.move HH.out.keys HE.out) h4 (HKB.out.trans k4 (fun _ _ e => .inl e)))
  clear h4 k4
  go_wp2
  go_ret
  exact ⟨rfl, HR.out⟩
set_option maxRecDepth 100000 in
set_option maxHeartbeats 2000000 in
theorem rename_self_k (h : DAt w0 w db D mb L) (wf : WfD D) (s : ByteArray) (he : fileE D s = 0) (hn : namedB s = true) :
    Calls Try.prog 21 #[.pointer (some ⟨db, 0, none⟩), .string s, .string s] w fun e w' => e = .returned (.int .i64 0) ∧ DNext w0 w db mb L (burn ⟨D.room, D.used, D.fuse, aput (adel D.files s) s (oldF D s)⟩) w' := by
  obtain ⟨b, hb, hc⟩ := file_at h s he
  have HC := Lib.hid hc
  have HN := Lib.hid (named_is hn)
  have HH := Lib.hid h
  have HE := Lib.hid hb
  have HF := Lib.hid wf.fuse
  have HV : Hid (aget (avals fptr L) s = some (.pointer (some ⟨b, 0, none⟩))) := by show _ = _; rw [aget_avals, hb]; rfl
  clear h wf he hn hb hc
  go_enter Try.func21, Try.ntmps21
  go_wp2_with fail
  refine HC.out.mono ?_
  rintro e w1 ⟨rfl, k1⟩
  have K1 := Lib.hid k1
  clear k1
  go_wp2_with fail
  refine (HN.out w1).mono ?_
  rintro e w2 ⟨rfl, k2⟩
  have h2 := HH.out.keep (K0.tr K1.out k2)
  have c3 := block_cell h2.blk 3
  have hlt := block_lt h2.blk
  have hm := Lib.hid h2.map
  have q3 : ∀ o, (setObjAt w2 mb o).cell? ⟨db, 3, none⟩ = some (.map (some mb)) := fun o => (setObj_keeps w2 mb o).cell' (block_cell h2.blk 3) h2.ne
  have hpe := neq_same w2 b
  have H2 := Lib.hid h2
  have HKA := Lib.hid ((K0.tr K1.out k2).mono (S1 := inD db mb L) (fun _ _ e => e.elim))
  clear k2 h2
  go_wp2_with (first | (at_lookup; refine wpList_look (strKey Try.underlying9) rfl rfl Try.underlying57 zeroFile rfl s rfl hm.out _ HV.out ?_) | (at_delete; refine wpList_del (strKey Try.underlying9) rfl rfl Try.underlying57 rfl s rfl hm.out ?_; intro ob hM) | (at_mapUpdate; refine wpList_put (strKey Try.underlying9) rfl rfl Try.underlying57 rfl s rfl hM (.pointer (some ⟨b, 0, none⟩)) rfl ?_; intro ob2 hM2))
  have h3 := H2.out.move (set_twice _ _ ob ob2) HE.out s hM2
  have HC2 := Lib.hid (changed_at h3 HF.out)
  have HKB := Lib.hid (HKA.out.trans (set_twice w2 mb ob ob2) (fun _ _ e => .inr (.inl e)))
  clear h3 hM hM2
  refine HC2.out.mono ?_
  rintro e w3 ⟨rfl, h4, k4⟩
  have HR := Lib.hid (DNext.mk (InL.move HH.out.keys HE.out) h4 (HKB.out.trans k4 (fun _ _ e => .inl e)))
  clear h4 k4
  go_wp2
  go_ret
  exact ⟨rfl, HR.out⟩
set_option maxRecDepth 100000 in
set_option maxHeartbeats 2000000 in
theorem rename_over_k (h : DAt w0 w db D mb L) (wf : WfD D) (s t : ByteArray) (he : fileE D s = 0) (hn : namedB t = true) (hne : s ≠ t) {c : Nat} {y : FileC} (hfr : aget L t = some (c, y)) :
    Calls Try.prog 21 #[.pointer (some ⟨db, 0, none⟩), .string s, .string t] w fun e w' => e = .returned (.int .i64 0) ∧ DNext w0 w db mb L (burn ⟨(keepD D t 0).room, (keepD D t 0).used, (keepD D t 0).fuse, aput (adel (keepD D t 0).files s) t (oldF D s)⟩) w' := by
  obtain ⟨b, hb, hc⟩ := file_at h s he
  have HC := Lib.hid hc
  have HN := Lib.hid (named_is hn)
  have HH := Lib.hid h
  have HE := Lib.hid hb
  have HT := Lib.hid hfr
  have HF := Lib.hid wf.fuse
  have HW := Lib.hid wf
  have HNE := Lib.hid hne
  have hbc : ¬ c = b := fun e => h.apart s t _ _ hb hfr hne e.symm
  have HV : Hid (aget (avals fptr L) t = some (.pointer (some ⟨c, 0, none⟩))) := by show _ = _; rw [aget_avals, hfr]; rfl
  clear h wf he hn hb hc hfr hne
  go_enter Try.func21, Try.ntmps21
  go_wp2_with fail
  refine HC.out.mono ?_
  rintro e w1 ⟨rfl, k1⟩
  have K1 := Lib.hid k1
  clear k1
  go_wp2_with fail
  refine (HN.out w1).mono ?_
  rintro e w2 ⟨rfl, k2⟩
  have h2 := HH.out.keep (K0.tr K1.out k2)
  have c3 := block_cell h2.blk 3
  have hlt := block_lt h2.blk
  have hm := Lib.hid h2.map
  have HK : Hid (Calls Try.prog 32 #[.pointer (some ⟨db, 0, none⟩), .pointer (some ⟨c, 0, none⟩), .int .i64 0] w2 fun e w' => KeepPost w0 db D mb L t c y 0 w2 e w') := keep_at h2 HW.out HT.out (n := 0) (Nat.zero_le _)
  have HKA := Lib.hid ((K0.tr K1.out k2).mono (S1 := inD db mb L) (fun _ _ e => e.elim))
  have hpe := neq_other w2 hbc (h2.fil t _ HT.out) (h2.fil s _ HE.out)
  clear k2 h2
  go_wp2_with (first | (at_lookup; refine wpList_look (strKey Try.underlying9) rfl rfl Try.underlying57 zeroFile rfl t rfl hm.out _ HV.out ?_))
  refine HK.out.mono ?_
  rintro e w4 ⟨rfl, h4, k5⟩
  have HKB := Lib.hid (HKA.out.trans k5 (fun _ _ e => e.elim (fun e => .inr (.inr ⟨t, _, HT.out, e.symm⟩)) .inl))
  clear k5
  have d3 := block_cell h4.blk 3
  have hlt4 := block_lt h4.blk
  have hm4 := Lib.hid h4.map
  have q3 : ∀ o, (setObjAt w4 mb o).cell? ⟨db, 3, none⟩ = some (.map (some mb)) := fun o => (setObj_keeps w4 mb o).cell' (block_cell h4.blk 3) h4.ne
  have H4 := Lib.hid h4
  have HE4 : Hid (aget (aput L t (c, keepF y 0)) s = some (b, oldF D s)) := by show _ = _; rw [aget_aput, if_neg (Ne.symm HNE.out)]; exact HE.out
  clear h4 c3 hlt hm
  go_wp2_with (first | (at_delete; refine wpList_del (strKey Try.underlying9) rfl rfl Try.underlying57 rfl s rfl hm4.out ?_; intro ob hM) | (at_mapUpdate; refine wpList_put (strKey Try.underlying9) rfl rfl Try.underlying57 rfl t rfl hM (.pointer (some ⟨b, 0, none⟩)) rfl ?_; intro ob2 hM2))
  have h5 := H4.out.move (set_twice _ _ ob ob2) HE4.out t hM2
  have HC2 := Lib.hid (changed_at h5 HF.out)
  have HKC := Lib.hid (HKB.out.trans (set_twice w4 mb ob ob2) (fun _ _ e => .inr (.inl e)))
  clear h5 hM hM2
  refine HC2.out.mono ?_
  rintro e w6 ⟨rfl, h6, k6⟩
  have HR := Lib.hid (DNext.mk ((InL.put HT.out _).trans (InL.move H4.out.keys HE4.out)) h6 (HKC.out.trans k6 (fun _ _ e => .inl e)))
  clear h6 k6
  go_wp2
  go_ret
  exact ⟨rfl, HR.out⟩
theorem rename_k (h : DAt w0 w db D mb L) (wf : WfD D) (s t : ByteArray) : Calls Try.prog 21 #[.pointer (some ⟨db, 0, none⟩), .string s, .string t] w fun e w' => e = .returned (.int .i64 (drenE D s t)) ∧ DNext w0 w db mb L (drenC D s t) w' := by
  by_cases he : drenE D s t = 0
  · have h1 : fileE D s = 0 ∧ namedB t = true := by
      unfold drenE at he
      split at he
      · rename_i h1
        split at he
        · rename_i h2; exact ⟨h1, h2⟩
        · cases he
      · rename_i h1; exact absurd he h1
    unfold drenC
    rw [if_pos he, he]
    by_cases hst : s = t
    · subst hst
      rw [clearD_none (.inl rfl)]
      exact rename_self_k h wf s h1.1 h1.2
    · cases hg : aget L t with
      | none =>
        rw [clearD_none (.inr (by rw [h.agetL, hg]; rfl))]
        exact rename_free_k h wf s t h1.1 h1.2 hg
      | some p =>
        obtain ⟨c, y⟩ := p
        rw [clearD_some hst (by rw [h.agetL, hg]; rfl)]
        exact rename_over_k h wf s t h1.1 h1.2 hst hg
  · have : drenC D s t = D := by unfold drenC; rw [if_neg he]
    rw [this]
    exact (rename_bad h s t he).mono fun e w' hq => ⟨hq.1, DNext.same h hq.2⟩
set_option maxRecDepth 100000 in
set_option maxHeartbeats 4000000 in
theorem crash_k (h : DAt w0 w db D mb L) (wf : WfD D) (keep : List Int) (a : Option Addr) (cap : Nat) (hI : Ints w (fun k => ¬ ofD db L k) a keep) (hl : D.files.length ≤ 1000) :
    Calls Try.prog 13 #[.pointer (some ⟨db, 0, none⟩), .slice a keep.length cap] w fun e w' => ∃ names, names.Perm (D.files.map (·.1)) ∧ e = .returned (.int .i64 (crashL keep D names).2) ∧ DNext w0 w db mb L (upD (crashL keep D names).1) w' ∧ (names.map fun s => s.data.toList).Pairwise (fun x y => x ≤ y) := by
  have c3 : w.cell? ⟨db, 3, none⟩ = some (.map (some mb)) := block_cell h.blk 3
  have hlt := block_lt h.blk
  have hLl : L.length = D.files.length := by rw [← h.core]; simp [amap]
  have HSR := Lib.hid (sorted_any h.map (h.small wf) (by simp [avals]; omega))
  have HKS := Lib.hid (keys_any (some mb) w)
  have HH := Lib.hid h
  have HI := Lib.hid hI
  have HW := Lib.hid wf
  have HKL := Lib.hid hI.len
  have HL := Lib.hid hl
  have hka : (avals fptr L).map (·.1) = D.files.map (·.1) := by rw [← h.core, amap_keys]; simp [avals, Function.comp_def]
  have HKA := Lib.hid hka
  have HBASE : Hid (∀ q, ofD db L q → q < w.heap.size + 1) := fun q e => Nat.lt_succ_of_lt (ofD_lt h e)
  have hmem : Hid (∀ (ss : List ByteArray), ss.Perm (D.files.map (·.1)) → ∀ s ∈ ss, (aget D.files s).isSome = true) := by
    show ∀ ss : List ByteArray, _ → _
    intro ss hp s hs
    have := hp.mem_iff.1 hs
    obtain ⟨q, hq, rfl⟩ := List.mem_map.1 this
    rw [aget_of_mem wf.keys hq]
    rfl
  clear h wf hI hl hLl hka
  go_enter Try.func13, Try.ntmps13
  go_wp2_with fail
  refine HKS.out.mono ?_
  rintro e w1 ⟨rfl, rfl⟩
  go_wp2_with fail
  refine HSR.out.mono ?_
  rintro e w1 ⟨v, ss, rfl, hN, k1⟩
  have hpm : ss.Perm (D.files.map (·.1)) := by rw [← HKA.out]; exact hN.perm
  have HPM := Lib.hid hpm
  have HIN := Lib.hid (hmem.out ss hpm)
  have hrow := hN.row
  have HORD := Lib.hid hN.ord
  have HN := Lib.hid hN
  have K1 := Lib.hid (K0.tr ((Keeps.refl (fun _ => False) w).alloc _) k1)
  obtain ⟨a0, c0, rfl⟩ : ∃ a0 c0, v = .slice a0 ss.length c0 := by
    rcases hrow.2 with ⟨h1, h2⟩ | ⟨r, cp, cur, h1, _⟩
    · rw [h1, h2]; exact ⟨_, _, rfl⟩
    · exact ⟨_, _, h1⟩
  have HR0 : Hid (CRel w0 w db mb D L keep ss (w.heap.size + 1) (.slice a0 ss.length c0) 0 w1) := by
    show CRel _ _ _ _ _ _ _ _ _ _ _ _
    refine ⟨L, ?_, fun s p e => ⟨p, e, rfl⟩, K1.out.mono (fun _ _ e => e.elim), hrow⟩
    show DAt w0 w1 db D mb L
    exact HH.out.keep K1.out
  have hsl : ss.length ≤ 1000 := by have := hpm.length_eq; have := HL.out; simp at *; omega
  clear hN hrow k1 hpm c3 hlt
  go_wp2
  go_loopw [5, 19] (fun n i wr => ∃ k : Nat, i = .int .i64 k ∧ k ≤ ss.length ∧ n = .int .i64 (crashL keep D (ss.take k)).2 ∧ CRel w0 w db mb D L keep ss (w.heap.size + 1) (.slice a0 ss.length c0) k wr) (fun _ i _ => ss.length - (intOf i).toNat)
  case atStart => exact ⟨0, rfl, Nat.zero_le _, rfl, HR0.out⟩
  case round =>
    obtain ⟨k, rfl, hk, rfl, hr⟩ := hrel
    by_cases hkl : k < ss.length
    · have HR := Lib.hid hr
      obtain ⟨L', hd, hin, h3, h4⟩ := hr
      have hwf := (crashL_ok (keep := keep) HW.out HIN.out k hk)
      obtain ⟨x, hx⟩ := Option.isSome_iff_exists.1 ((hwf.2 ss[k]).trans (HIN.out ss[k] (List.getElem_mem _)))
      have ho : oldF (crashL keep D (ss.take k)).1 ss[k] = x := by simp [oldF, hx]
      obtain ⟨b, hb⟩ := hd.some hx
      have hsf := hwf.1.safe _ _ hx
      have hsz := hwf.1.size hx
      obtain ⟨g, rfl⟩ : ∃ g, a0 = some ⟨g, 0, none⟩ := by
        rcases h4.2 with ⟨_, h2⟩ | ⟨r, cp, cur, h1, _⟩
        · omega
        · simp only [Value.slice.injEq] at h1
          exact ⟨r, h1.1⟩
      have hc : wr.cell? ⟨g, k, none⟩ = some (.string ss[k]) := by
        rw [h4.cellAt k (by omega), List.getElem?_map, List.getElem?_eq_getElem hkl]
        rfl
      have d3 : wr.cell? ⟨db, 3, none⟩ = some (.map (some mb)) := block_cell hd.blk 3
      have hlt := block_lt hd.blk
      have hltg := (h4.lt g rfl).2
      have hm := Lib.hid hd.map
      have HV : Hid (aget (avals fptr L') ss[k] = some (.pointer (some ⟨b, 0, none⟩))) := by show _ = _; rw [aget_avals, hb]; rfl
      have hf := hd.fil _ _ hb
      have e0 : wr.cell? ⟨b, 0, none⟩ = some (.string x.bytes) := block_cell hf 0
      have e1 : wr.cell? ⟨b, 1, none⟩ = some (.int .i64 x.safe) := block_cell hf 1
      have hltb := block_lt hf
      have HD := Lib.hid hd
      have HINL := Lib.hid hin
      have HB := Lib.hid hb
      have H3 := Lib.hid h3
      have H4 := Lib.hid h4
      have HO := Lib.hid ho
      have HWF := Lib.hid hwf.1
      have HXX := Lib.hid hx
      have HC : Hid ((crashL keep D (ss.take k)).2 ≤ k) := by
        show _ ≤ _
        have := crashL_n keep (ss.take k) (D, 0)
        simp only [List.length_take] at this
        unfold crashL
        omega
      generalize hcn : (crashL keep D (ss.take k)).2 = cn at HC ⊢
      have HCN := Lib.hid hcn
      clear hd hin h3 h4 hf hx hwf ho hb hcn
      by_cases hs : x.safe = x.bytes.size
      · have HSK := Lib.hid (CRel.skip hkl HR.out HO.out hs)
        rw [hs] at e1
        clear hsf
        go_wp2_with (at_lookup; refine wpList_look (strKey Try.underlying9) rfl rfl Try.underlying57 zeroFile rfl _ rfl hm.out _ HV.out ?_)
        go_quiet (fail)
        go_wp2
        go_roundw
        case rel => exact ⟨k + 1, by go_num, by omega, by rw [HSK.out.2, HCN.out], HSK.out.1.same ((Keeps.refl _ _).drewN _)⟩
        case measure => simp [intOf]; omega
      · obtain ⟨bs, sf⟩ := x
        obtain ⟨m, rfl⟩ : ∃ m : Nat, sf = m := ⟨sf.toNat, by have := hsf.1; show sf = _; simp only at this; omega⟩
        simp only at hs hsf hsz e0 e1
        have HS := Lib.hid hs
        have hmle : m < bs.size := by omega
        have HKP : Hid (∀ N wx, N ≤ bs.size → K0 wr wx → Calls Try.prog 32 #[.pointer (some ⟨db, 0, none⟩), .pointer (some ⟨b, 0, none⟩), .int .i64 (N : Nat)] wx fun e w' => KeepPost w0 db (crashL keep D (ss.take k)).1 mb L' ss[k] b ⟨bs, m⟩ N wx e w') :=
          fun N wx hN hkx => keep_at (HD.out.keep hkx) HWF.out HB.out hN
        have HST : Hid (∀ N w5 wx, K0 wr wx → DAt w0 w5 db (keepD (crashL keep D (ss.take k)).1 ss[k] N) mb (aput L' ss[k] (b, keepF ⟨bs, m⟩ N)) → Keeps (fun q => q = b ∨ q = db) wx w5 → N = m + kOf keep cn ⟨bs, m⟩ →
            CRel w0 w db mb D L keep ss (w.heap.size + 1) (.slice (some ⟨g, 0, none⟩) ss.length c0) (k + 1) (w5.setCell ⟨b, 1, none⟩ (.int .i64 (keepF ⟨bs, m⟩ N).bytes.size)) ∧ (crashL keep D (ss.take (k + 1))).2 = cn + 1) := by
          show ∀ N w5 wx, _ → _ → _ → _ → _
          intro N w5 wx hkx hp hk5 hN
          rw [← HCN.out]
          exact CRel.step hkl HINL.out H3.out H4.out HBASE.out HB.out hp (by have := (hkx.mono (S1 := fun q => q = b ∨ q = db) (fun _ _ e => e.elim)).trans hk5 (fun _ _ e => e); exact this) HO.out HS.out (by rw [hN, HCN.out]; rfl)
        have HKO := Lib.hid (rfl : kOf keep cn ⟨bs, m⟩ = kOf keep cn ⟨bs, m⟩)
        clear hm HR
        have hs' : ¬ (m : Int) = bs.size := hs
        clear hs hsf
        have hmx : cn ≤ 1000 := by have := HC.out; omega
        by_cases hcl : cn < keep.length
        · obtain ⟨kb, koff, rfl, hkb1, hkb2, hkc⟩ := HI.out.row (by intro e; rw [e] at hcl; exact absurd hcl (Nat.not_lt_zero _))
          have hq := H3.out.cell' (hkc cn hcl).1 hkb2
          have hvr := (hkc cn hcl).2
          have hkb3 : kb < wr.heap.size := Nat.lt_of_lt_of_le hkb1 H3.out.size
          have hkl2 := HKL.out
          have hgv : keep[cn]? = some keep[cn] := List.getElem?_eq_getElem hcl
          generalize hvv : keep[cn] = v at hq hvr hgv
          have HGV := Lib.hid hgv
          have hkl3 : keep.length ≤ 9223372036854775807 := by unfold maxLen at hkl2; omega
          clear hkc hkb2 hvv hgv HKL hkl2
          obtain ⟨N, hNe⟩ : ∃ N : Nat, (N : Int) = m + min (max v 0) (bs.size - m) := ⟨(m + min (max v 0) (bs.size - m) : Int).toNat, by omega⟩
          have HNL : Hid (N ≤ bs.size) := by show _ ≤ _; omega
          have HNE : Hid (N = m + kOf keep cn ⟨bs, m⟩) := by show _ = _; unfold kOf; rw [HGV.out]; simp only; omega
          have HKX : Hid (∀ wx, K0 wr wx → Calls Try.prog 32 #[.pointer (some ⟨db, 0, none⟩), .pointer (some ⟨b, 0, none⟩), .int .i64 (m + min (max v 0) (bs.size - m))] wx fun e w' => KeepPost w0 db (crashL keep D (ss.take k)).1 mb L' ss[k] b ⟨bs, m⟩ N wx e w') := by
            show ∀ wx, _ → _
            intro wx hkx
            have := HKP.out N wx HNL.out hkx
            rw [hNe] at this
            exact this
          clear hNe
          go_wp2_with (at_lookup; refine wpList_look (strKey Try.underlying9) rfl rfl Try.underlying57 zeroFile rfl _ rfl HD.out.map _ HV.out ?_)
          go_quiet (fail)
          go_wp2
          go_quiet (fail)
          go_wp2_with fail
          refine (HKX.out _ ((Keeps.refl _ _).drewN _)).mono ?_
          rintro e w5 ⟨rfl, hp, hk5⟩
          have hst := HST.out N w5 _ ((Keeps.refl _ _).drewN _) hp hk5 HNE.out
          have hfy := hp.fil ss[k] (b, keepF ⟨bs, m⟩ N) (by rw [aget_aput, if_pos rfl])
          generalize hy : keepF ⟨bs, (m : Int)⟩ N = y at hst hfy
          have y0 : w5.cell? ⟨b, 0, none⟩ = some (.string y.bytes) := block_cell hfy 0
          have y1 : w5.cell? ⟨b, 1, none⟩ = some (.int .i64 y.safe) := block_cell hfy 1
          have y2 := block_free hfy 1
          have hlt5 := block_lt hfy
          have HSX := Lib.hid hst
          clear hp hk5 hst hfy hy
          go_wp2
          go_roundw
          case rel => exact ⟨k + 1, by go_num, by omega, by rw [HSX.out.2]; go_num, HSX.out.1⟩
          case measure => simp [intOf]; omega
        · have HNL : Hid (m ≤ bs.size) := by show _ ≤ _; omega
          have HNE : Hid (m = m + kOf keep cn ⟨bs, m⟩) := by show _ = _; unfold kOf; rw [List.getElem?_eq_none (by omega)]; simp
          go_wp2_with (at_lookup; refine wpList_look (strKey Try.underlying9) rfl rfl Try.underlying57 zeroFile rfl _ rfl HD.out.map _ HV.out ?_)
          go_quiet (fail)
          go_wp2_with fail
          refine (HKP.out m _ HNL.out ((Keeps.refl _ _).drewN _)).mono ?_
          rintro e w5 ⟨rfl, hp, hk5⟩
          have hst := HST.out m w5 _ ((Keeps.refl _ _).drewN _) hp hk5 HNE.out
          have hfy := hp.fil ss[k] (b, keepF ⟨bs, m⟩ m) (by rw [aget_aput, if_pos rfl])
          generalize hy : keepF ⟨bs, (m : Int)⟩ m = y at hst hfy
          have y0 : w5.cell? ⟨b, 0, none⟩ = some (.string y.bytes) := block_cell hfy 0
          have y1 : w5.cell? ⟨b, 1, none⟩ = some (.int .i64 y.safe) := block_cell hfy 1
          have y2 := block_free hfy 1
          have hlt5 := block_lt hfy
          have HSX := Lib.hid hst
          clear hp hk5 hst hfy hy
          go_wp2
          go_roundw
          case rel => exact ⟨k + 1, by go_num, by omega, by rw [HSX.out.2]; go_num, HSX.out.1⟩
          case measure => simp [intOf]; omega
    · obtain rfl : k = ss.length := by omega
      obtain ⟨L', hd, hin, h3, h4⟩ := hr
      have f2 := block_free hd.blk 2
      have e2 := block_cell hd.blk 2
      have hlt := block_lt hd.blk
      have HU := Lib.hid (up_cell hd)
      have htk : ss.take ss.length = ss := List.take_length
      rw [htk] at HU ⊢
      have HPM2 := HPM
      have HKF := Lib.hid ((h3.mono (S1 := inD db mb L) (fun _ _ e => e.elim .inl (fun e => .inr (.inr e)))).setC (b := db) 2 (.int .i64 (-1)) (fun _ => .inl rfl))
      have HIL : Hid (InL L L') := fun s p e => (hin s p e).elim fun q hq => ⟨s, q, hq.1, hq.2⟩
      generalize hcn : (crashL keep D ss).2 = cn
      have HCN := Lib.hid hcn
      clear hd hin h3 h4 htk hcn
      go_wp2
      go_ret
      exact ⟨ss, HPM.out, by rw [HCN.out]; rfl, DNext.mk HIL.out HU.out HKF.out, HORD.out⟩
end
end Go.Proofs.Ytjfblcmpdcbpgaa
