/-
  A disk's Drop and Append, and that they leave all but the disk's own blocks as they were.
-/
import Derived.Test.YtjfblcmpdcbpgaaDj
namespace Go.Proofs.Ytjfblcmpdcbpgaa
open Go.RowKit Fx

/-- The blocks of a disk, its map too. -/
def inD (db mb : Nat) (L : List (ByteArray × (Nat × FileC))) (k : Nat) : Prop := k = db ∨ k = mb ∨ ∃ s p, aget L s = some p ∧ p.1 = k
/-- Behind a call on a disk: its map's block is the same, its files' blocks are those it had or new ones, all else is as it was. -/
def DNext (w0 w : World) (db mb : Nat) (L : List (ByteArray × (Nat × FileC))) (D : DiskC) (w' : World) : Prop :=
  ∃ L', DAt w0 w' db D mb L' ∧ (∀ s p, aget L' s = some p → (∃ t q, aget L t = some q ∧ q.1 = p.1) ∨ w.heap.size ≤ p.1) ∧ Keeps (inD db mb L) w w'
section
variable {w0 w : World} {db mb : Nat} {D : DiskC} {L : List (ByteArray × (Nat × FileC))}
set_option maxRecDepth 100000 in
set_option maxHeartbeats 1000000 in
theorem drop_k (h : DAt w0 w db D mb L) (wf : WfD D) (s : ByteArray) : Calls Try.prog 16 #[.pointer (some ⟨db, 0, none⟩), .string s] w fun e w' => e = .returned (.int .i64 (fileE D s)) ∧ DNext w0 w db mb L (ddropC D s) w' := by
  unfold ddropC
  by_cases he : fileE D s = 0
  · obtain ⟨b, hb, hc⟩ := file_at h s he
    obtain ⟨x, hx⟩ := fileE_zero he
    have ho : oldF D s = x := by simp [oldF, hx]
    have HC := Lib.hid hc
    have HH := Lib.hid h
    have HE := Lib.hid hb
    have HF := Lib.hid wf.fuse
    have HW := Lib.hid wf
    have HD : Hid ((⟨(keepD D s 0).room, (keepD D s 0).used, (keepD D s 0).fuse, adel (keepD D s 0).files s⟩ : DiskC) = ⟨D.room, D.used - (oldF D s).bytes.size, D.fuse, adel D.files s⟩) := by
      show _ = _
      simp [keepD, adel_aput hx]
    rw [if_pos he, he]
    clear h hb hc he wf hx ho
    go_enter Try.func16, Try.ntmps16
    go_wp2_with fail
    refine HC.out.mono ?_
    rintro e w1 ⟨rfl, k1⟩
    have HK : Hid (Calls Try.prog 32 #[.pointer (some ⟨db, 0, none⟩), .pointer (some ⟨b, 0, none⟩), .int .i64 0] w1 fun e w' => KeepPost w0 db D mb L s b (oldF D s) 0 w1 e w') := keep_at (HH.out.keep k1) HW.out HE.out (n := 0) (Nat.zero_le _)
    have HKA := Lib.hid (k1.mono (S1 := inD db mb L) (fun _ _ e => e.elim))
    clear k1
    go_wp2_with fail
    refine HK.out.mono ?_
    rintro e w2 ⟨rfl, h2, k2⟩
    have HKB := Lib.hid (HKA.out.trans k2 (fun _ _ e => e.elim (fun e => .inr (.inr ⟨s, _, HE.out, e.symm⟩)) .inl))
    clear k2
    have c3 := block_cell h2.blk 3
    have hlt := block_lt h2.blk
    have hm := Lib.hid h2.map
    have H2 := Lib.hid h2
    clear h2
    go_wp2_with (at_delete; refine wpList_del (strKey Try.underlying9) rfl rfl Try.underlying57 rfl s rfl hm.out ?_; intro ob hM)
    have h3 := H2.out.del (setObj_keeps _ _ ob) s hM
    rw [HD.out] at h3
    have HC2 := Lib.hid (changed_at h3 HF.out)
    have HKC := Lib.hid (HKB.out.trans (setObj_keeps w2 mb ob) (fun _ _ e => .inr (.inl e)))
    clear h3 hM
    refine HC2.out.mono ?_
    rintro e w3 ⟨rfl, h4, k4⟩
    have HKD := Lib.hid (HKC.out.trans k4 (fun _ _ e => .inl e))
    clear k4
    have HR := Lib.hid h4
    clear h4
    go_wp2
    go_ret
    refine ⟨rfl, _, HR.out, fun t p e => ?_, HKD.out⟩
    rw [aget_adel (HH.out.keys.put _ _)] at e
    split at e
    · cases e
    · rw [aget_aput] at e
      split at e
      · rename_i h1 h2; exact absurd h2 h1
      · exact .inl ⟨t, p, e, rfl⟩
  · have HC := Lib.hid (file_bad h s he)
    have HH := Lib.hid h
    rw [if_neg he]
    clear h
    go_enter Try.func16, Try.ntmps16
    go_wp2_with fail
    refine HC.out.mono ?_
    rintro e w1 ⟨rfl, k1⟩
    have HK := Lib.hid k1
    clear k1
    go_wp2
    go_ret
    exact ⟨rfl, _, HH.out.keep HK.out, fun t p e => .inl ⟨t, p, e, rfl⟩, HK.out.mono (fun _ _ e => e.elim)⟩
set_option maxRecDepth 100000 in
set_option maxHeartbeats 2000000 in
theorem append_found_k (h : DAt w0 w db D mb L) (wf : WfD D) (s t : ByteArray) (he : dappE D s t = 0) {b : Nat} {x : FileC} (e : aget L s = some (b, x)) :
    Calls Try.prog 11 #[.pointer (some ⟨db, 0, none⟩), .string s, .string t] w fun e w' => e = .returned (.int .i64 0) ∧ DNext w0 w db mb L (dappC D s t) w' := by
  have hx : aget D.files s = some x := by rw [h.agetL, e]; rfl
  have ho : oldF D s = x := by simp [oldF, hx]
  obtain ⟨q1, q2, q3⟩ := dappE_ok he
  unfold dappC
  rw [if_pos he, ho]
  have HH := Lib.hid h
  have HA := Lib.hid (asked_up h q1)
  have HN := Lib.hid (named_is q2)
  have HE := Lib.hid e
  have HF := Lib.hid wf.fuse
  have z2 : 0 ≤ D.used ∧ D.used ≤ 4194304 ∧ D.room ≤ 4194304 := by
    have := wf.used
    have := wf.most
    have := wf.room
    omega
  have z3 : x.bytes.size ≤ 4194304 := wf.size hx
  have z4 : t.size ≤ 4194304 := by omega
  have hne : b ≠ db := h.fne e
  have hne2 : db ≠ b := fun e => hne e.symm
  have HV : Hid (aget (avals fptr L) s = some (.pointer (some ⟨b, 0, none⟩))) := by show _ = _; rw [aget_avals, e]; rfl
  have q4 : ¬ D.room < D.used + t.size := by omega
  clear h wf he e hx ho q1 q2
  go_enter Try.func11, Try.ntmps11
  go_wp2_with fail
  refine HA.out.mono ?_
  rintro e w1 ⟨rfl, k1⟩
  have K1 := Lib.hid k1
  clear k1
  go_wp2_with fail
  refine (HN.out w1).mono ?_
  rintro e w2 ⟨rfl, k2⟩
  have h2 := HH.out.keep (K0.tr K1.out k2)
  have b2 := h2.blk
  have c0 := block_cell b2 0
  have c1 := block_cell b2 1
  have c3 := block_cell b2 3
  have g1 := block_free b2 1
  have hlt := block_lt b2
  have f2 := h2.fil s _ HE.out
  have d0 := block_cell f2 0
  have e0 := block_free f2 0
  have hltb := block_lt f2
  have H2 := Lib.hid h2
  have HKP : Hid (∀ n, Keeps (inD db mb L) w (((w2.drewN n).setCell ⟨b, 0, none⟩ (.string (x.bytes ++ t))).setCell ⟨db, 1, none⟩ (.int .i64 (D.used + t.size)))) := fun n =>
    ((((K0.tr K1.out k2).mono (S1 := inD db mb L) (fun _ _ e => e.elim)).drewN n).setC 0 _ (fun _ => .inr (.inr ⟨s, _, HE.out, rfl⟩))).setC 1 _ (fun _ => .inl rfl)
  clear k2 b2 h2 f2
  go_wp2
  go_quiet (fail)
  have hm := Lib.hid (H2.out.keep ((Keeps.refl (fun _ => False) w2).drewN 1)).map
  have HX : Hid (∀ n, DAt w0 (((w2.drewN n).setCell ⟨b, 0, none⟩ (.string (x.bytes ++ t))).setCell ⟨db, 1, none⟩ (.int .i64 (D.used + t.size))) db ⟨D.room, D.used + t.size, D.fuse, aput D.files s ⟨x.bytes ++ t, x.safe⟩⟩ mb (aput L s (b, ⟨x.bytes ++ t, x.safe⟩))) :=
    fun n => app_cells (H2.out.keep ((Keeps.refl (fun _ => False) w2).drewN n)) HE.out _ _
  go_wp2_with (at_lookup; refine wpList_look (strKey Try.underlying9) rfl rfl Try.underlying57 zeroFile rfl s rfl (H2.out.keep ((Keeps.refl (fun _ => False) w2).drewN _)).map _ HV.out ?_)
  refine (changed_at (HX.out _) HF.out).mono ?_
  rintro e w3 ⟨rfl, h3, k3⟩
  have HKD := Lib.hid ((HKP.out _).trans k3 (fun _ _ e => .inl e))
  clear k3
  have HR := Lib.hid h3
  clear h3
  go_wp2
  go_ret
  refine ⟨rfl, _, HR.out, fun u p e => ?_, HKD.out⟩
  rw [aget_aput] at e
  split at e
  · cases e; exact .inl ⟨s, _, HE.out, rfl⟩
  · exact .inl ⟨u, p, e, rfl⟩
set_option maxRecDepth 100000 in
set_option maxHeartbeats 2000000 in
theorem append_new_k (h : DAt w0 w db D mb L) (wf : WfD D) (s t : ByteArray) (he : dappE D s t = 0) (e : aget L s = none) :
    Calls Try.prog 11 #[.pointer (some ⟨db, 0, none⟩), .string s, .string t] w fun e w' => e = .returned (.int .i64 0) ∧ DNext w0 w db mb L (dappC D s t) w' := by
  have hx : aget D.files s = none := by rw [h.agetL, e]; rfl
  have ho : oldF D s = noFile := by simp [oldF, hx]
  obtain ⟨q1, q2, q3⟩ := dappE_ok he
  unfold dappC
  rw [if_pos he, ho]
  have HH := Lib.hid h
  have HA := Lib.hid (asked_up h q1)
  have HN := Lib.hid (named_is q2)
  have HE := Lib.hid e
  have HF := Lib.hid wf.fuse
  have z2 : 0 ≤ D.used ∧ D.used ≤ 4194304 ∧ D.room ≤ 4194304 := by
    have := wf.used
    have := wf.most
    have := wf.room
    omega
  have z4 : t.size ≤ 4194304 := by omega
  have HV : Hid (aget (avals fptr L) s = none) := by show _ = _; rw [aget_avals, e]; rfl
  have q4 : ¬ D.room < D.used + t.size := by omega
  clear h wf he e hx ho q1 q2
  go_enter Try.func11, Try.ntmps11
  go_wp2_with fail
  refine HA.out.mono ?_
  rintro e w1 ⟨rfl, k1⟩
  have K1 := Lib.hid k1
  clear k1
  go_wp2_with fail
  refine (HN.out w1).mono ?_
  rintro e w2 ⟨rfl, k2⟩
  have h2 := HH.out.keep (K0.tr K1.out k2)
  have b2 := h2.blk
  have c0 := block_cell b2 0
  have c1 := block_cell b2 1
  have c3 := block_cell b2 3
  have g1 := block_free b2 1
  have hlt := block_lt b2
  have H2 := Lib.hid h2
  have HKA := Lib.hid (K0.tr K1.out k2)
  clear k2 b2 h2
  go_wp2
  go_quiet (fail)
  rename_i nq
  have H3 : Hid (DAt w0 (w2.drewN nq) db D mb L) := H2.out.keep ((Keeps.refl (fun _ => False) w2).drewN nq)
  have HKB : Hid (K0 w (w2.drewN nq)) := HKA.out.drewN nq
  clear c0 c1 c3 g1 hlt H2
  generalize w2.drewN nq = w3 at H3 HKB ⊢
  have b3 := H3.out.blk
  have c1 := block_cell b3 1
  have c3 := block_cell b3 3
  have hlt := block_lt b3
  have hltm := H3.out.map.lt
  have hnb : ¬ w3.heap.size = db := by omega
  have hnb2 : ¬ db = w3.heap.size := by omega
  have HK : Hid (K0 w3 (w3.alloc (.cells #[.string ⟨#[]⟩, .int .i64 0] 65))) := (Keeps.refl (fun _ => False) w3).alloc _
  have hm0 := Lib.hid (H3.out.map.keep HK.out (fun e => e))
  have HB : Hid ((w3.alloc (.cells #[.string ⟨#[]⟩, .int .i64 0] 65)).heap[w3.heap.size]? = some (.cells #[.string ⟨#[]⟩, .int .i64 0] 65 (0, 0))) := heap_new _ _ _ rfl
  have hbo : ∀ o, (setObjAt (w3.alloc (.cells #[.string ⟨#[]⟩, .int .i64 0] 65)) mb o).heap[w3.heap.size]? = some (.cells #[.string ⟨#[]⟩, .int .i64 0] 65 (0, 0)) := fun o => (setObjAt_other _ _ (by omega)).trans HB.out
  have hdo : ∀ o, (setObjAt (w3.alloc (.cells #[.string ⟨#[]⟩, .int .i64 0] 65)) mb o).heap[db]? = some (.cells #[.int .i64 D.room, .int .i64 D.used, .int .i64 D.fuse, .map (some mb)] 59 (0, 0)) := fun o => (setObjAt_other _ _ H3.out.ne).trans ((HK.out.block db hlt (fun e => e)).trans b3)
  have q1 : ∀ o, (setObjAt (w3.alloc (.cells #[.string ⟨#[]⟩, .int .i64 0] 65)) mb o).cell? ⟨w3.heap.size, 0, none⟩ = some (.string ⟨#[]⟩) := fun o => block_cell (hbo o) 0
  have q2 : ∀ o, (setObjAt (w3.alloc (.cells #[.string ⟨#[]⟩, .int .i64 0] 65)) mb o).frozen? ⟨w3.heap.size, 0, none⟩ = false := fun o => block_free (hbo o) 0
  have q5 : ∀ o, (setObjAt (w3.alloc (.cells #[.string ⟨#[]⟩, .int .i64 0] 65)) mb o).cell? ⟨db, 1, none⟩ = some (.int .i64 D.used) := fun o => block_cell (hdo o) 1
  have q6 : ∀ o, (setObjAt (w3.alloc (.cells #[.string ⟨#[]⟩, .int .i64 0] 65)) mb o).frozen? ⟨db, 1, none⟩ = false := fun o => block_free (hdo o) 1
  have HX : Hid (∀ o, MapAt .string (setObjAt (w3.alloc (.cells #[.string ⟨#[]⟩, .int .i64 0] 65)) mb o) mb (aput (avals fptr L) s (.pointer (some ⟨w3.heap.size, 0, none⟩))) →
      DAt w0 (((setObjAt (w3.alloc (.cells #[.string ⟨#[]⟩, .int .i64 0] 65)) mb o).setCell ⟨w3.heap.size, 0, none⟩ (.string (⟨#[]⟩ ++ t))).setCell ⟨db, 1, none⟩ (.int .i64 (D.used + t.size))) db ⟨D.room, D.used + t.size, D.fuse, aput D.files s ⟨noFile.bytes ++ t, noFile.safe⟩⟩ mb (aput (aput L s (w3.heap.size, noFile)) s (w3.heap.size, ⟨⟨#[]⟩ ++ t, 0⟩))) := by
    show ∀ o, _ → _
    intro o hmo
    have h5 := H3.out.add (x := noFile) HE.out HK.out (Nat.le_refl _) HB.out hmo
    have h6 := app_cells h5 (s := s) (b := w3.heap.size) (x := noFile) (by rw [aget_aput, if_pos rfl]) (⟨#[]⟩ ++ t) (D.used + t.size)
    rw [aput_aput] at h6
    exact h6
  clear b3 hbo hdo
  go_wp2_with (first | (at_lookup; refine wpList_look (strKey Try.underlying9) rfl rfl Try.underlying57 zeroFile rfl s rfl H3.out.map _ HV.out ?_) | (at_mapUpdate; refine wpList_put (strKey Try.underlying9) rfl rfl Try.underlying57 rfl s rfl hm0.out (.pointer (some ⟨w3.heap.size, 0, none⟩)) rfl ?_; intro ob hM))
  have HKP : Hid (Keeps (inD db mb L) w (((setObjAt (w3.alloc (.cells #[.string ⟨#[]⟩, .int .i64 0] 65)) mb ob).setCell ⟨w3.heap.size, 0, none⟩ (.string (⟨#[]⟩ ++ t))).setCell ⟨db, 1, none⟩ (.int .i64 (D.used + t.size)))) :=
    (((((HKB.out.mono (S1 := inD db mb L) (fun _ _ e => e.elim)).alloc _).setObj (fun _ => .inr (.inl rfl)) ob).setC 0 _ (fun e => absurd e (by have := HKB.out.size; omega))).setC 1 _ (fun _ => .inl rfl))
  have HY := HX.out ob hM
  have HZ := Lib.hid (changed_at HY HF.out)
  clear HY hM
  refine HZ.out.mono ?_
  rintro e w5 ⟨rfl, h5, k5⟩
  have HKD := Lib.hid (HKP.out.trans k5 (fun _ _ e => .inl e))
  clear k5
  have HR := Lib.hid h5
  clear h5
  go_wp2
  go_ret
  refine ⟨rfl, _, HR.out, fun u p e => ?_, HKD.out⟩
  rw [aget_aput] at e
  split at e
  · cases e; exact .inr HKB.out.size
  · rename_i h1
    rw [aget_aput] at e
    split at e
    · rename_i h2; exact absurd h2 h1
    · exact .inl ⟨u, p, e, rfl⟩
theorem append_k (h : DAt w0 w db D mb L) (wf : WfD D) (s t : ByteArray) (ht : t.size ≤ 1000000) : Calls Try.prog 11 #[.pointer (some ⟨db, 0, none⟩), .string s, .string t] w fun e w' => e = .returned (.int .i64 (dappE D s t)) ∧ DNext w0 w db mb L (dappC D s t) w' := by
  by_cases he : dappE D s t = 0
  · rw [he]
    cases hg : aget L s with
    | none => exact append_new_k h wf s t he hg
    | some p => exact append_found_k h wf s t he hg
  · have : dappC D s t = D := by unfold dappC; rw [if_neg he]
    rw [this]
    exact (append_bad h wf s t ht he).mono fun e w' hq => ⟨hq.1, _, h.keep hq.2, fun t p e => .inl ⟨t, p, e, rfl⟩, hq.2.mono (fun _ _ e => e.elim)⟩
end
end Go.Proofs.Ytjfblcmpdcbpgaa
