/-
  A disk's Append, Rename.
-/
import Derived.Test.YtjfblcmpdcbpgaaDd
namespace Go.Proofs.Ytjfblcmpdcbpgaa
open Go.RowKit Fx

section
variable {w0 w : World} {db mb : Nat} {D : DiskC} {L : List (ByteArray × (Nat × FileC))}
/-- A file's bytes and the disk's used bytes have turned. -/
theorem app_cells (h : DAt w0 w db D mb L) {s : ByteArray} {b : Nat} {x : FileC} (e : aget L s = some (b, x)) (t : ByteArray) (u : Int) :
    DAt w0 ((w.setCell ⟨b, 0, none⟩ (.string t)).setCell ⟨db, 1, none⟩ (.int .i64 u)) db ⟨D.room, u, D.fuse, aput D.files s ⟨t, x.safe⟩⟩ mb (aput L s (b, ⟨t, x.safe⟩)) := by
  have hne : b ≠ db := h.fne e
  have hf := h.fil s _ e
  have k1 : Keeps (fun k => k = b) w (w.setCell ⟨b, 0, none⟩ (.string t)) := (Keeps.refl (fun k => k = b) w).setC 0 _ (fun _ => rfl)
  have f1 : (w.setCell ⟨b, 0, none⟩ (.string t)).heap[b]? = some (.cells #[.string t, .int .i64 x.safe] 65 (0, 0)) := setCell_block hf 0 _
  have b1 := (k1.block db (block_lt h.blk) (fun e => hne e.symm)).trans h.blk
  have k2 : Keeps (fun k => k = db) (w.setCell ⟨b, 0, none⟩ (.string t)) ((w.setCell ⟨b, 0, none⟩ (.string t)).setCell ⟨db, 1, none⟩ (.int .i64 u)) := (Keeps.refl (fun k => k = db) _).setC 1 _ (fun _ => rfl)
  exact h.set e (x' := ⟨t, x.safe⟩) ((k1.mono (fun _ _ e => .inl e)).trans k2 (fun _ _ e => .inr e)) (setCell_block b1 1 _) ((k2.block b (block_lt f1) hne).trans f1)
theorem aput_aput {κ α : Type} [DecidableEq κ] (L : List (κ × α)) (s : κ) (u v : α) : aput (aput L s u) s v = aput L s v := by
  induction L with
  | nil => simp [aput]
  | cons p L ih =>
    obtain ⟨k, x⟩ := p
    by_cases hk : k = s
    · simp [aput, hk]
    · simp [aput, hk, ih]
theorem dappE_ok {s t : ByteArray} (he : dappE D s t = 0) : D.fuse ≠ 0 ∧ namedB s = true ∧ D.used + t.size ≤ D.room := by
  unfold dappE at he
  split at he
  · cases he
  · rename_i h1
    split at he
    · rename_i h2
      split at he
      · cases he
      · exact ⟨h1, h2, by omega⟩
    · cases he
theorem asked_up (h : DAt w0 w db D mb L) (hf : D.fuse ≠ 0) : Calls Try.prog 26 #[.pointer (some ⟨db, 0, none⟩)] w fun e w' => Same w e (.int .i64 0) w' := by
  have := asked_at h
  unfold askE at this
  rw [if_neg hf] at this
  exact this
theorem named_is {s : ByteArray} {v : Bool} (hn : namedB s = v) (w : World) : Calls Try.prog 27 #[.string s] w fun e w' => Same w e (.bool v) w' := by
  have := named_any s w
  rw [hn] at this
  exact this
set_option maxRecDepth 100000 in
set_option maxHeartbeats 2000000 in
theorem append_bad (h : DAt w0 w db D mb L) (wf : WfD D) (s t : ByteArray) (ht : t.size ≤ 1000000) (he : dappE D s t ≠ 0) : Calls Try.prog 11 #[.pointer (some ⟨db, 0, none⟩), .string s, .string t] w fun e w' => Same w e (.int .i64 (dappE D s t)) w' := by
  unfold dappE at he ⊢
  have HH := Lib.hid h
  have z2 : 0 ≤ D.used ∧ D.used ≤ 4194304 ∧ D.room ≤ 4194304 := by
    have := wf.used
    have := wf.most
    have := wf.room
    omega
  by_cases h1 : D.fuse = 0
  · rw [if_pos h1]
    have HA := asked_at h
    unfold askE at HA
    rw [if_pos h1] at HA
    have HA := Lib.hid HA
    clear h wf h1 he
    go_enter Try.func11, Try.ntmps11
    go_wp2_with fail
    refine HA.out.mono ?_
    rintro e w1 ⟨rfl, k1⟩
    go_wp2
    go_ret
    exact ⟨rfl, k1⟩
  · rw [if_neg h1] at he ⊢
    have HA := Lib.hid (asked_up h h1)
    cases hn : namedB s with
    | false =>
      have HN := Lib.hid (named_is hn)
      rw [if_neg (by decide)]
      clear h wf h1 he hn
      go_enter Try.func11, Try.ntmps11
      go_wp2_with fail
      refine HA.out.mono ?_
      rintro e w1 ⟨rfl, k1⟩
      have K1 := Lib.hid k1
      clear k1
      go_wp2_with fail
      refine (HN.out w1).mono ?_
      rintro e w2 ⟨rfl, k2⟩
      go_wp2
      go_ret
      exact ⟨rfl, K0.tr K1.out k2⟩
    | true =>
      have HN := Lib.hid (named_is hn)
      rw [hn, if_pos rfl] at he
      rw [if_pos rfl]
      have h2 : D.room < D.used + t.size := by
        by_cases h2 : D.room < D.used + t.size
        · exact h2
        · rw [if_neg h2] at he; exact absurd rfl he
      rw [if_pos h2]
      clear h wf h1 he hn
      go_enter Try.func11, Try.ntmps11
      go_wp2_with fail
      refine HA.out.mono ?_
      rintro e w1 ⟨rfl, k1⟩
      have K1 := Lib.hid k1
      clear k1
      go_wp2_with fail
      refine (HN.out w1).mono ?_
      rintro e w2 ⟨rfl, k2⟩
      have b2 := (HH.out.keep (K0.tr K1.out k2)).blk
      have c0 := block_cell b2 0
      have c1 := block_cell b2 1
      have hlt := block_lt b2
      have K2 := Lib.hid (K0.tr K1.out k2)
      clear k2 b2
      go_wp2
      go_quiet (fail)
      go_wp2
      go_ret
      exact ⟨rfl, K2.out.drewN _⟩
set_option maxRecDepth 100000 in
set_option maxHeartbeats 2000000 in
theorem append_found (h : DAt w0 w db D mb L) (wf : WfD D) (s t : ByteArray) (he : dappE D s t = 0) {b : Nat} {x : FileC} (e : aget L s = some (b, x)) :
    Calls Try.prog 11 #[.pointer (some ⟨db, 0, none⟩), .string s, .string t] w fun e w' => e = .returned (.int .i64 0) ∧ DSt w0 w' db (dappC D s t) := by
  have hx : aget D.files s = some x := by rw [h.agetL, e]; rfl
  have ho : oldF D s = x := by simp [oldF, hx]
  obtain ⟨q1, q2, q3⟩ := dappE_ok he
  unfold dappC
  rw [if_pos he, ho]
  have HH := Lib.hid h
  have HA := Lib.hid (asked_up h q1)
  have HN := Lib.hid (named_is q2)
  have HE := Lib.hid e
  have HF := Lib.hid wf.fuse
  have z2 : 0 ≤ D.used ∧ D.used ≤ 4194304 ∧ D.room ≤ 4194304 := by
    have := wf.used
    have := wf.most
    have := wf.room
    omega
  have z3 : x.bytes.size ≤ 4194304 := wf.size hx
  have z4 : t.size ≤ 4194304 := by omega
  have hne : b ≠ db := h.fne e
  have hne2 : db ≠ b := fun e => hne e.symm
  have HV : Hid (aget (avals fptr L) s = some (.pointer (some ⟨b, 0, none⟩))) := by show _ = _; rw [aget_avals, e]; rfl
  have q4 : ¬ D.room < D.used + t.size := by omega
  clear h wf he e hx ho q1 q2
  go_enter Try.func11, Try.ntmps11
  go_wp2_with fail
  refine HA.out.mono ?_
  rintro e w1 ⟨rfl, k1⟩
  have K1 := Lib.hid k1
  clear k1
  go_wp2_with fail
  refine (HN.out w1).mono ?_
  rintro e w2 ⟨rfl, k2⟩
  have h2 := HH.out.keep (K0.tr K1.out k2)
  have b2 := h2.blk
  have c0 := block_cell b2 0
  have c1 := block_cell b2 1
  have c3 := block_cell b2 3
  have g1 := block_free b2 1
  have hlt := block_lt b2
  have f2 := h2.fil s _ HE.out
  have d0 := block_cell f2 0
  have e0 := block_free f2 0
  have hltb := block_lt f2
  have H2 := Lib.hid h2
  clear k2 b2 h2 f2
  go_wp2
  go_quiet (fail)
  have hm := Lib.hid (H2.out.keep ((Keeps.refl (fun _ => False) w2).drewN 1)).map
  have HX : Hid (∀ n, DAt w0 (((w2.drewN n).setCell ⟨b, 0, none⟩ (.string (x.bytes ++ t))).setCell ⟨db, 1, none⟩ (.int .i64 (D.used + t.size))) db ⟨D.room, D.used + t.size, D.fuse, aput D.files s ⟨x.bytes ++ t, x.safe⟩⟩ mb (aput L s (b, ⟨x.bytes ++ t, x.safe⟩))) :=
    fun n => app_cells (H2.out.keep ((Keeps.refl (fun _ => False) w2).drewN n)) HE.out _ _
  go_wp2_with (at_lookup; refine wpList_look (strKey Try.underlying9) rfl rfl Try.underlying57 zeroFile rfl s rfl (H2.out.keep ((Keeps.refl (fun _ => False) w2).drewN _)).map _ HV.out ?_)
  refine (changed_at (HX.out _) HF.out).mono ?_
  rintro e w3 ⟨rfl, h3, _⟩
  have HR := Lib.hid h3
  clear h3
  go_wp2
  go_ret
  exact ⟨rfl, _, _, HR.out⟩
set_option maxRecDepth 100000 in
set_option maxHeartbeats 2000000 in
theorem append_new (h : DAt w0 w db D mb L) (wf : WfD D) (s t : ByteArray) (he : dappE D s t = 0) (e : aget L s = none) :
    Calls Try.prog 11 #[.pointer (some ⟨db, 0, none⟩), .string s, .string t] w fun e w' => e = .returned (.int .i64 0) ∧ DSt w0 w' db (dappC D s t) := by
  have hx : aget D.files s = none := by rw [h.agetL, e]; rfl
  have ho : oldF D s = noFile := by simp [oldF, hx]
  obtain ⟨q1, q2, q3⟩ := dappE_ok he
  unfold dappC
  rw [if_pos he, ho]
  have HH := Lib.hid h
  have HA := Lib.hid (asked_up h q1)
  have HN := Lib.hid (named_is q2)
  have HE := Lib.hid e
  have HF := Lib.hid wf.fuse
  have z2 : 0 ≤ D.used ∧ D.used ≤ 4194304 ∧ D.room ≤ 4194304 := by
    have := wf.used
    have := wf.most
    have := wf.room
    omega
  have z4 : t.size ≤ 4194304 := by omega
  have HV : Hid (aget (avals fptr L) s = none) := by show _ = _; rw [aget_avals, e]; rfl
  have q4 : ¬ D.room < D.used + t.size := by omega
  clear h wf he e hx ho q1 q2
  go_enter Try.func11, Try.ntmps11
  go_wp2_with fail
  refine HA.out.mono ?_
  rintro e w1 ⟨rfl, k1⟩
  have K1 := Lib.hid k1
  clear k1
  go_wp2_with fail
  refine (HN.out w1).mono ?_
  rintro e w2 ⟨rfl, k2⟩
  have h2 := HH.out.keep (K0.tr K1.out k2)
  have b2 := h2.blk
  have c0 := block_cell b2 0
  have c1 := block_cell b2 1
  have c3 := block_cell b2 3
  have g1 := block_free b2 1
  have hlt := block_lt b2
  have H2 := Lib.hid h2
  clear k2 b2 h2
  go_wp2
  go_quiet (fail)
  rename_i nq
  have H3 : Hid (DAt w0 (w2.drewN nq) db D mb L) := H2.out.keep ((Keeps.refl (fun _ => False) w2).drewN nq)
  clear c0 c1 c3 g1 hlt H2
  generalize w2.drewN nq = w3 at H3 ⊢
  have b3 := H3.out.blk
  have c1 := block_cell b3 1
  have c3 := block_cell b3 3
  have hlt := block_lt b3
  have hltm := H3.out.map.lt
  have hnb : ¬ w3.heap.size = db := by omega
  have hnb2 : ¬ db = w3.heap.size := by omega
  have HK : Hid (K0 w3 (w3.alloc (.cells #[.string ⟨#[]⟩, .int .i64 0] 65))) := (Keeps.refl (fun _ => False) w3).alloc _
  have hm0 := Lib.hid (H3.out.map.keep HK.out (fun e => e))
  have HB : Hid ((w3.alloc (.cells #[.string ⟨#[]⟩, .int .i64 0] 65)).heap[w3.heap.size]? = some (.cells #[.string ⟨#[]⟩, .int .i64 0] 65 (0, 0))) := heap_new _ _ _ rfl
  have hbo : ∀ o, (setObjAt (w3.alloc (.cells #[.string ⟨#[]⟩, .int .i64 0] 65)) mb o).heap[w3.heap.size]? = some (.cells #[.string ⟨#[]⟩, .int .i64 0] 65 (0, 0)) := fun o => (setObjAt_other _ _ (by omega)).trans HB.out
  have hdo : ∀ o, (setObjAt (w3.alloc (.cells #[.string ⟨#[]⟩, .int .i64 0] 65)) mb o).heap[db]? = some (.cells #[.int .i64 D.room, .int .i64 D.used, .int .i64 D.fuse, .map (some mb)] 59 (0, 0)) := fun o => (setObjAt_other _ _ H3.out.ne).trans ((HK.out.block db hlt (fun e => e)).trans b3)
  have q1 : ∀ o, (setObjAt (w3.alloc (.cells #[.string ⟨#[]⟩, .int .i64 0] 65)) mb o).cell? ⟨w3.heap.size, 0, none⟩ = some (.string ⟨#[]⟩) := fun o => block_cell (hbo o) 0
  have q2 : ∀ o, (setObjAt (w3.alloc (.cells #[.string ⟨#[]⟩, .int .i64 0] 65)) mb o).frozen? ⟨w3.heap.size, 0, none⟩ = false := fun o => block_free (hbo o) 0
  have q5 : ∀ o, (setObjAt (w3.alloc (.cells #[.string ⟨#[]⟩, .int .i64 0] 65)) mb o).cell? ⟨db, 1, none⟩ = some (.int .i64 D.used) := fun o => block_cell (hdo o) 1
  have q6 : ∀ o, (setObjAt (w3.alloc (.cells #[.string ⟨#[]⟩, .int .i64 0] 65)) mb o).frozen? ⟨db, 1, none⟩ = false := fun o => block_free (hdo o) 1
  have HX : Hid (∀ o, MapAt .string (setObjAt (w3.alloc (.cells #[.string ⟨#[]⟩, .int .i64 0] 65)) mb o) mb (aput (avals fptr L) s (.pointer (some ⟨w3.heap.size, 0, none⟩))) →
      DAt w0 (((setObjAt (w3.alloc (.cells #[.string ⟨#[]⟩, .int .i64 0] 65)) mb o).setCell ⟨w3.heap.size, 0, none⟩ (.string (⟨#[]⟩ ++ t))).setCell ⟨db, 1, none⟩ (.int .i64 (D.used + t.size))) db ⟨D.room, D.used + t.size, D.fuse, aput D.files s ⟨noFile.bytes ++ t, noFile.safe⟩⟩ mb (aput (aput L s (w3.heap.size, noFile)) s (w3.heap.size, ⟨⟨#[]⟩ ++ t, 0⟩))) := by
    show ∀ o, _ → _
    intro o hmo
    have h5 := H3.out.add (x := noFile) HE.out HK.out (Nat.le_refl _) HB.out hmo
    have h6 := app_cells h5 (s := s) (b := w3.heap.size) (x := noFile) (by rw [aget_aput, if_pos rfl]) (⟨#[]⟩ ++ t) (D.used + t.size)
    rw [aput_aput] at h6
    exact h6
  clear b3 hbo hdo
  go_wp2_with (first | (at_lookup; refine wpList_look (strKey Try.underlying9) rfl rfl Try.underlying57 zeroFile rfl s rfl H3.out.map _ HV.out ?_) | (at_mapUpdate; refine wpList_put (strKey Try.underlying9) rfl rfl Try.underlying57 rfl s rfl hm0.out (.pointer (some ⟨w3.heap.size, 0, none⟩)) rfl ?_; intro ob hM))
  have HY := HX.out ob hM
  have HZ := Lib.hid (changed_at HY HF.out)
  clear HY hM
  refine HZ.out.mono ?_
  rintro e w5 ⟨rfl, h5, _⟩
  have HR := Lib.hid h5
  clear h5
  go_wp2
  go_ret
  exact ⟨rfl, _, _, HR.out⟩
theorem append_at (h : DAt w0 w db D mb L) (wf : WfD D) (s t : ByteArray) (ht : t.size ≤ 1000000) : Calls Try.prog 11 #[.pointer (some ⟨db, 0, none⟩), .string s, .string t] w fun e w' => e = .returned (.int .i64 (dappE D s t)) ∧ DSt w0 w' db (dappC D s t) := by
  by_cases he : dappE D s t = 0
  · rw [he]
    cases hg : aget L s with
    | none => exact append_new h wf s t he hg
    | some p => exact append_found h wf s t he hg
  · have : dappC D s t = D := by unfold dappC; rw [if_neg he]
    rw [this]
    exact (append_bad h wf s t ht he).mono fun e w' hq => ⟨hq.1, _, _, h.keep hq.2⟩
end
end Go.Proofs.Ytjfblcmpdcbpgaa
