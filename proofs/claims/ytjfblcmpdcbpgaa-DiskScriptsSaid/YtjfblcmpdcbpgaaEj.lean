/-
  The document's disk: Append.
-/
import Derived.Test.YtjfblcmpdcbpgaaEi
namespace Go.Proofs.Ytjfblcmpdcbpgaa
open Go.RowKit Fx

set_option maxRecDepth 100000 in
set_option maxHeartbeats 4000000 in
theorem rappM_any {w : World} {F : Nat → Prop} {b : Nat} {R : DiskC} (h : RSt w F b R) (wf : WfD R) (hl : R.files.length ≤ 1000) (s t : ByteArray) (ht : t.size ≤ 1000000) :
    Calls Try.prog 33 #[.pointer (some ⟨b, 0, none⟩), .string s, .string t] w fun e w' => e = .returned (.int .i64 (dappE R s t)) ∧ RPost w F b (rappC R s t) w' := by
  obtain ⟨v, h⟩ := h
  have HH := Lib.hid h
  have HW := Lib.hid wf
  have HS0 : Hid (dappE R s t ≠ 0 → rappC R s t = R) := by show _ → _; intro e; unfold rappC; rw [if_neg e]
  by_cases hf : R.fuse = 0
  · have HE : Hid (dappE R s t = 7) := by show _ = _; unfold dappE; rw [if_pos hf]
    have HU := Lib.hid (rup_no h hf)
    clear h wf hf
    go_enter Try.func33, Try.ntmps33
    go_wp2_with fail
    refine HU.out.mono ?_
    rintro e w1 ⟨rfl, rfl⟩
    go_wp2
    go_ret
    rw [HE.out, HS0.out (by rw [HE.out]; decide)]
    exact ⟨rfl, RPost.same ⟨v, HH.out⟩ (Keeps.refl _ _)⟩
  have HU := Lib.hid (rup_yes h hf)
  cases hn : namedB s with
  | false =>
    have HE : Hid (dappE R s t = 1) := by show _ = _; unfold dappE; rw [if_neg hf, hn]; rfl
    have HN := Lib.hid (rnamed_is hn w)
    clear h wf hf hn
    go_enter Try.func33, Try.ntmps33
    go_wp2_with fail
    refine HU.out.mono ?_
    rintro e w1 ⟨rfl, rfl⟩
    go_wp2_with fail
    refine HN.out.mono ?_
    rintro e w2 ⟨rfl, rfl⟩
    go_wp2
    go_ret
    rw [HE.out, HS0.out (by rw [HE.out]; decide)]
    exact ⟨rfl, RPost.same ⟨v, HH.out⟩ (Keeps.refl _ _)⟩
  | true =>
    have HN := Lib.hid (rnamed_is hn w)
    have hzu := wf.used
    have hzm := wf.most
    have hzr := wf.room
    have HUS : ∀ n : Nat, Calls Try.prog 44 #[.pointer (some ⟨b, 0, none⟩)] (w.drewN n) fun e w' => e = .returned (.int .i64 (szF R.files : Nat)) ∧ w' = w.drewN n := fun n => rused_any (h.keep ((Keeps.refl (fun _ => False) w).drewN n) (fun _ _ e => e)) hl (by omega)
    have cr : w.cell? ⟨b, 0, none⟩ = some (.int .i64 R.room) := block_cell h.blk 0
    have hb := block_lt h.blk
    have hx : w.cell? ⟨b, 1, none⟩ = some v := block_cell h.blk 1
    by_cases hfull : R.room < R.used + t.size
    · have HE : Hid (dappE R s t = 5) := by show _ = _; unfold dappE; rw [if_neg hf, hn, if_pos rfl, if_pos hfull]
      rw [hzu] at hfull hzm
      clear hzu
      generalize szF R.files = z at hfull hzm HUS
      have HUS := Lib.hid HUS
      generalize R.room = rm at cr hfull hzm hzr
      clear h wf hf hn
      go_enter Try.func33, Try.ntmps33
      go_wp2_with fail
      refine HU.out.mono ?_
      rintro e w1 ⟨rfl, rfl⟩
      go_wp2_with fail
      refine HN.out.mono ?_
      rintro e w2 ⟨rfl, rfl⟩
      go_wp2
      go_quiet ((go_at_call 44; exact Calls.quiet_of_same (HUS.out _)))
      go_wp2
      go_ret
      rw [HE.out, HS0.out (by rw [HE.out]; decide)]
      exact ⟨rfl, RPost.same ⟨v, HH.out⟩ ((Keeps.refl _ _).drewN _)⟩
    · have HE : Hid (dappE R s t = 0) := by show _ = _; unfold dappE; rw [if_neg hf, hn, if_pos rfl, if_neg hfull]
      rw [hzu] at hfull hzm
      clear hzu
      generalize szF R.files = z at hfull hzm HUS
      have HUS := Lib.hid HUS
      generalize R.room = rm at cr hfull hzm hzr
      have hfull2 : (z : Int) + t.size ≤ rm := by omega
      clear hfull
      cases ha : aget R.files s with
      | none =>
        have HC : Hid (rappC R s t = burn ⟨R.room, R.used + t.size, R.fuse, insS R.files s ⟨t, 0⟩⟩) := by
          show _ = _
          unfold rappC rput oldF
          rw [if_pos HE.out, ha, if_neg (by simp)]
          show burn ⟨_, _, _, insS R.files s ⟨⟨#[]⟩ ++ t, 0⟩⟩ = _
          rw [show (⟨#[]⟩ : ByteArray) ++ t = t from ByteArray.empty_append]
        have HAG := Lib.hid ha
        clear h wf hf hn ha
        go_enter Try.func33, Try.ntmps33
        go_wp2_with fail
        refine HU.out.mono ?_
        rintro e w1 ⟨rfl, rfl⟩
        go_wp2_with fail
        refine HN.out.mono ?_
        rintro e w2 ⟨rfl, rfl⟩
        go_wp2
        go_quiet ((go_at_call 44; exact Calls.quiet_of_same (HUS.out _)))
        have HG : Hid (RAt (w2.drewN nq) F b R v) := HH.out.keep ((Keeps.refl (fun _ => False) w2).drewN nq) (fun _ _ e => e)
        have HKD : Hid (Keeps F w2 (w2.drewN nq)) := (Keeps.refl F w2).drewN nq
        generalize w2.drewN nq = wq at HG HKD ⊢
        have HFN := Lib.hid (rfind_none HG.out hl HAG.out)
        have HP := Lib.hid (rput_any wq F b R (R.used + t.size) s ⟨t, 0⟩ ⟨v, HG.out⟩ hl)
        clear cr hb hx
        go_wp2_with fail
        refine HFN.out.mono ?_
        rintro e w3 ⟨rfl, rfl⟩
        go_wp2_with fail
        refine HP.out.mono ?_
        rintro e w4 ⟨rfl, F1, h1, hF1, hk1⟩
        have HC2 := Lib.hid (rchanged_any h1 HW.out.fuse)
        have HF1 := Lib.hid hF1
        have HK1 := Lib.hid (HKD.out.trans hk1 (fun _ _ e => e))
        have HZ := Lib.hid HKD.out.size
        clear h1 hF1 hk1
        go_wp2_with fail
        refine HC2.out.mono ?_
        rintro e w5 ⟨rfl, hp⟩
        have HPP : Hid (RPost w2 F b (rappC R s t) w5) := by
          show RPost _ _ _ _ _
          rw [HC.out]
          exact hp.trans (fun k e => (HF1.out k e).imp id (fun e => Nat.le_trans HZ.out e)) HK1.out
        clear hp
        go_wp2
        go_ret
        exact ⟨by rw [HE.out]; rfl, HPP.out⟩
      | some x =>
        have HC : Hid (rappC R s t = burn ⟨R.room, R.used + t.size, R.fuse, aput R.files s ⟨x.bytes ++ t, x.safe⟩⟩) := by
          show _ = _
          unfold rappC rput oldF
          rw [if_pos HE.out, ha, if_pos (by simp)]
          simp
        have HAG : Hid ((aget R.files s).isSome = true) := by show _ = _; rw [ha]; rfl
        have HX : Hid (oldF R s = x) := by show _ = _; unfold oldF; rw [ha]; rfl
        have hxs := wf.size ha
        rcases h.form with ⟨hnil, rfl⟩ | ⟨r, cap, rfl, hrb, hrl, hcap, hFr⟩
        · rw [hnil] at ha; cases ha
        have hcm : cap ≤ 9223372036854775807 := by
          rcases h.row.2 with ⟨e, _⟩ | ⟨g1, cap1, cur, e, _, _, _, hc, _⟩
          · cases e
          · cases e; unfold maxLen at hc; omega
        clear h wf hf hn ha
        go_enter Try.func33, Try.ntmps33
        go_wp2_with fail
        refine HU.out.mono ?_
        rintro e w1 ⟨rfl, rfl⟩
        go_wp2_with fail
        refine HN.out.mono ?_
        rintro e w2 ⟨rfl, rfl⟩
        go_wp2
        go_quiet ((go_at_call 44; exact Calls.quiet_of_same (HUS.out _)))
        have HG : Hid (RAt (w2.drewN nq) F b R (.slice (some ⟨r, 0, none⟩) R.files.length cap)) := HH.out.keep ((Keeps.refl (fun _ => False) w2).drewN nq) (fun _ _ e => e)
        have HKD : Hid (Keeps F w2 (w2.drewN nq)) := (Keeps.refl F w2).drewN nq
        generalize w2.drewN nq = wq at HG HKD ⊢
        have HFN := Lib.hid (rfind_some HG.out hl HAG.out)
        have hx : wq.cell? ⟨b, 1, none⟩ = some (.slice (some ⟨r, 0, none⟩) R.files.length cap) := block_cell HG.out.blk 1
        have hb := block_lt HG.out.blk
        clear cr
        go_wp2_with fail
        refine HFN.out.mono ?_
        rintro e w3 ⟨i, hi, rfl, rfl, hn⟩
        have i0 : (0 : Int) ≤ i := by omega
        have i1 : (i : Int) < R.files.length := by omega
        have cb := (HG.out.cell rfl i hi).2.1
        have hg : R.files[i].2 = x := by rw [← HX.out, oldF_at HW.out.keys hi hn]
        rw [hg] at cb
        have fr := HG.out.row.frozenAt (i * 3 + 1)
        have hrl := World.block_lt_of_cell? _ _ cb
        have HT : Hid (RAt ((w3.setCell ⟨r, i * 3 + 1, none⟩ (.string (x.bytes ++ t))).drew) F b ⟨R.room, R.used + t.size, R.fuse, aput R.files s ⟨x.bytes ++ t, x.safe⟩⟩ (.slice (some ⟨r, 0, none⟩) R.files.length cap)) := by
          show RAt _ _ _ _ _
          have h1 := HG.out.turn hi (fun p => (p.1, ⟨x.bytes ++ t, p.2.safe⟩)) 1 (.string (x.bytes ++ t)) (by omega) (fun _ => rfl) (R.used + t.size)
          rw [modify_file HW.out hi hn (fun p => ⟨x.bytes ++ t, p.safe⟩), HX.out] at h1
          exact h1.keep ((Keeps.refl (fun _ => False) _).drew) (fun _ _ e => e)
        have HK : Hid (Keeps F w2 ((w3.setCell ⟨r, i * 3 + 1, none⟩ (.string (x.bytes ++ t))).drew)) := (HKD.out.setC _ _ (fun _ => hFr)).drew
        clear hg
        go_wp2
        go_region
        go_wp2_with fail
        refine (rchanged_any ⟨_, HT.out⟩ HW.out.fuse).mono ?_
        rintro e w5 ⟨rfl, hp⟩
        have HPP : Hid (RPost w2 F b (rappC R s t) w5) := by
          show RPost _ _ _ _ _
          rw [HC.out]
          exact hp.trans (fun k e => .inl e) HK.out
        clear hp
        go_wp2
        go_ret
        exact ⟨by rw [HE.out]; rfl, HPP.out⟩
end Go.Proofs.Ytjfblcmpdcbpgaa
