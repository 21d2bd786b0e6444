/-
  The document's disk: Rename.
-/
import Derived.Test.YtjfblcmpdcbpgaaEj
namespace Go.Proofs.Ytjfblcmpdcbpgaa
open Go.RowKit Fx

theorem RPost.tr {w w1 w2 : World} {F : Nat → Prop} {b : Nat} {R1 R2 : DiskC} (h : RPost w F b R1 w1) (h2 : ∀ F1, RSt w1 F1 b R1 → RPost w1 F1 b R2 w2) : RPost w F b R2 w2 := by
  obtain ⟨F1, h1, hF1, hk1⟩ := h
  exact (h2 F1 h1).trans hF1 hk1
/-- A block of the call's own stays, whatever is done to the disk. -/
theorem own_stays {w w1 : World} {F : Nat → Prop} {bf : Nat} {o : Obj} (hk : Keeps F w w1) (hb : w.heap[bf]? = some o) (hF : ¬ F bf) : w1.heap[bf]? = some o := (hk.block bf (block_lt hb) hF).trans hb
set_option maxRecDepth 100000 in
set_option maxHeartbeats 4000000 in
/-- What stands behind the file's own copy: its new name, the file laid in its place, the change told. -/
theorem put_named {w wq : World} {F : Nat → Prop} {b bf : Nat} {R1 : DiskC} {s t : ByteArray} {x : FileC} (h : RSt wq F b R1) (hl : R1.files.length ≤ 1000) (hb : wq.heap[bf]? = some (.cells #[.string s, .string x.bytes, .int .i64 x.safe] 76 (0, 0))) (hF : ¬ F bf) (u : Int) :
    Calls Try.prog 50 #[.pointer (some ⟨b, 0, none⟩), .agg #[.string t, .string x.bytes, .int .i64 x.safe]] (wq.setCell ⟨bf, 0, none⟩ (.string t)) fun e w' => e = .returned (.tuple #[]) ∧ ∃ F', RSt w' F' b ⟨R1.room, u, R1.fuse, insS R1.files t x⟩ ∧ (∀ k, F' k → F k ∨ wq.heap.size ≤ k) ∧ Keeps (fun k => F k ∨ k = bf) wq w' := by
  have hk : Keeps (fun k => k = bf) wq (wq.setCell ⟨bf, 0, none⟩ (.string t)) := (Keeps.refl (fun k => k = bf) wq).setC 0 _ (fun _ => rfl)
  refine (rput_any _ F b R1 u t x (h.keep hk (fun k e e2 => hF (e2 ▸ e))) hl).mono ?_
  rintro e w' ⟨e1, F3, h5, hF3, hk3⟩
  exact ⟨e1, F3, h5, fun k e => (hF3 k e).imp id (fun e => Nat.le_trans hk.size e), (hk.mono (fun _ _ e => .inr e)).trans hk3 (fun _ _ e => .inl e)⟩
set_option maxRecDepth 100000 in
set_option maxHeartbeats 4000000 in
theorem rrenM_any {w : World} {F : Nat → Prop} {b : Nat} {R : DiskC} (h : RSt w F b R) (wf : WfD R) (hl : R.files.length ≤ 1000) (s t : ByteArray) :
    Calls Try.prog 37 #[.pointer (some ⟨b, 0, none⟩), .string s, .string t] w fun e w' => e = .returned (.int .i64 (drenE R s t)) ∧ RPost w F b (rrenC R s t) w' := by
  obtain ⟨v, h⟩ := h
  have HH := Lib.hid h
  have HW := Lib.hid wf
  have HS0 : Hid (drenE R s t ≠ 0 → rrenC R s t = R) := by show _ → _; intro e; unfold rrenC; rw [if_neg e]
  by_cases hf : R.fuse = 0
  · have HE : Hid (drenE R s t = 7) := by show _ = _; have h7 : fileE R s = 7 := (by unfold fileE; rw [if_pos hf]); unfold drenE; rw [h7]; rfl
    have HU := Lib.hid (rup_no h hf)
    clear h wf hf
    go_enter Try.func37, Try.ntmps37
    go_wp2_with fail
    refine HU.out.mono ?_
    rintro e w1 ⟨rfl, rfl⟩
    go_wp2
    go_ret
    rw [HE.out, HS0.out (by rw [HE.out]; decide)]
    exact ⟨rfl, RPost.same ⟨v, HH.out⟩ (Keeps.refl _ _)⟩
  have HU := Lib.hid (rup_yes h hf)
  cases ha : aget R.files s with
  | none =>
    have HE : Hid (drenE R s t = 6) := by show _ = _; have h7 : fileE R s = 6 := (by unfold fileE; rw [if_neg hf, ha]; rfl); unfold drenE; rw [h7]; rfl
    have HN := Lib.hid (rfind_none h hl ha)
    clear h wf hf ha
    go_enter Try.func37, Try.ntmps37
    go_wp2_with fail
    refine HU.out.mono ?_
    rintro e w1 ⟨rfl, rfl⟩
    go_wp2_with fail
    refine HN.out.mono ?_
    rintro e w2 ⟨rfl, rfl⟩
    go_wp2
    go_ret
    rw [HE.out, HS0.out (by rw [HE.out]; decide)]
    exact ⟨rfl, RPost.same ⟨v, HH.out⟩ (Keeps.refl _ _)⟩
  | some x =>
    have HF0 : Hid (fileE R s = 0) := by show _ = _; unfold fileE; rw [if_neg hf, ha]; rfl
    have HS := Lib.hid (rfind_some (s := s) h hl (by rw [ha]; rfl))
    have hx : w.cell? ⟨b, 1, none⟩ = some v := block_cell h.blk 1
    have hb := block_lt h.blk
    have HX : Hid (oldF R s = x) := by show _ = _; unfold oldF; rw [ha]; rfl
    rcases h.form with ⟨hnil, rfl⟩ | ⟨r, cap, rfl, hrb, hrl, hcap, hFr⟩
    · rw [hnil] at ha; cases ha
    cases hnm : namedB t with
    | false =>
      have HE : Hid (drenE R s t = 1) := by show _ = _; unfold drenE; rw [if_pos HF0.out, hnm]; rfl
      have HNM := Lib.hid (rnamed_is hnm w)
      clear h wf hf ha hnm
      go_enter Try.func37, Try.ntmps37
      go_wp2_with fail
      refine HU.out.mono ?_
      rintro e w1 ⟨rfl, rfl⟩
      go_wp2_with fail
      refine HS.out.mono ?_
      rintro e w2 ⟨i, hi, rfl, rfl, hn⟩
      have i0 : (0 : Int) ≤ i := by omega
      clear hn
      go_wp2_with fail
      refine HNM.out.mono ?_
      rintro e w3 ⟨rfl, rfl⟩
      go_wp2
      go_ret
      rw [HE.out, HS0.out (by rw [HE.out]; decide)]
      exact ⟨rfl, RPost.same ⟨_, HH.out⟩ (Keeps.refl _ _)⟩
    | true =>
      have HE : Hid (drenE R s t = 0) := by show _ = _; unfold drenE; rw [if_pos HF0.out, hnm]; rfl
      have HD : Hid (rrenC R s t = burn ⟨R.room, (clearD R s t).used, R.fuse, insS (adel (adel R.files s) t) t x⟩) := by show _ = _; unfold rrenC; rw [if_pos HE.out, HX.out]
      have HNM := Lib.hid (rnamed_is hnm w)
      have HB : Hid ((w.alloc (.cells #[.string s, .string x.bytes, .int .i64 x.safe] 76)).heap[w.heap.size]? = some (.cells #[.string s, .string x.bytes, .int .i64 x.safe] 76 (0, 0))) := heap_new _ _ _ rfl
      have HKB : Hid (K0 w (w.alloc (.cells #[.string s, .string x.bytes, .int .i64 x.safe] 76))) := (Keeps.refl _ _).alloc _
      have HBN : Hid (∀ k, F k → k < w.heap.size) := h.lt
      clear h wf hf ha hnm
      go_enter Try.func37, Try.ntmps37
      go_wp2_with fail
      refine HU.out.mono ?_
      rintro e w1 ⟨rfl, rfl⟩
      go_wp2_with fail
      refine HS.out.mono ?_
      rintro e w2 ⟨i, hi, rfl, rfl, hn⟩
      have i0 : (0 : Int) ≤ i := by omega
      have i1 : (i : Int) < R.files.length := by omega
      have hg : R.files[i].2 = x := by rw [← HX.out, oldF_at HW.out.keys hi hn]
      have cn := (HH.out.cell rfl i hi).1
      have cb := (HH.out.cell rfl i hi).2.1
      have cf := (HH.out.cell rfl i hi).2.2
      rw [hn] at cn
      rw [hg] at cb cf
      have HN := Lib.hid hn
      have HI := Lib.hid hi
      clear hn hg
      go_wp2_with fail
      refine HNM.out.mono ?_
      rintro e w3 ⟨rfl, rfl⟩
      go_wp2_with fail
      obtain ⟨bf, hbf⟩ : ∃ bf, bf = w3.heap.size := ⟨_, rfl⟩
      rw [← hbf] at HB HBN ⊢
      have HBF := Lib.hid hbf
      clear hbf cn cb cf hx hb hrl
      generalize w3.alloc _ = wb at HB HKB ⊢
      have HC := Lib.hid (rcut_any wb F b R _ (clearD R s t).used i HI.out (HH.out.keep HKB.out (fun _ _ e => e)) hl)
      refine HC.out.mono ?_
      rintro e w4 ⟨rfl, F1, h1, hF1, hk1⟩
      have h1' : RSt w4 F1 b ⟨R.room, (clearD R s t).used, R.fuse, adel R.files s⟩ := by
        unfold cutAt at h1
        rw [erase_adel HW.out.keys HI.out, HN.out] at h1
        exact h1
      have HF1 : Hid (∀ k, F1 k → F k ∨ wb.heap.size ≤ k) := hF1
      have HN1 : Hid (¬ F1 bf) := fun e => (HF1.out bf e).elim (fun e => by have := HBN.out bf e; omega) (fun e => by have := block_lt HB.out; omega)
      have HB4 := Lib.hid (own_stays hk1 HB.out (fun e => by have := HBN.out bf e; omega))
      have HK4 := Lib.hid hk1
      have HL1 : Hid ((adel R.files s).length ≤ 1000) := by show _ ≤ _; have h9 := (adel_sub R.files s).length_le; omega
      have HR1 := Lib.hid h1'
      clear h1 h1' hF1 hk1
      obtain ⟨v1, h1v⟩ := HR1.out
      cases hg2 : aget (adel R.files s) t with
      | none =>
        have HAD : Hid (adel (adel R.files s) t = adel R.files s) := adel_none hg2
        have HFN := Lib.hid (rfind_none h1v HL1.out hg2)
        clear h1v hg2
        go_wp2_with fail
        refine HFN.out.mono ?_
        rintro e w5 ⟨rfl, rfl⟩
        have e0 := block_cell HB4.out 0
        have e1 := block_cell HB4.out 1
        have e2 := block_cell HB4.out 2
        have ef := block_free HB4.out 0
        have elt := block_lt HB4.out
        have HP := Lib.hid (put_named (w := w3) HR1.out HL1.out HB4.out HN1.out (t := t) (clearD R s t).used)
        go_wp2_with fail
        refine HP.out.mono ?_
        rintro e w6 ⟨rfl, F2, h2, hF2, hk2⟩
        have HC2 := Lib.hid (rchanged_any h2 HW.out.fuse)
        have HF2 := Lib.hid hF2
        have HK2 := Lib.hid hk2
        clear h2 hF2 hk2 e0 e1 e2 ef elt
        go_wp2_with fail
        refine HC2.out.mono ?_
        rintro e w7 ⟨rfl, F3, h3, hF3, hk3⟩
        have HPP : Hid (RPost w3 F b (rrenC R s t) w7) := by
          show RPost _ _ _ _ _
          rw [HD.out, HAD.out]
          have z1 := HKB.out.size
          have z2 := HK4.out.size
          have z3 := HK2.out.size
          refine ⟨F3, h3, fun k e => ?_, ?_⟩
          · rcases hF3 k e with e | e
            · rcases HF2.out k e with e | e
              · exact (HF1.out k e).imp id (fun e => by omega)
              · exact .inr (by omega)
            · exact .inr (by omega)
          · refine (((HKB.out.mono (S1 := F) fun _ _ e => e.elim).trans HK4.out (fun _ _ e => e)).trans HK2.out (fun k hk e => ?_)).trans hk3 (fun k hk e => ?_)
            · rcases e with e | rfl
              · exact (HF1.out k e).resolve_right (by omega)
              · have := HBF.out; omega
            · rcases HF2.out k e with e | e
              · exact (HF1.out k e).resolve_right (by omega)
              · omega
        clear h3 hF3 hk3
        go_wp2
        go_ret
        exact ⟨by rw [HE.out]; rfl, HPP.out⟩
      | some y =>
        have HKD : Hid (KD (adel R.files s)) := HW.out.keys.del s
        have HFS := Lib.hid (rfind_some h1v HL1.out (s := t) (by rw [hg2]; rfl))
        clear hg2
        go_wp2_with fail
        refine HFS.out.mono ?_
        rintro e w5 ⟨j, hj, rfl, rfl, hnj⟩
        have HJ := Lib.hid hj
        have HNJ := Lib.hid hnj
        have j0 : (0 : Int) ≤ j := by omega
        have HC := Lib.hid (rcut_any w5 F1 b ⟨R.room, (clearD R s t).used, R.fuse, adel R.files s⟩ v1 (clearD R s t).used j hj h1v HL1.out)
        clear h1v hnj
        go_wp2_with fail
        refine HC.out.mono ?_
        rintro e w6 ⟨rfl, F2, h2, hF2, hk2⟩
        have h2' : RSt w6 F2 b ⟨R.room, (clearD R s t).used, R.fuse, adel (adel R.files s) t⟩ := by
          unfold cutAt at h2
          rw [erase_adel HKD.out HJ.out, HNJ.out] at h2
          exact h2
        have HN2 : Hid (¬ F2 bf) := fun e => (hF2 bf e).elim HN1.out (fun e => by have := block_lt HB4.out; omega)
        have HB6 := Lib.hid (own_stays hk2 HB4.out HN1.out)
        have HL2 : Hid ((adel (adel R.files s) t).length ≤ 1000) := by show _ ≤ _; have h8 := (adel_sub (adel R.files s) t).length_le; have h9 := HL1.out; omega
        have HF2 := Lib.hid hF2
        have HK2 := Lib.hid hk2
        have HP := Lib.hid (put_named (w := w3) h2' HL2.out HB6.out HN2.out (t := t) (clearD R s t).used)
        clear h2 h2' hF2 hk2
        have e0 := block_cell HB6.out 0
        have e1 := block_cell HB6.out 1
        have e2 := block_cell HB6.out 2
        have ef := block_free HB6.out 0
        have elt := block_lt HB6.out
        go_wp2_with fail
        refine HP.out.mono ?_
        rintro e w7 ⟨rfl, F3, h3, hF3, hk3⟩
        have HC2 := Lib.hid (rchanged_any h3 HW.out.fuse)
        have HF3 := Lib.hid hF3
        have HK3 := Lib.hid hk3
        clear h3 hF3 hk3 e0 e1 e2 ef elt
        go_wp2_with fail
        refine HC2.out.mono ?_
        rintro e w8 ⟨rfl, F4, h4, hF4, hk4⟩
        have HPP : Hid (RPost w3 F b (rrenC R s t) w8) := by
          show RPost _ _ _ _ _
          rw [HD.out]
          have z1 := HKB.out.size
          have z2 := HK4.out.size
          have z3 := HK2.out.size
          have z4 := HK3.out.size
          refine ⟨F4, h4, fun k e => ?_, ?_⟩
          · rcases hF4 k e with e | e
            · rcases HF3.out k e with e | e
              · rcases HF2.out k e with e | e
                · exact (HF1.out k e).imp id (fun e => by omega)
                · exact .inr (by omega)
              · exact .inr (by omega)
            · exact .inr (by omega)
          · refine ((((HKB.out.mono (S1 := F) fun _ _ e => e.elim).trans HK4.out (fun _ _ e => e)).trans HK2.out (fun k hk e => ?_)).trans HK3.out (fun k hk e => ?_)).trans hk4 (fun k hk e => ?_)
            · exact (HF1.out k e).resolve_right (by omega)
            · rcases e with e | rfl
              · exact (HF1.out k ((HF2.out k e).resolve_right (by omega))).resolve_right (by omega)
              · have := HBF.out; omega
            · exact (HF1.out k ((HF2.out k ((HF3.out k e).resolve_right (by omega))).resolve_right (by omega))).resolve_right (by omega)
        clear h4 hF4 hk4
        go_wp2
        go_ret
        exact ⟨by rw [HE.out]; rfl, HPP.out⟩
end Go.Proofs.Ytjfblcmpdcbpgaa
