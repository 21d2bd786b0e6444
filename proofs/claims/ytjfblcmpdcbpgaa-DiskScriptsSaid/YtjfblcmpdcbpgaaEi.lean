/-
  The document's disk: Sync, Read, Cut.
-/
import Derived.Test.YtjfblcmpdcbpgaaEh
namespace Go.Proofs.Ytjfblcmpdcbpgaa
open Go.RowKit Fx

theorem modify_file {R : DiskC} (wf : WfD R) {i : Nat} (hi : i < R.files.length) {s : ByteArray} (e : R.files[i].1 = s) (g : FileC → FileC) : R.files.modify i (fun p => (p.1, g p.2)) = aput R.files s (g (oldF R s)) := by
  rw [oldF_at wf.keys hi e, modify_aput wf.keys g hi, e]
set_option maxRecDepth 100000 in
set_option maxHeartbeats 2000000 in
theorem rsyncM_any {w : World} {F : Nat → Prop} {b : Nat} {R : DiskC} (h : RSt w F b R) (wf : WfD R) (hl : R.files.length ≤ 1000) (s : ByteArray) : Calls Try.prog 34 #[.pointer (some ⟨b, 0, none⟩), .string s] w fun e w' => e = .returned (.int .i64 (fileE R s)) ∧ RPost w F b (dsyncC R s) w' := by
  obtain ⟨v, h⟩ := h
  have HH := Lib.hid h
  have HW := Lib.hid wf
  have HS0 : Hid (fileE R s ≠ 0 → dsyncC R s = R) := by show _ → _; intro e; unfold dsyncC; rw [if_neg e]
  by_cases hf : R.fuse = 0
  · have HE : Hid (fileE R s = 7) := by show _ = _; unfold fileE; rw [if_pos hf]
    have HU := Lib.hid (rup_no h hf)
    clear h wf hf
    go_enter Try.func34, Try.ntmps34
    go_wp2_with fail
    refine HU.out.mono ?_
    rintro e w1 ⟨rfl, rfl⟩
    go_wp2
    go_ret
    exact by rw [HE.out, HS0.out (by rw [HE.out]; decide)]; exact ⟨rfl, RPost.same ⟨v, HH.out⟩ (Keeps.refl _ _)⟩
  have HU := Lib.hid (rup_yes h hf)
  cases ha : aget R.files s with
  | none =>
    have HE : Hid (fileE R s = 6) := by show _ = _; unfold fileE; rw [if_neg hf, ha]; rfl
    have HN := Lib.hid (rfind_none h hl ha)
    clear h wf hf ha
    go_enter Try.func34, Try.ntmps34
    go_wp2_with fail
    refine HU.out.mono ?_
    rintro e w1 ⟨rfl, rfl⟩
    go_wp2_with fail
    refine HN.out.mono ?_
    rintro e w2 ⟨rfl, rfl⟩
    go_wp2
    go_ret
    exact by rw [HE.out, HS0.out (by rw [HE.out]; decide)]; exact ⟨rfl, RPost.same ⟨v, HH.out⟩ (Keeps.refl _ _)⟩
  | some x =>
    have HE : Hid (fileE R s = 0) := by show _ = _; unfold fileE; rw [if_neg hf, ha]; rfl
    have HS := Lib.hid (rfind_some (s := s) h hl (by rw [ha]; rfl))
    have hx : w.cell? ⟨b, 1, none⟩ = some v := block_cell h.blk 1
    have hb := block_lt h.blk
    have HX : Hid (oldF R s = x) := by show _ = _; unfold oldF; rw [ha]; rfl
    rcases h.form with ⟨hnil, rfl⟩ | ⟨r, cap, rfl, hrb, hrl, hcap, hFr⟩
    · rw [hnil] at ha; cases ha
    clear h wf hf ha
    go_enter Try.func34, Try.ntmps34
    go_wp2_with fail
    refine HU.out.mono ?_
    rintro e w1 ⟨rfl, rfl⟩
    go_wp2_with fail
    refine HS.out.mono ?_
    rintro e w2 ⟨i, hi, rfl, rfl, hn⟩
    have i0 : (0 : Int) ≤ i := by omega
    have i1 : (i : Int) < R.files.length := by omega
    have cb := (HH.out.cell rfl i hi).2.1
    have cf := (HH.out.cell rfl i hi).2.2
    have hg : R.files[i].2 = x := by rw [← HX.out, oldF_at HW.out.keys hi hn]
    rw [hg] at cb cf
    have HN := Lib.hid hn
    have HI := Lib.hid hi
    clear hn hg
    have fr := HH.out.row.frozenAt (i * 3 + 2)
    have HT : Hid (RAt ((w2.setCell ⟨r, i * 3 + 2, none⟩ (.int .i64 x.bytes.size)).drew) F b ⟨R.room, R.used, R.fuse, aput R.files s ⟨x.bytes, x.bytes.size⟩⟩ (.slice (some ⟨r, 0, none⟩) R.files.length cap)) := by
      show RAt _ _ _ _ _
      have h1 := HH.out.turn HI.out (fun p => (p.1, ⟨p.2.bytes, x.bytes.size⟩)) 2 (.int .i64 x.bytes.size) (by omega) (fun _ => rfl) R.used
      rw [modify_file HW.out HI.out HN.out (fun p => ⟨p.bytes, x.bytes.size⟩), HX.out] at h1
      exact h1.keep ((Keeps.refl (fun _ => False) _).drew) (fun _ _ e => e)
    have HK : Hid (Keeps F w2 ((w2.setCell ⟨r, i * 3 + 2, none⟩ (.int .i64 x.bytes.size)).drew)) := ((Keeps.refl F w2).setC _ _ (fun _ => hFr)).drew
    go_wp2
    go_region
    go_wp2_with fail
    refine (rchanged_any ⟨_, HT.out⟩ HW.out.fuse).mono ?_
    rintro e w3 ⟨rfl, hp⟩
    have HP : Hid (RPost w2 F b (dsyncC R s) w3) := by
      show RPost _ _ _ _ _
      unfold dsyncC
      rw [if_pos HE.out, HX.out]
      exact hp.trans (fun k e => .inl e) HK.out
    clear hp
    go_wp2
    go_ret
    exact ⟨by rw [HE.out]; rfl, HP.out⟩
set_option maxRecDepth 100000 in
set_option maxHeartbeats 2000000 in
theorem rreadM_any {w : World} {F : Nat → Prop} {b : Nat} {R : DiskC} (h : RSt w F b R) (wf : WfD R) (hl : R.files.length ≤ 1000) (s : ByteArray) : Calls Try.prog 35 #[.pointer (some ⟨b, 0, none⟩), .string s] w fun e w' => e = .returned (.tuple #[.string (dreadV R s), .int .i64 (fileE R s)]) ∧ RPost w F b R w' := by
  obtain ⟨v, h⟩ := h
  have HH := Lib.hid h
  have HW := Lib.hid wf
  have HS0 : Hid (fileE R s ≠ 0 → dreadV R s = ⟨#[]⟩) := by show _ → _; intro e; unfold dreadV; rw [if_neg e]
  by_cases hf : R.fuse = 0
  · have HE : Hid (fileE R s = 7) := by show _ = _; unfold fileE; rw [if_pos hf]
    have HU := Lib.hid (rup_no h hf)
    clear h wf hf
    go_enter Try.func35, Try.ntmps35
    go_wp2_with fail
    refine HU.out.mono ?_
    rintro e w1 ⟨rfl, rfl⟩
    go_wp2
    go_ret2
    exact by rw [HE.out, HS0.out (by rw [HE.out]; decide)]; exact ⟨rfl, RPost.same ⟨v, HH.out⟩ (Keeps.refl _ _)⟩
  have HU := Lib.hid (rup_yes h hf)
  cases ha : aget R.files s with
  | none =>
    have HE : Hid (fileE R s = 6) := by show _ = _; unfold fileE; rw [if_neg hf, ha]; rfl
    have HN := Lib.hid (rfind_none h hl ha)
    clear h wf hf ha
    go_enter Try.func35, Try.ntmps35
    go_wp2_with fail
    refine HU.out.mono ?_
    rintro e w1 ⟨rfl, rfl⟩
    go_wp2_with fail
    refine HN.out.mono ?_
    rintro e w2 ⟨rfl, rfl⟩
    go_wp2
    go_ret2
    exact by rw [HE.out, HS0.out (by rw [HE.out]; decide)]; exact ⟨rfl, RPost.same ⟨v, HH.out⟩ (Keeps.refl _ _)⟩
  | some x =>
    have HE : Hid (fileE R s = 0) := by show _ = _; unfold fileE; rw [if_neg hf, ha]; rfl
    have HS := Lib.hid (rfind_some (s := s) h hl (by rw [ha]; rfl))
    have hx : w.cell? ⟨b, 1, none⟩ = some v := block_cell h.blk 1
    have hb := block_lt h.blk
    have HX : Hid (oldF R s = x) := by show _ = _; unfold oldF; rw [ha]; rfl
    rcases h.form with ⟨hnil, rfl⟩ | ⟨r, cap, rfl, hrb, hrl, hcap, hFr⟩
    · rw [hnil] at ha; cases ha
    clear h wf hf ha
    go_enter Try.func35, Try.ntmps35
    go_wp2_with fail
    refine HU.out.mono ?_
    rintro e w1 ⟨rfl, rfl⟩
    go_wp2_with fail
    refine HS.out.mono ?_
    rintro e w2 ⟨i, hi, rfl, rfl, hn⟩
    have i0 : (0 : Int) ≤ i := by omega
    have i1 : (i : Int) < R.files.length := by omega
    have cb := (HH.out.cell rfl i hi).2.1
    have cf := (HH.out.cell rfl i hi).2.2
    have hg : R.files[i].2 = x := by rw [← HX.out, oldF_at HW.out.keys hi hn]
    rw [hg] at cb cf
    have HN := Lib.hid hn
    have HI := Lib.hid hi
    clear hn hg
    have HV : Hid (dreadV R s = x.bytes) := by show _ = _; unfold dreadV; rw [if_pos HE.out, HX.out]
    go_wp2
    go_ret2
    rw [HE.out, HV.out]
    exact ⟨rfl, RPost.same ⟨_, HH.out⟩ (Keeps.refl _ _)⟩
set_option maxRecDepth 100000 in
set_option maxHeartbeats 2000000 in
theorem rdropM_any {w : World} {F : Nat → Prop} {b : Nat} {R : DiskC} (h : RSt w F b R) (wf : WfD R) (hl : R.files.length ≤ 1000) (s : ByteArray) : Calls Try.prog 38 #[.pointer (some ⟨b, 0, none⟩), .string s] w fun e w' => e = .returned (.int .i64 (fileE R s)) ∧ RPost w F b (ddropC R s) w' := by
  obtain ⟨v, h⟩ := h
  have HH := Lib.hid h
  have HW := Lib.hid wf
  have HS0 : Hid (fileE R s ≠ 0 → ddropC R s = R) := by show _ → _; intro e; unfold ddropC; rw [if_neg e]
  by_cases hf : R.fuse = 0
  · have HE : Hid (fileE R s = 7) := by show _ = _; unfold fileE; rw [if_pos hf]
    have HU := Lib.hid (rup_no h hf)
    clear h wf hf
    go_enter Try.func38, Try.ntmps38
    go_wp2_with fail
    refine HU.out.mono ?_
    rintro e w1 ⟨rfl, rfl⟩
    go_wp2
    go_ret
    exact by rw [HE.out, HS0.out (by rw [HE.out]; decide)]; exact ⟨rfl, RPost.same ⟨v, HH.out⟩ (Keeps.refl _ _)⟩
  have HU := Lib.hid (rup_yes h hf)
  cases ha : aget R.files s with
  | none =>
    have HE : Hid (fileE R s = 6) := by show _ = _; unfold fileE; rw [if_neg hf, ha]; rfl
    have HN := Lib.hid (rfind_none h hl ha)
    clear h wf hf ha
    go_enter Try.func38, Try.ntmps38
    go_wp2_with fail
    refine HU.out.mono ?_
    rintro e w1 ⟨rfl, rfl⟩
    go_wp2_with fail
    refine HN.out.mono ?_
    rintro e w2 ⟨rfl, rfl⟩
    go_wp2
    go_ret
    exact by rw [HE.out, HS0.out (by rw [HE.out]; decide)]; exact ⟨rfl, RPost.same ⟨v, HH.out⟩ (Keeps.refl _ _)⟩
  | some x =>
    have HE : Hid (fileE R s = 0) := by show _ = _; unfold fileE; rw [if_neg hf, ha]; rfl
    have HS := Lib.hid (rfind_some (s := s) h hl (by rw [ha]; rfl))
    have hx : w.cell? ⟨b, 1, none⟩ = some v := block_cell h.blk 1
    have hb := block_lt h.blk
    have HX : Hid (oldF R s = x) := by show _ = _; unfold oldF; rw [ha]; rfl
    rcases h.form with ⟨hnil, rfl⟩ | ⟨r, cap, rfl, hrb, hrl, hcap, hFr⟩
    · rw [hnil] at ha; cases ha
    clear h wf hf ha
    go_enter Try.func38, Try.ntmps38
    go_wp2_with fail
    refine HU.out.mono ?_
    rintro e w1 ⟨rfl, rfl⟩
    go_wp2_with fail
    refine HS.out.mono ?_
    rintro e w2 ⟨i, hi, rfl, rfl, hn⟩
    have i0 : (0 : Int) ≤ i := by omega
    have i1 : (i : Int) < R.files.length := by omega
    have cb := (HH.out.cell rfl i hi).2.1
    have cf := (HH.out.cell rfl i hi).2.2
    have hg : R.files[i].2 = x := by rw [← HX.out, oldF_at HW.out.keys hi hn]
    rw [hg] at cb cf
    have HN := Lib.hid hn
    have HI := Lib.hid hi
    clear hn hg
    have HC := Lib.hid (rcut_any w2 F b R (.slice (some ⟨r, 0, none⟩) R.files.length cap) (R.used - x.bytes.size) i HI.out HH.out hl)
    clear cb cf i0 i1 hx hb hrl
    go_wp2_with fail
    refine HC.out.mono ?_
    rintro e w3 ⟨rfl, F1, h1, hF1, hk1⟩
    have HC2 := Lib.hid (rchanged_any h1 HW.out.fuse)
    have HF1 := Lib.hid hF1
    have HK1 := Lib.hid hk1
    clear h1 hF1 hk1
    go_wp2_with fail
    refine HC2.out.mono ?_
    rintro e w4 ⟨rfl, hp⟩
    have HP : Hid (RPost w2 F b (ddropC R s) w4) := by
      show RPost _ _ _ _ _
      unfold ddropC
      rw [if_pos HE.out, HX.out]
      have h2 := hp.trans HF1.out HK1.out
      unfold cutAt at h2
      rw [erase_adel HW.out.keys HI.out, HN.out] at h2
      exact h2
    clear hp
    go_wp2
    go_ret
    exact ⟨by rw [HE.out]; rfl, HP.out⟩
theorem RAt.turn2 {w : World} {F : Nat → Prop} {b r cap : Nat} {R : DiskC} (h : RAt w F b R (.slice (some ⟨r, 0, none⟩) R.files.length cap)) (wf : WfD R) {i : Nat} (hi : i < R.files.length) {s : ByteArray} (e : R.files[i].1 = s) (t : ByteArray) (y : Int) (usd : Int) :
    RAt ((w.setCell ⟨r, i * 3 + 1, none⟩ (.string t)).setCell ⟨r, i * 3 + 2, none⟩ (.int .i64 y)) F b ⟨R.room, usd, R.fuse, aput R.files s ⟨t, y⟩⟩ (.slice (some ⟨r, 0, none⟩) R.files.length cap) := by
  have h1 := h.turn hi (fun p => (p.1, ⟨t, p.2.safe⟩)) 1 (.string t) (by omega) (fun _ => rfl) usd
  have h2 := RAt.turn (R := ⟨R.room, usd, R.fuse, R.files.modify i fun p => (p.1, ⟨t, p.2.safe⟩)⟩) (by rw [List.length_modify]; exact h1) (by rw [List.length_modify]; exact hi) (fun p => (p.1, ⟨p.2.bytes, y⟩)) 2 (.int .i64 y) (by omega) (fun _ => rfl) usd
  rw [List.length_modify] at h2
  have h3 : (R.files.modify i fun p => (p.1, ⟨t, p.2.safe⟩)).modify i (fun p => (p.1, ⟨p.2.bytes, y⟩)) = aput R.files s ⟨t, y⟩ := by
    rw [List.modify_modify_eq]
    exact modify_file wf hi e (fun _ => ⟨t, y⟩)
  rw [h3] at h2
  exact h2
set_option maxRecDepth 100000 in
set_option maxHeartbeats 2000000 in
theorem rcutM_any {w : World} {F : Nat → Prop} {b : Nat} {R : DiskC} (h : RSt w F b R) (wf : WfD R) (hl : R.files.length ≤ 1000) (s : ByteArray) (n : Int) : Calls Try.prog 36 #[.pointer (some ⟨b, 0, none⟩), .string s, .int .i64 n] w fun e w' => e = .returned (.int .i64 (dcutE R s n)) ∧ RPost w F b (dcutC R s n) w' := by
  obtain ⟨v, h⟩ := h
  have HH := Lib.hid h
  have HW := Lib.hid wf
  have HS0 : Hid (fileE R s ≠ 0 → dcutE R s n = fileE R s ∧ dcutC R s n = R) := by show _ → _; intro e; have h1 : dcutE R s n = fileE R s := (by unfold dcutE; rw [if_neg e]); exact ⟨h1, by unfold dcutC; rw [h1, if_neg e]⟩
  by_cases hf : R.fuse = 0
  · have HE : Hid (fileE R s = 7) := by show _ = _; unfold fileE; rw [if_pos hf]
    have HU := Lib.hid (rup_no h hf)
    clear h wf hf
    go_enter Try.func36, Try.ntmps36
    go_wp2_with fail
    refine HU.out.mono ?_
    rintro e w1 ⟨rfl, rfl⟩
    go_wp2
    go_ret
    exact by obtain ⟨e1, e2⟩ := HS0.out (by rw [HE.out]; decide); rw [e1, e2, HE.out]; exact ⟨rfl, RPost.same ⟨v, HH.out⟩ (Keeps.refl _ _)⟩
  have HU := Lib.hid (rup_yes h hf)
  cases ha : aget R.files s with
  | none =>
    have HE : Hid (fileE R s = 6) := by show _ = _; unfold fileE; rw [if_neg hf, ha]; rfl
    have HN := Lib.hid (rfind_none h hl ha)
    clear h wf hf ha
    go_enter Try.func36, Try.ntmps36
    go_wp2_with fail
    refine HU.out.mono ?_
    rintro e w1 ⟨rfl, rfl⟩
    go_wp2_with fail
    refine HN.out.mono ?_
    rintro e w2 ⟨rfl, rfl⟩
    go_wp2
    go_ret
    exact by obtain ⟨e1, e2⟩ := HS0.out (by rw [HE.out]; decide); rw [e1, e2, HE.out]; exact ⟨rfl, RPost.same ⟨v, HH.out⟩ (Keeps.refl _ _)⟩
  | some x =>
    have HE : Hid (fileE R s = 0) := by show _ = _; unfold fileE; rw [if_neg hf, ha]; rfl
    have HS := Lib.hid (rfind_some (s := s) h hl (by rw [ha]; rfl))
    have hx : w.cell? ⟨b, 1, none⟩ = some v := block_cell h.blk 1
    have hb := block_lt h.blk
    have HX : Hid (oldF R s = x) := by show _ = _; unfold oldF; rw [ha]; rfl
    rcases h.form with ⟨hnil, rfl⟩ | ⟨r, cap, rfl, hrb, hrl, hcap, hFr⟩
    · rw [hnil] at ha; cases ha
    have hz := HW.out.size ha
    by_cases hr : 0 ≤ n ∧ n ≤ x.bytes.size
    · have HE2 : Hid (dcutE R s n = 0) := by show _ = _; unfold dcutE; rw [if_pos HE.out, HX.out, if_pos hr]
      obtain ⟨m, rfl⟩ : ∃ m : Nat, n = m := ⟨n.toNat, by omega⟩
      have HD : Hid (dcutC R s m = burn ⟨R.room, R.used - (x.bytes.size - m), R.fuse, aput R.files s ⟨x.bytes.extract 0 m, if x.safe ≤ m then x.safe else m⟩⟩) := by
        show _ = _
        unfold dcutC keepD keepF
        rw [if_pos HE2.out, HX.out]
        rfl
      have n0 := hr.1
      have n1 := hr.2
      rw [show (if x.safe ≤ m then x.safe else (m : Int)) = min x.safe m by rw [Int.min_def]] at HD
      clear hr
      clear h wf hf ha
      go_enter Try.func36, Try.ntmps36
      go_wp2_with fail
      refine HU.out.mono ?_
      rintro e w1 ⟨rfl, rfl⟩
      go_wp2_with fail
      refine HS.out.mono ?_
      rintro e w2 ⟨i, hi, rfl, rfl, hn⟩
      have i0 : (0 : Int) ≤ i := by omega
      have i1 : (i : Int) < R.files.length := by omega
      have cb := (HH.out.cell rfl i hi).2.1
      have cf := (HH.out.cell rfl i hi).2.2
      have hg : R.files[i].2 = x := by rw [← HX.out, oldF_at HW.out.keys hi hn]
      rw [hg] at cb cf
      have HN := Lib.hid hn
      have HI := Lib.hid hi
      clear hn hg
      have fr1 := HH.out.row.frozenAt (i * 3 + 1)
      have fr2 := HH.out.row.frozenAt (i * 3 + 2)
      have HT : Hid (RAt (((w2.setCell ⟨r, i * 3 + 1, none⟩ (.string (x.bytes.extract 0 m))).setCell ⟨r, i * 3 + 2, none⟩ (.int .i64 (min x.safe m))).drew.drew) F b ⟨R.room, R.used - (x.bytes.size - m), R.fuse, aput R.files s ⟨x.bytes.extract 0 m, min x.safe m⟩⟩ (.slice (some ⟨r, 0, none⟩) R.files.length cap)) := (HH.out.turn2 HW.out HI.out HN.out (x.bytes.extract 0 m) (min x.safe m) (R.used - (x.bytes.size - m))).keep ((Keeps.refl (fun _ => False) _).drew.drew) (fun _ _ e => e)
      have HK : Hid (Keeps F w2 (((w2.setCell ⟨r, i * 3 + 1, none⟩ (.string (x.bytes.extract 0 m))).setCell ⟨r, i * 3 + 2, none⟩ (.int .i64 (min x.safe m))).drew.drew)) := (((Keeps.refl F w2).setC _ _ (fun _ => hFr)).setC _ _ (fun _ => hFr)).drew.drew
      go_wp2
      go_region
      go_wp2
      go_region
      go_wp2_with fail
      refine (rchanged_any ⟨_, HT.out⟩ HW.out.fuse).mono ?_
      rintro e w3 ⟨rfl, hp⟩
      have HP : Hid (RPost w2 F b (dcutC R s m) w3) := by
        show RPost _ _ _ _ _
        rw [HD.out]
        exact hp.trans (fun k e => .inl e) HK.out
      clear hp
      go_wp2
      go_ret
      exact ⟨by rw [HE2.out]; rfl, HP.out⟩
    · have HE2 : Hid (dcutE R s n = 1) := by show _ = _; unfold dcutE; rw [if_pos HE.out, HX.out, if_neg hr]
      have HD : Hid (dcutC R s n = R) := by show _ = _; unfold dcutC; rw [HE2.out]; rfl
      by_cases hn : n < 0
      · clear hr
        clear h wf hf ha
        go_enter Try.func36, Try.ntmps36
        go_wp2_with fail
        refine HU.out.mono ?_
        rintro e w1 ⟨rfl, rfl⟩
        go_wp2_with fail
        refine HS.out.mono ?_
        rintro e w2 ⟨i, hi, rfl, rfl, hn⟩
        have i0 : (0 : Int) ≤ i := by omega
        have i1 : (i : Int) < R.files.length := by omega
        have cb := (HH.out.cell rfl i hi).2.1
        have cf := (HH.out.cell rfl i hi).2.2
        have hg : R.files[i].2 = x := by rw [← HX.out, oldF_at HW.out.keys hi hn]
        rw [hg] at cb cf
        have HN := Lib.hid hn
        have HI := Lib.hid hi
        clear hn hg
        go_wp2
        go_ret
        rw [HE2.out, HD.out]
        exact ⟨rfl, RPost.same ⟨_, HH.out⟩ (Keeps.refl _ _)⟩
      · have hn2 : (x.bytes.size : Int) < n := by omega
        clear hr
        clear h wf hf ha
        go_enter Try.func36, Try.ntmps36
        go_wp2_with fail
        refine HU.out.mono ?_
        rintro e w1 ⟨rfl, rfl⟩
        go_wp2_with fail
        refine HS.out.mono ?_
        rintro e w2 ⟨i, hi, rfl, rfl, hn⟩
        have i0 : (0 : Int) ≤ i := by omega
        have i1 : (i : Int) < R.files.length := by omega
        have cb := (HH.out.cell rfl i hi).2.1
        have cf := (HH.out.cell rfl i hi).2.2
        have hg : R.files[i].2 = x := by rw [← HX.out, oldF_at HW.out.keys hi hn]
        rw [hg] at cb cf
        have HN := Lib.hid hn
        have HI := Lib.hid hi
        clear hn hg
        go_wp2
        go_ret
        rw [HE2.out, HD.out]
        exact ⟨rfl, RPost.same ⟨_, HH.out⟩ (Keeps.refl _ _)⟩
end Go.Proofs.Ytjfblcmpdcbpgaa
