/-
  Note.
-/
import Derived.Test.YtbjpifipjcfhkaaId
namespace Go.Proofs.Ytbjpifipjcfhkaa
open Go.RowKit Fx

theorem aput_aput {κ α : Type} [DecidableEq κ] (L : List (κ × α)) (s : κ) (u v : α) : aput (aput L s u) s v = aput L s v := by
  induction L with
  | nil => simp [aput]
  | cons p L ih =>
    obtain ⟨k, x⟩ := p
    by_cases hk : k = s
    · simp [aput, hk]
    · simp [aput, hk, ih]
def newHd (e : Int) : HeardC := ⟨e, fun _ => ⟨0, 0, 0⟩, 0, 0⟩
def sentB (b : BatchC) : SentC := ⟨b.seq, b.base, b.span⟩
def noteM (M : List (Int × HeardC)) (b : BatchC) : List (Int × HeardC) :=
  if mayB b = true then (if b.epoch < (oldH M b.prod).epoch then M else if (oldH M b.prod).epoch < b.epoch then aput M b.prod (addH (newHd b.epoch) (sentB b)) else aput M b.prod (addH (oldH M b.prod) (sentB b))) else M
def WfM (M : List (Int × HeardC)) : Prop := ∀ id H, aget M id = some H → 0 ≤ H.epoch ∧ HOk H
theorem newHd_ok (e : Int) : HOk (newHd e) := ⟨by show 0 < 5; omega, by show 0 ≤ 5; omega⟩
theorem WfM.old {M : List (Int × HeardC)} (h : WfM M) (id : Int) : HOk (oldH M id) ∧ (aget M id = some (oldH M id) ∨ (aget M id = none ∧ oldH M id = noneH)) := by
  unfold oldH
  cases e : aget M id with
  | none => exact ⟨noneH_ok, .inr ⟨rfl, rfl⟩⟩
  | some H => exact ⟨(h id H e).2, .inl rfl⟩
def batchV (b : BatchC) : Value := .agg #[.int .i64 b.base, .int .i64 b.span, .int .i64 b.prod, .int .i64 b.epoch, .int .i64 b.seq, .slice b.ra b.rn b.rc]
theorem mayB_epoch {b : BatchC} (h : mayB b = true) : 0 ≤ b.epoch ∧ b.epoch ≤ 32768 := by
  unfold mayB win at h
  simp only [Bool.and_eq_true, decide_eq_true_eq] at h
  exact h.1.1.1.2
set_option maxRecDepth 100000 in
set_option maxHeartbeats 1000000 in
theorem note_nil (b : BatchC) (w : World) : Calls Try.prog 12 #[.pointer none, .agg #[.int .i64 b.base, .int .i64 b.span, .int .i64 b.prod, .int .i64 b.epoch, .int .i64 b.seq, .slice b.ra b.rn b.rc]] w fun e w' => Same w e (.tuple #[]) w' := by
  go_enter Try.func12, Try.ntmps12
  go_wp2
  refine bodyPost_ret (results_none rfl _ _ _) rfl ?_
  exact ⟨rfl, (Keeps.refl _ _).alloc _⟩
section
variable {w0 w w' : World} {pb mb : Nat} {M : List (Int × HeardC)} {L : List (Int × (Nat × HeardC))}
set_option maxRecDepth 100000 in
set_option maxHeartbeats 1000000 in
theorem note_bad (h : PAt w0 w pb M mb L) (b : BatchC) (hb : mayB b = false) : Calls Try.prog 12 #[.pointer (some ⟨pb, 0, none⟩), .agg #[.int .i64 b.base, .int .i64 b.span, .int .i64 b.prod, .int .i64 b.epoch, .int .i64 b.seq, .slice b.ra b.rn b.rc]] w fun e w' => Same w e (.tuple #[]) w' := by
  have HM : Hid (∀ wx, Calls Try.prog 24 #[.agg #[.int .i64 b.base, .int .i64 b.span, .int .i64 b.prod, .int .i64 b.epoch, .int .i64 b.seq, .slice b.ra b.rn b.rc]] wx fun e w' => Same wx e (.bool false) w') := fun wx => by rw [← hb]; exact may_any b wx
  have HK : Hid (K0 w (w.alloc (.cells (bcells b) 31))) := (Keeps.refl _ _).alloc _
  go_enter Try.func12, Try.ntmps12
  go_wp2_with fail
  refine (HM.out _).mono ?_
  rintro e w1 ⟨rfl, k1⟩
  go_wp2
  refine bodyPost_ret (results_none rfl _ _ _) rfl ?_
  exact ⟨rfl, K0.tr HK.out k1⟩
set_option maxRecDepth 100000 in
set_option maxHeartbeats 4000000 in
theorem note_old (h : PAt w0 w pb M mb L) (b : BatchC) (hb : mayB b = true) (hE : b.epoch < (oldH M b.prod).epoch) : Calls Try.prog 12 #[.pointer (some ⟨pb, 0, none⟩), .agg #[.int .i64 b.base, .int .i64 b.span, .int .i64 b.prod, .int .i64 b.epoch, .int .i64 b.seq, .slice b.ra b.rn b.rc]] w fun e w' => Same w e (.tuple #[]) w' := by
  have hB : (w.alloc (.cells (bcells b) 31)).heap[w.heap.size]? = some (.cells (bcells b) 31 (0, 0)) := heap_new _ _ _ rfl
  have hK : K0 w (w.alloc (.cells (bcells b) 31)) := (Keeps.refl _ _).alloc _
  unfold bcells at hB hK
  generalize hwb : w.alloc (.cells #[.int .i64 b.base, .int .i64 b.span, .int .i64 b.prod, .int .i64 b.epoch, .int .i64 b.seq, .slice b.ra b.rn b.rc] 31) = wb at hB hK
  have HMB := Lib.hid h.map.lt
  have HB := Lib.hid hB
  have HK := Lib.hid hK
  have HH := Lib.hid (h.keep hK)
  have hme := mayB_epoch hb
  have HM : Hid (∀ wx, Calls Try.prog 24 #[.agg #[.int .i64 b.base, .int .i64 b.span, .int .i64 b.prod, .int .i64 b.epoch, .int .i64 b.seq, .slice b.ra b.rn b.rc]] wx fun e w' => Same wx e (.bool true) w') := fun wx => by rw [← hb]; exact may_any b wx
  subst hwb
  clear hB hK h hb
  go_enter Try.func12, Try.ntmps12
  go_wp2_with fail
  refine (HM.out _).mono ?_
  rintro e w1 ⟨rfl, k1⟩
  have HH1 := Lib.hid (HH.out.keep k1)
  have HB1 := Lib.hid ((k1.block _ (block_lt HB.out) (fun e => e)).trans HB.out)
  have HK1 := Lib.hid (K0.tr HK.out k1)
  have c2 : w1.cell? ⟨w.heap.size, 2, none⟩ = some (.int .i64 b.prod) := block_cell HB1.out 2
  have hlt := block_lt HB1.out
  clear k1
  go_wp2_with fail
  refine (of_any HH1.out b.prod).mono ?_
  rintro e w2 ⟨hb2, rfl, hh, k2, hor⟩
  have HH2 := Lib.hid (HH1.out.keep k2)
  have hb2' := (k2.block _ (block_lt HB1.out) (fun e => e)).trans HB1.out
  have HK2 := Lib.hid (K0.tr HK1.out k2)
  have HB2 := Lib.hid hb2'
  have HO := Lib.hid hh
  have HOR := Lib.hid hor
  have c0 : w2.cell? ⟨w.heap.size, 0, none⟩ = some (.int .i64 b.base) := block_cell hb2' 0
  have c1 : w2.cell? ⟨w.heap.size, 1, none⟩ = some (.int .i64 b.span) := block_cell hb2' 1
  have c2 : w2.cell? ⟨w.heap.size, 2, none⟩ = some (.int .i64 b.prod) := block_cell hb2' 2
  have c3 : w2.cell? ⟨w.heap.size, 3, none⟩ = some (.int .i64 b.epoch) := block_cell hb2' 3
  have c4 : w2.cell? ⟨w.heap.size, 4, none⟩ = some (.int .i64 b.seq) := block_cell hb2' 4
  have hlt := block_lt hb2'
  have e0 : w2.cell? ⟨hb2, 0, none⟩ = some (.int .i64 (oldH M b.prod).epoch) := block_cell hh 0
  have hlt2 := block_lt hh
  clear k2 hb2' hh hor
  go_wp2
  go_quiet (fail)
  go_wp2
  refine bodyPost_ret (results_none rfl _ _ _) rfl ?_
  exact ⟨rfl, HK2.out.drewN _⟩
set_option maxRecDepth 100000 in
set_option maxHeartbeats 4000000 in
theorem note_same (h : PAt w0 w pb M mb L) (b : BatchC) (hb : mayB b = true) (hE : ¬ b.epoch < (oldH M b.prod).epoch) (hE2 : ¬ (oldH M b.prod).epoch < b.epoch) (wf : WfM M) : Calls Try.prog 12 #[.pointer (some ⟨pb, 0, none⟩), .agg #[.int .i64 b.base, .int .i64 b.span, .int .i64 b.prod, .int .i64 b.epoch, .int .i64 b.seq, .slice b.ra b.rn b.rc]] w fun e w' => e = .returned (.tuple #[]) ∧ PSt w0 w' pb (aput M b.prod (addH (oldH M b.prod) (sentB b))) := by
  have HWF := Lib.hid wf
  have hB : (w.alloc (.cells (bcells b) 31)).heap[w.heap.size]? = some (.cells (bcells b) 31 (0, 0)) := heap_new _ _ _ rfl
  have hK : K0 w (w.alloc (.cells (bcells b) 31)) := (Keeps.refl _ _).alloc _
  unfold bcells at hB hK
  generalize hwb : w.alloc (.cells #[.int .i64 b.base, .int .i64 b.span, .int .i64 b.prod, .int .i64 b.epoch, .int .i64 b.seq, .slice b.ra b.rn b.rc] 31) = wb at hB hK
  have HMB := Lib.hid h.map.lt
  have HB := Lib.hid hB
  have HK := Lib.hid hK
  have HH := Lib.hid (h.keep hK)
  have hme := mayB_epoch hb
  have HM : Hid (∀ wx, Calls Try.prog 24 #[.agg #[.int .i64 b.base, .int .i64 b.span, .int .i64 b.prod, .int .i64 b.epoch, .int .i64 b.seq, .slice b.ra b.rn b.rc]] wx fun e w' => Same wx e (.bool true) w') := fun wx => by rw [← hb]; exact may_any b wx
  subst hwb
  clear hB hK h hb
  go_enter Try.func12, Try.ntmps12
  go_wp2_with fail
  refine (HM.out _).mono ?_
  rintro e w1 ⟨rfl, k1⟩
  have HH1 := Lib.hid (HH.out.keep k1)
  have HB1 := Lib.hid ((k1.block _ (block_lt HB.out) (fun e => e)).trans HB.out)
  have HK1 := Lib.hid (K0.tr HK.out k1)
  have c2 : w1.cell? ⟨w.heap.size, 2, none⟩ = some (.int .i64 b.prod) := block_cell HB1.out 2
  have hlt := block_lt HB1.out
  clear k1
  go_wp2_with fail
  refine (of_any HH1.out b.prod).mono ?_
  rintro e w2 ⟨hb2, rfl, hh, k2, hor⟩
  have HH2 := Lib.hid (HH1.out.keep k2)
  have hb2' := (k2.block _ (block_lt HB1.out) (fun e => e)).trans HB1.out
  have HK2 := Lib.hid (K0.tr HK1.out k2)
  have HB2 := Lib.hid hb2'
  have HO := Lib.hid hh
  have HOR := Lib.hid hor
  have c0 : w2.cell? ⟨w.heap.size, 0, none⟩ = some (.int .i64 b.base) := block_cell hb2' 0
  have c1 : w2.cell? ⟨w.heap.size, 1, none⟩ = some (.int .i64 b.span) := block_cell hb2' 1
  have c2 : w2.cell? ⟨w.heap.size, 2, none⟩ = some (.int .i64 b.prod) := block_cell hb2' 2
  have c3 : w2.cell? ⟨w.heap.size, 3, none⟩ = some (.int .i64 b.epoch) := block_cell hb2' 3
  have c4 : w2.cell? ⟨w.heap.size, 4, none⟩ = some (.int .i64 b.seq) := block_cell hb2' 4
  have hlt := block_lt hb2'
  have e0 : w2.cell? ⟨hb2, 0, none⟩ = some (.int .i64 (oldH M b.prod).epoch) := block_cell hh 0
  have hlt2 := block_lt hh
  clear k2 hb2' hh hor
  go_wp2
  go_quiet (fail)
  go_wp2
  go_quiet (fail)
  go_wp2_with fail
  refine (add_any (w := w2.drewN _) HO.out (HWF.out.old b.prod).1 (sentB b)).mono ?_
  rintro e w3 ⟨rfl, h3, k3⟩
  have ha : aget L b.prod = some (hb2, oldH M b.prod) := by
    rcases HOR.out with e | ⟨e, _⟩
    · exact e
    · have : oldH M b.prod = noneH := by unfold oldH; rw [HH2.out.agetL, e]; rfl
      rw [this] at hE2
      exact absurd hE2 (by show ¬ (b.epoch ≤ -1); omega)
  have HQ := Lib.hid ((HH2.out.keep ((Keeps.refl (fun _ => False) w2).drewN _)).turn ha k3 h3)
  clear h3 k3
  go_wp2
  go_end0
  exact ⟨rfl, _, _, HQ.out⟩
set_option maxRecDepth 100000 in
set_option maxHeartbeats 4000000 in
theorem note_new (h : PAt w0 w pb M mb L) (b : BatchC) (hb : mayB b = true) (hE : ¬ b.epoch < (oldH M b.prod).epoch) (hE2 : (oldH M b.prod).epoch < b.epoch) : Calls Try.prog 12 #[.pointer (some ⟨pb, 0, none⟩), .agg #[.int .i64 b.base, .int .i64 b.span, .int .i64 b.prod, .int .i64 b.epoch, .int .i64 b.seq, .slice b.ra b.rn b.rc]] w fun e w' => e = .returned (.tuple #[]) ∧ PSt w0 w' pb (aput M b.prod (addH (newHd b.epoch) (sentB b))) := by
  have hB : (w.alloc (.cells (bcells b) 31)).heap[w.heap.size]? = some (.cells (bcells b) 31 (0, 0)) := heap_new _ _ _ rfl
  have hK : K0 w (w.alloc (.cells (bcells b) 31)) := (Keeps.refl _ _).alloc _
  unfold bcells at hB hK
  generalize hwb : w.alloc (.cells #[.int .i64 b.base, .int .i64 b.span, .int .i64 b.prod, .int .i64 b.epoch, .int .i64 b.seq, .slice b.ra b.rn b.rc] 31) = wb at hB hK
  have HMB := Lib.hid h.map.lt
  have HB := Lib.hid hB
  have HK := Lib.hid hK
  have HH := Lib.hid (h.keep hK)
  have hme := mayB_epoch hb
  have HM : Hid (∀ wx, Calls Try.prog 24 #[.agg #[.int .i64 b.base, .int .i64 b.span, .int .i64 b.prod, .int .i64 b.epoch, .int .i64 b.seq, .slice b.ra b.rn b.rc]] wx fun e w' => Same wx e (.bool true) w') := fun wx => by rw [← hb]; exact may_any b wx
  subst hwb
  clear hB hK h hb
  go_enter Try.func12, Try.ntmps12
  go_wp2_with fail
  refine (HM.out _).mono ?_
  rintro e w1 ⟨rfl, k1⟩
  have HH1 := Lib.hid (HH.out.keep k1)
  have HB1 := Lib.hid ((k1.block _ (block_lt HB.out) (fun e => e)).trans HB.out)
  have HK1 := Lib.hid (K0.tr HK.out k1)
  have c2 : w1.cell? ⟨w.heap.size, 2, none⟩ = some (.int .i64 b.prod) := block_cell HB1.out 2
  have hlt := block_lt HB1.out
  clear k1
  go_wp2_with fail
  refine (of_any HH1.out b.prod).mono ?_
  rintro e w2 ⟨hb2, rfl, hh, k2, hor⟩
  have HH2 := Lib.hid (HH1.out.keep k2)
  have hb2' := (k2.block _ (block_lt HB1.out) (fun e => e)).trans HB1.out
  have HK2 := Lib.hid (K0.tr HK1.out k2)
  have HB2 := Lib.hid hb2'
  have HO := Lib.hid hh
  have HOR := Lib.hid hor
  have c0 : w2.cell? ⟨w.heap.size, 0, none⟩ = some (.int .i64 b.base) := block_cell hb2' 0
  have c1 : w2.cell? ⟨w.heap.size, 1, none⟩ = some (.int .i64 b.span) := block_cell hb2' 1
  have c2 : w2.cell? ⟨w.heap.size, 2, none⟩ = some (.int .i64 b.prod) := block_cell hb2' 2
  have c3 : w2.cell? ⟨w.heap.size, 3, none⟩ = some (.int .i64 b.epoch) := block_cell hb2' 3
  have c4 : w2.cell? ⟨w.heap.size, 4, none⟩ = some (.int .i64 b.seq) := block_cell hb2' 4
  have hlt := block_lt hb2'
  have e0 : w2.cell? ⟨hb2, 0, none⟩ = some (.int .i64 (oldH M b.prod).epoch) := block_cell hh 0
  have hlt2 := block_lt hh
  clear k2 hb2' hh hor
  go_wp2
  go_quiet (fail)
  go_wp2
  go_quiet (fail)
  go_upto_region 6 with fail
  generalize hwx : (w2.drewN _).alloc _ = wx
  have hN : HAt wx w2.heap.size (newHd b.epoch) := by rw [← hwx]; exact heap_new _ _ _ rfl
  have hk3 : K0 w2 wx := by rw [← hwx]; exact ((Keeps.refl _ _).drewN _).alloc _
  have h3 := HH2.out.keep hk3
  have b3 := (hk3.block _ (block_lt HB2.out) (fun e => e)).trans HB2.out
  have d0 : wx.drew.cell? ⟨pb, 0, none⟩ = some (.map (some mb)) := block_cell h3.blk 0
  have d2 : wx.drew.cell? ⟨w.heap.size, 2, none⟩ = some (.int .i64 b.prod) := block_cell b3 2
  have l0 : pb < wx.drew.heap.size := block_lt h3.blk
  have l2 : w.heap.size < wx.drew.heap.size := block_lt b3
  obtain ⟨o, hu, hu2⟩ := h3.map.put_all (intKey Try.underlying3) Try.underlying56 b.prod (.pointer (some ⟨w2.heap.size, 0, none⟩))
  have hu1 : (Instr.mapUpdate 56 (.map (some mb)) (.int .i64 b.prod) (.pointer (some ⟨w2.heap.size, 0, none⟩))).run Try.prog wx.drew = .ok () (setObjAt wx.drew mb o) := hu _ rfl
  have HP := Lib.hid (HH2.out.put (o := o) (w1 := wx.drew) b.prod (b := w2.heap.size) (x := newHd b.epoch) hk3.drew (Nat.le_refl _) hN (hu2 _ rfl))
  have B3 := Lib.hid b3
  clear hu hu2 hN hk3 h3 b3 c0 c1 c2 c3 c4 e0 hlt hlt2
  go_region
  have b4 := (setObjAt_other (b := mb) wx.drew o (show w.heap.size ≠ mb by have := HMB.out; omega)).trans B3.out
  have c0 : (setObjAt wx.drew mb o).cell? ⟨w.heap.size, 0, none⟩ = some (.int .i64 b.base) := block_cell b4 0
  have c1 : (setObjAt wx.drew mb o).cell? ⟨w.heap.size, 1, none⟩ = some (.int .i64 b.span) := block_cell b4 1
  have c4 : (setObjAt wx.drew mb o).cell? ⟨w.heap.size, 4, none⟩ = some (.int .i64 b.seq) := block_cell b4 4
  have l4 := block_lt b4
  have HX := Lib.hid (HP.out.her b.prod _ (by rw [aget_aput, if_pos rfl]))
  clear b4 d0 d2 l0 l2 hu1 hwx
  generalize setObjAt wx.drew mb o = wy at *
  go_wp2_with fail
  refine (add_any (w := wy) HX.out (newHd_ok _) (sentB b)).mono ?_
  rintro e w3 ⟨rfl, h3, k3⟩
  have hq := HP.out.turn (by rw [aget_aput, if_pos rfl]) k3 h3
  rw [aput_aput] at hq
  have HQ := Lib.hid hq
  clear h3 k3 hq
  go_wp2
  go_end0
  exact ⟨rfl, _, _, HQ.out⟩
theorem note_any (h : PSt w0 w pb M) (wf : WfM M) (b : BatchC) : Calls Try.prog 12 #[.pointer (some ⟨pb, 0, none⟩), .agg #[.int .i64 b.base, .int .i64 b.span, .int .i64 b.prod, .int .i64 b.epoch, .int .i64 b.seq, .slice b.ra b.rn b.rc]] w fun e w' => e = .returned (.tuple #[]) ∧ PSt w0 w' pb (noteM M b) := by
  have hh := h
  obtain ⟨mb, L, h⟩ := h
  unfold noteM
  cases hb : mayB b with
  | false =>
    rw [if_neg (by simp)]
    exact (note_bad h b hb).mono fun e w' hq => ⟨hq.1, hh.keep hq.2⟩
  | true =>
    rw [if_pos rfl]
    by_cases h1 : b.epoch < (oldH M b.prod).epoch
    · rw [if_pos h1]
      exact (note_old h b hb h1).mono fun e w' hq => ⟨hq.1, hh.keep hq.2⟩
    · rw [if_neg h1]
      by_cases h2 : (oldH M b.prod).epoch < b.epoch
      · rw [if_pos h2]
        exact note_new h b hb h1 h2
      · rw [if_neg h2]
        exact note_same h b hb h1 h2 wf
theorem addH_epoch (H : HeardC) (s : SentC) : (addH H s).epoch = H.epoch := rfl
theorem WfM.note (h : WfM M) (b : BatchC) : WfM (noteM M b) := fun id H e => by
  unfold noteM at e
  cases hb : mayB b with
  | false => rw [if_neg (by rw [hb]; simp)] at e; exact h id H e
  | true =>
    have hme := mayB_epoch hb
    rw [if_pos hb] at e
    by_cases h1 : b.epoch < (oldH M b.prod).epoch
    · rw [if_pos h1] at e; exact h id H e
    · rw [if_neg h1] at e
      by_cases h2 : (oldH M b.prod).epoch < b.epoch
      · rw [if_pos h2, aget_aput] at e
        split at e
        · cases e; exact ⟨hme.1, addH_ok (newHd_ok _) _⟩
        · exact h id H e
      · rw [if_neg h2, aget_aput] at e
        split at e
        · cases e
          refine ⟨?_, addH_ok (h.old b.prod).1 _⟩
          show 0 ≤ (oldH M b.prod).epoch
          omega
        · exact h id H e
end
end Go.Proofs.Ytbjpifipjcfhkaa
