/-
  Note, with what it keeps beside the producers.
-/
import Derived.Test.YtbjpifipjcfhkaaIn
namespace Go.Proofs.Ytbjpifipjcfhkaa
open Go.RowKit Fx

section
variable {w0 w w' : World} {pb mb : Nat} {M : List (Int × HeardC)} {L : List (Int × (Nat × HeardC))}
/-- What a Note leaves: its own blocks alone have turned, the new list's blocks are of the old one's, or made since. -/
def NoteF (w0 w : World) (pb mb : Nat) (L : List (Int × (Nat × HeardC))) (M' : List (Int × HeardC)) (e : Ending) (w' : World) : Prop :=
  e = .returned (.tuple #[]) ∧ ∃ L', PAt w0 w' pb M' mb L' ∧ Keeps (fun k => k = mb ∨ ∃ s p, aget L s = some p ∧ p.1 = k) w w' ∧ ∀ s p, aget L' s = some p → (∃ t q, aget L t = some q ∧ q.1 = p.1) ∨ w.heap.size ≤ p.1
theorem NoteF.same (h : PAt w0 w pb M mb L) {e : Ending} (hq : Same w e (.tuple #[]) w') : NoteF w0 w pb mb L M e w' :=
  ⟨hq.1, L, h.keep hq.2, hq.2.mono (fun _ _ e => e.elim), fun s p e => .inl ⟨s, p, e, rfl⟩⟩
set_option maxRecDepth 100000 in
set_option maxHeartbeats 4000000 in
theorem note_same_f (h : PAt w0 w pb M mb L) (b : BatchC) (hb : mayB b = true) (hE : ¬ b.epoch < (oldH M b.prod).epoch) (hE2 : ¬ (oldH M b.prod).epoch < b.epoch) (wf : WfM M) : Calls Try.prog 12 #[.pointer (some ⟨pb, 0, none⟩), .agg #[.int .i64 b.base, .int .i64 b.span, .int .i64 b.prod, .int .i64 b.epoch, .int .i64 b.seq, .slice b.ra b.rn b.rc]] w fun e w' => NoteF w0 w pb mb L (aput M b.prod (addH (oldH M b.prod) (sentB b))) e w' := by
  have HWF := Lib.hid wf
  have hB : (w.alloc (.cells (bcells b) 31)).heap[w.heap.size]? = some (.cells (bcells b) 31 (0, 0)) := heap_new _ _ _ rfl
  have hK : K0 w (w.alloc (.cells (bcells b) 31)) := (Keeps.refl _ _).alloc _
  unfold bcells at hB hK
  generalize hwb : w.alloc (.cells #[.int .i64 b.base, .int .i64 b.span, .int .i64 b.prod, .int .i64 b.epoch, .int .i64 b.seq, .slice b.ra b.rn b.rc] 31) = wb at hB hK
  have HMB := Lib.hid h.map.lt
  have HB := Lib.hid hB
  have HK := Lib.hid hK
  have HH := Lib.hid (h.keep hK)
  have hme := mayB_epoch hb
  have HM : Hid (∀ wx, Calls Try.prog 24 #[.agg #[.int .i64 b.base, .int .i64 b.span, .int .i64 b.prod, .int .i64 b.epoch, .int .i64 b.seq, .slice b.ra b.rn b.rc]] wx fun e w' => Same wx e (.bool true) w') := fun wx => by rw [← hb]; exact may_any b wx
  subst hwb
  clear hB hK h hb
  go_enter Try.func12, Try.ntmps12
  go_wp2_with fail
  refine (HM.out _).mono ?_
  rintro e w1 ⟨rfl, k1⟩
  have HH1 := Lib.hid (HH.out.keep k1)
  have HB1 := Lib.hid ((k1.block _ (block_lt HB.out) (fun e => e)).trans HB.out)
  have HK1 := Lib.hid (K0.tr HK.out k1)
  have c2 : w1.cell? ⟨w.heap.size, 2, none⟩ = some (.int .i64 b.prod) := block_cell HB1.out 2
  have hlt := block_lt HB1.out
  clear k1
  go_wp2_with fail
  refine (of_any HH1.out b.prod).mono ?_
  rintro e w2 ⟨hb2, rfl, hh, k2, hor⟩
  have HH2 := Lib.hid (HH1.out.keep k2)
  have hb2' := (k2.block _ (block_lt HB1.out) (fun e => e)).trans HB1.out
  have HK2 := Lib.hid (K0.tr HK1.out k2)
  have HB2 := Lib.hid hb2'
  have HO := Lib.hid hh
  have HOR := Lib.hid hor
  have c0 : w2.cell? ⟨w.heap.size, 0, none⟩ = some (.int .i64 b.base) := block_cell hb2' 0
  have c1 : w2.cell? ⟨w.heap.size, 1, none⟩ = some (.int .i64 b.span) := block_cell hb2' 1
  have c2 : w2.cell? ⟨w.heap.size, 2, none⟩ = some (.int .i64 b.prod) := block_cell hb2' 2
  have c3 : w2.cell? ⟨w.heap.size, 3, none⟩ = some (.int .i64 b.epoch) := block_cell hb2' 3
  have c4 : w2.cell? ⟨w.heap.size, 4, none⟩ = some (.int .i64 b.seq) := block_cell hb2' 4
  have hlt := block_lt hb2'
  have e0 : w2.cell? ⟨hb2, 0, none⟩ = some (.int .i64 (oldH M b.prod).epoch) := block_cell hh 0
  have hlt2 := block_lt hh
  clear k2 hb2' hh hor
  go_wp2
  go_quiet (fail)
  go_wp2
  go_quiet (fail)
  go_wp2_with fail
  refine (add_any (w := w2.drewN _) HO.out (HWF.out.old b.prod).1 (sentB b)).mono ?_
  rintro e w3 ⟨rfl, h3, k3⟩
  have ha : aget L b.prod = some (hb2, oldH M b.prod) := by
    rcases HOR.out with e | ⟨e, _⟩
    · exact e
    · have : oldH M b.prod = noneH := by unfold oldH; rw [HH2.out.agetL, e]; rfl
      rw [this] at hE2
      exact absurd hE2 (by show ¬ (b.epoch ≤ -1); omega)
  have HQ := Lib.hid ((HH2.out.keep ((Keeps.refl (fun _ => False) w2).drewN _)).turn ha k3 h3)
  have HKK : Hid (Keeps (fun k => k = mb ∨ ∃ s p, aget L s = some p ∧ p.1 = k) w w3) := (HK2.out.drewN _).mono (fun _ _ e => e.elim) |>.trans k3 (fun k _ e => .inr ⟨b.prod, _, ha, e.symm⟩)
  have HA := Lib.hid ha
  clear h3 k3 ha
  go_wp2
  go_end0
  refine ⟨rfl, _, HQ.out, HKK.out, fun s p e => ?_⟩
  rw [aget_aput] at e
  split at e
  · cases e; exact .inl ⟨b.prod, _, HA.out, rfl⟩
  · exact .inl ⟨s, p, e, rfl⟩
set_option maxRecDepth 100000 in
set_option maxHeartbeats 4000000 in
theorem note_new_f (h : PAt w0 w pb M mb L) (b : BatchC) (hb : mayB b = true) (hE : ¬ b.epoch < (oldH M b.prod).epoch) (hE2 : (oldH M b.prod).epoch < b.epoch) : Calls Try.prog 12 #[.pointer (some ⟨pb, 0, none⟩), .agg #[.int .i64 b.base, .int .i64 b.span, .int .i64 b.prod, .int .i64 b.epoch, .int .i64 b.seq, .slice b.ra b.rn b.rc]] w fun e w' => NoteF w0 w pb mb L (aput M b.prod (addH (newHd b.epoch) (sentB b))) e w' := by
  have hB : (w.alloc (.cells (bcells b) 31)).heap[w.heap.size]? = some (.cells (bcells b) 31 (0, 0)) := heap_new _ _ _ rfl
  have hK : K0 w (w.alloc (.cells (bcells b) 31)) := (Keeps.refl _ _).alloc _
  unfold bcells at hB hK
  generalize hwb : w.alloc (.cells #[.int .i64 b.base, .int .i64 b.span, .int .i64 b.prod, .int .i64 b.epoch, .int .i64 b.seq, .slice b.ra b.rn b.rc] 31) = wb at hB hK
  have HMB := Lib.hid h.map.lt
  have HB := Lib.hid hB
  have HK := Lib.hid hK
  have HH := Lib.hid (h.keep hK)
  have hme := mayB_epoch hb
  have HM : Hid (∀ wx, Calls Try.prog 24 #[.agg #[.int .i64 b.base, .int .i64 b.span, .int .i64 b.prod, .int .i64 b.epoch, .int .i64 b.seq, .slice b.ra b.rn b.rc]] wx fun e w' => Same wx e (.bool true) w') := fun wx => by rw [← hb]; exact may_any b wx
  subst hwb
  clear hB hK h hb
  go_enter Try.func12, Try.ntmps12
  go_wp2_with fail
  refine (HM.out _).mono ?_
  rintro e w1 ⟨rfl, k1⟩
  have HH1 := Lib.hid (HH.out.keep k1)
  have HB1 := Lib.hid ((k1.block _ (block_lt HB.out) (fun e => e)).trans HB.out)
  have HK1 := Lib.hid (K0.tr HK.out k1)
  have c2 : w1.cell? ⟨w.heap.size, 2, none⟩ = some (.int .i64 b.prod) := block_cell HB1.out 2
  have hlt := block_lt HB1.out
  clear k1
  go_wp2_with fail
  refine (of_any HH1.out b.prod).mono ?_
  rintro e w2 ⟨hb2, rfl, hh, k2, hor⟩
  have HH2 := Lib.hid (HH1.out.keep k2)
  have hb2' := (k2.block _ (block_lt HB1.out) (fun e => e)).trans HB1.out
  have HK2 := Lib.hid (K0.tr HK1.out k2)
  have HB2 := Lib.hid hb2'
  have HO := Lib.hid hh
  have HOR := Lib.hid hor
  have c0 : w2.cell? ⟨w.heap.size, 0, none⟩ = some (.int .i64 b.base) := block_cell hb2' 0
  have c1 : w2.cell? ⟨w.heap.size, 1, none⟩ = some (.int .i64 b.span) := block_cell hb2' 1
  have c2 : w2.cell? ⟨w.heap.size, 2, none⟩ = some (.int .i64 b.prod) := block_cell hb2' 2
  have c3 : w2.cell? ⟨w.heap.size, 3, none⟩ = some (.int .i64 b.epoch) := block_cell hb2' 3
  have c4 : w2.cell? ⟨w.heap.size, 4, none⟩ = some (.int .i64 b.seq) := block_cell hb2' 4
  have hlt := block_lt hb2'
  have e0 : w2.cell? ⟨hb2, 0, none⟩ = some (.int .i64 (oldH M b.prod).epoch) := block_cell hh 0
  have hlt2 := block_lt hh
  clear k2 hb2' hh hor
  go_wp2
  go_quiet (fail)
  go_wp2
  go_quiet (fail)
  go_upto_region 6 with fail
  generalize hwx : (w2.drewN _).alloc _ = wx
  have hN : HAt wx w2.heap.size (newHd b.epoch) := by rw [← hwx]; exact heap_new _ _ _ rfl
  have hk3 : K0 w2 wx := by rw [← hwx]; exact ((Keeps.refl _ _).drewN _).alloc _
  have h3 := HH2.out.keep hk3
  have b3 := (hk3.block _ (block_lt HB2.out) (fun e => e)).trans HB2.out
  have d0 : wx.drew.cell? ⟨pb, 0, none⟩ = some (.map (some mb)) := block_cell h3.blk 0
  have d2 : wx.drew.cell? ⟨w.heap.size, 2, none⟩ = some (.int .i64 b.prod) := block_cell b3 2
  have l0 : pb < wx.drew.heap.size := block_lt h3.blk
  have l2 : w.heap.size < wx.drew.heap.size := block_lt b3
  obtain ⟨o, hu, hu2⟩ := h3.map.put_all (intKey Try.underlying3) Try.underlying56 b.prod (.pointer (some ⟨w2.heap.size, 0, none⟩))
  have hu1 : (Instr.mapUpdate 56 (.map (some mb)) (.int .i64 b.prod) (.pointer (some ⟨w2.heap.size, 0, none⟩))).run Try.prog wx.drew = .ok () (setObjAt wx.drew mb o) := hu _ rfl
  have HP := Lib.hid (HH2.out.put (o := o) (w1 := wx.drew) b.prod (b := w2.heap.size) (x := newHd b.epoch) hk3.drew (Nat.le_refl _) hN (hu2 _ rfl))
  have B3 := Lib.hid b3
  have HKX := Lib.hid hk3
  clear hu hu2 hN hk3 h3 b3 c0 c1 c2 c3 c4 e0 hlt hlt2
  go_region
  have b4 := (setObjAt_other (b := mb) wx.drew o (show w.heap.size ≠ mb by have := HMB.out; omega)).trans B3.out
  have c0 : (setObjAt wx.drew mb o).cell? ⟨w.heap.size, 0, none⟩ = some (.int .i64 b.base) := block_cell b4 0
  have c1 : (setObjAt wx.drew mb o).cell? ⟨w.heap.size, 1, none⟩ = some (.int .i64 b.span) := block_cell b4 1
  have c4 : (setObjAt wx.drew mb o).cell? ⟨w.heap.size, 4, none⟩ = some (.int .i64 b.seq) := block_cell b4 4
  have l4 := block_lt b4
  have HX := Lib.hid (HP.out.her b.prod _ (by rw [aget_aput, if_pos rfl]))
  have HM0 : Hid (Keeps (fun k => k = mb) w (setObjAt wx.drew mb o)) := Keeps.setObj (S := fun k => k = mb) ((HK2.out.trans HKX.out (fun _ _ e => e)).drew.mono (fun _ _ e => e.elim)) (fun _ => rfl) _
  clear b4 d0 d2 l0 l2 hu1 hwx
  generalize setObjAt wx.drew mb o = wy at *
  go_wp2_with fail
  refine (add_any (w := wy) HX.out (newHd_ok _) (sentB b)).mono ?_
  rintro e w3 ⟨rfl, h3, k3⟩
  have hq := HP.out.turn (by rw [aget_aput, if_pos rfl]) k3 h3
  rw [aput_aput] at hq
  have HQ := Lib.hid hq
  have HKK : Hid (Keeps (fun k => k = mb ∨ ∃ s p, aget L s = some p ∧ p.1 = k) w w3) := (HM0.out.mono (fun _ _ e => .inl e)).trans k3 (fun k hk e => by subst e; exact absurd hk (by have := HK2.out.size; omega))
  clear h3 k3 hq
  go_wp2
  go_end0
  refine ⟨rfl, _, HQ.out, HKK.out, fun s p e => ?_⟩
  rw [aget_aput] at e
  split at e
  · cases e; exact .inr HK2.out.size
  · rename_i hne
    rw [aget_aput, if_neg hne] at e
    exact .inl ⟨s, p, e, rfl⟩
theorem note_f (h : PAt w0 w pb M mb L) (wf : WfM M) (b : BatchC) : Calls Try.prog 12 #[.pointer (some ⟨pb, 0, none⟩), .agg #[.int .i64 b.base, .int .i64 b.span, .int .i64 b.prod, .int .i64 b.epoch, .int .i64 b.seq, .slice b.ra b.rn b.rc]] w fun e w' => NoteF w0 w pb mb L (noteM M b) e w' := by
  unfold noteM
  cases hb : mayB b with
  | false =>
    rw [if_neg (by simp)]
    exact (note_bad h b hb).mono fun e w' hq => NoteF.same h hq
  | true =>
    rw [if_pos rfl]
    by_cases h1 : b.epoch < (oldH M b.prod).epoch
    · rw [if_pos h1]
      exact (note_old h b hb h1).mono fun e w' hq => NoteF.same h hq
    · rw [if_neg h1]
      by_cases h2 : (oldH M b.prod).epoch < b.epoch
      · rw [if_pos h2]
        exact note_new_f h b hb h1 h2
      · rw [if_neg h2]
        exact note_same_f h b hb h1 h2 wf
/-- Producers, and blocks that are none of theirs. -/
def PF (w0 w : World) (F : Nat → Prop) (pb : Nat) (M : List (Int × HeardC)) : Prop :=
  ∃ mb L, PAt w0 w pb M mb L ∧ ¬ F pb ∧ ¬ F mb ∧ (∀ s p, aget L s = some p → ¬ F p.1) ∧ ∀ k, F k → w0.heap.size ≤ k
variable {F G S : Nat → Prop}
theorem PF.st (h : PF w0 w F pb M) : PSt w0 w pb M := by
  obtain ⟨mb, L, h, _⟩ := h
  exact ⟨mb, L, h⟩
theorem PF.of (h : PSt w0 w pb M) : PF w0 w (fun _ => False) pb M := by
  obtain ⟨mb, L, h⟩ := h
  exact ⟨mb, L, h, fun e => e, fun e => e, fun _ _ _ e => e, fun _ e => e.elim⟩
theorem PF.keepS (h : PF w0 w F pb M) (hk : Keeps S w w') (hS : ∀ k, k < w.heap.size → S k → F k) : PF w0 w' F pb M := by
  obtain ⟨mb, L, h, h1, h2, h3, h4⟩ := h
  refine ⟨mb, L, h.keepS (S := fun k => k < w.heap.size ∧ S k) (hk.mono fun k a e => ⟨a, e⟩) fun k e => ⟨h4 _ (hS k e.1 e.2), ?_, ?_, fun s p e2 e3 => h3 s p e2 (by rw [e3]; exact hS k e.1 e.2)⟩, h1, h2, h3, h4⟩
  · intro e2; subst e2; exact h1 (hS _ e.1 e.2)
  · intro e2; subst e2; exact h2 (hS _ e.1 e.2)
theorem PF.keep (h : PF w0 w F pb M) (hk : K0 w w') : PF w0 w' F pb M := h.keepS hk (fun _ _ e => e.elim)
theorem PF.more (h : PF w0 w F pb M) (hG : ∀ k, G k → F k ∨ w.heap.size ≤ k) : PF w0 w G pb M := by
  obtain ⟨mb, L, h, h1, h2, h3, h4⟩ := h
  have a1 := block_lt h.blk
  have a2 := h.map.lt
  refine ⟨mb, L, h, fun e => ?_, fun e => ?_, fun s p e2 e => ?_, fun k e => ?_⟩
  · rcases hG _ e with e | e
    · exact h1 e
    · omega
  · rcases hG _ e with e | e
    · exact h2 e
    · omega
  · rcases hG _ e with e | e
    · exact h3 s p e2 e
    · have := block_lt (h.her s p e2); omega
  · rcases hG _ e with e | e
    · exact h4 k e
    · have := h.k0.size; omega
theorem note_pf {M' : List (Int × HeardC)} (h : PF w0 w F pb M) (hF : ∀ k, F k → k < w.heap.size) (wf : WfM M) (b : BatchC) (hr : noteM M b = M') : Calls Try.prog 12 #[.pointer (some ⟨pb, 0, none⟩), .agg #[.int .i64 b.base, .int .i64 b.span, .int .i64 b.prod, .int .i64 b.epoch, .int .i64 b.seq, .slice b.ra b.rn b.rc]] w fun e w' => e = .returned (.tuple #[]) ∧ PF w0 w' F pb M' ∧ Keeps (fun k => w0.heap.size ≤ k ∧ ¬ F k) w w' := by
  obtain ⟨mb, L, h, h1, h2, h3, h4⟩ := h
  rw [← hr]
  refine (note_f h wf b).mono fun e w' hq => ?_
  obtain ⟨rfl, L', hp, hk, hb⟩ := hq
  refine ⟨rfl, ⟨mb, L', hp, h1, h2, fun s p e2 e3 => ?_, h4⟩, hk.mono fun k hlt e => ?_⟩
  · rcases hb s p e2 with ⟨t, q, e4, e5⟩ | e4
    · exact h3 t q e4 (by rw [e5]; exact e3)
    · have := hF _ e3; omega
  · rcases e with e | ⟨s, p, e, e2⟩
    · subst e; exact ⟨h.new.2, h2⟩
    · subst e2; exact ⟨(h.fnew s p e).1, h3 s p e⟩
end
end Go.Proofs.Ytbjpifipjcfhkaa
