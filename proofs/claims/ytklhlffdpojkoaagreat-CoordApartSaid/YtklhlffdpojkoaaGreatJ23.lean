/-
  The document's coordinator: a new group has been laid in its place.
-/
import Derived.Test.YtklhlffdpojkoaaGreatJ22
namespace Go.Proofs.YtklhlffdpojkoaaGreat
open Go.RowKit Go.Shelf Fx

theorem ins_lt {α : Type} {L : List α} {k : Nat} (hk : k ≤ L.length) (x : α) {j : Nat} (hj : j < k) (h : j < (L.take k ++ x :: L.drop k).length) : (L.take k ++ x :: L.drop k)[j] = L[j] := by
  rw [List.getElem_append_left (by simp; omega), List.getElem_take]
theorem ins_eq {α : Type} {L : List α} {k : Nat} (hk : k ≤ L.length) (x : α) (h : k < (L.take k ++ x :: L.drop k).length) : (L.take k ++ x :: L.drop k)[k] = x := by
  rw [List.getElem_append_right (by simp; omega)]
  simp [Nat.min_eq_left hk]
theorem ins_gt {α : Type} {L : List α} {k : Nat} (hk : k ≤ L.length) (x : α) {j : Nat} (hj : k ≤ j) (hl : j < L.length) (h : j + 1 < (L.take k ++ x :: L.drop k).length) : (L.take k ++ x :: L.drop k)[j + 1] = L[j] := by
  rw [List.getElem_append_right (by simp; omega)]
  have e : j + 1 - (L.take k).length = (j - k) + 1 := by simp; omega
  simp only [e, List.getElem_cons_succ, List.getElem_drop]
  congr 1
  omega
/-- What each group takes, the new one at k. -/
def fpIns (fp : Nat → Nat → Prop) (G : Nat → Prop) (k : Nat) (j : Nat) : Nat → Prop := if j < k then fp j else if j = k then G else fp (j - 1)
section
variable {w w2 wr : World} {F G : Nat → Prop} {cb b : Nat} {C : CoordC} {Y : RLay} {v nv : Value} {g' : GroupC} {s : ByteArray} {k : Nat}
theorem RCAt.insert (h : RCAt w F cb C Y v) (hk : K0 w w2) (hg : RGrp w2 G b g') (hG : ∀ j, G j → w.heap.size ≤ j) (hkr : K0 w2 wr) (hkl : k ≤ Y.L.length)
    (hrow : wr.ownsRow w2.heap.size 88 2 nv (Y.L.length + 1) ((Y.L.take k ++ (s, (b, g')) :: Y.L.drop k).flatMap encN)) :
    RCpost w F cb ⟨C.s, C.r, C.gs.take k ++ (s, g') :: C.gs.drop k, C.off⟩ (wr.setCell ⟨cb, 2, none⟩ nv) := by
  have hcb : cb < w.heap.size := block_lt h.blk
  have hkw : K0 w wr := K0.tr hk hkr
  have hks : Keeps (fun j => j = cb) w (wr.setCell ⟨cb, 2, none⟩ nv) := (hkw.mono (S1 := fun j => j = cb) (fun _ _ e => e.elim)).setC 2 _ (fun _ => rfl)
  have hk2s : Keeps (fun j => j = cb) w2 (wr.setCell ⟨cb, 2, none⟩ nv) := (hkr.mono (S1 := fun j => j = cb) (fun _ _ e => e.elim)).setC 2 _ (fun _ => rfl)
  have hGlt : ∀ j, G j → j < w2.heap.size := fun j e => by obtain ⟨_, _, q⟩ := hg; exact q.lt j e
  have hlen : (Y.L.take k ++ (s, (b, g')) :: Y.L.drop k).length = Y.L.length + 1 := by simp; omega
  have hold : ∀ j i, j < Y.L.length + 1 → fpIns Y.fp G k j i → (∃ j', j' < Y.L.length ∧ Y.fp j' i ∧ j = (if j' < k then j' else j' + 1)) ∨ (j = k ∧ G i) := fun j i hj e => by
    unfold fpIns at e
    by_cases h1 : j < k
    · rw [if_pos h1] at e
      exact .inl ⟨j, by omega, e, by rw [if_pos h1]⟩
    · rw [if_neg h1] at e
      by_cases h2 : j = k
      · rw [if_pos h2] at e
        exact .inr ⟨h2, e⟩
      · rw [if_neg h2] at e
        exact .inl ⟨j - 1, by omega, e, by rw [if_neg (by omega)]; omega⟩
  have hsz2 := hk2s.size
  have hszw := hk.size
  refine ⟨fun j => F j ∨ (w.heap.size ≤ j ∧ j < (wr.setCell ⟨cb, 2, none⟩ nv).heap.size), ⟨⟨Y.tb, Y.L.take k ++ (s, (b, g')) :: Y.L.drop k, Y.ft, fpIns Y.fp G k⟩, nv, ?_⟩, fun j e => e.imp id (fun e => e.1), hks.mono (fun j _ e => e ▸ h.fcb)⟩
  have hown : (wr.setCell ⟨cb, 2, none⟩ nv).ownsRow w2.heap.size 88 2 nv (Y.L.length + 1) ((Y.L.take k ++ (s, (b, g')) :: Y.L.drop k).flatMap encN) := y_row_keep ((Keeps.refl (fun j => j = cb) wr).setC 2 _ (fun _ => rfl)) hrow (fun j e e2 => by have := (hrow.lt j e).1; omega)
  refine ⟨?_, ?_, ?_, h.tab.keep hks (fun j e1 e2 => (h.ftn j e1).2.1 e2), ?_, .inl h.fcb, ?_, ?_, ?_, ?_, ?_⟩
  · exact setCell_block ((hkw.block cb hcb (fun e => e)).trans h.blk) 2 _
  · show (wr.setCell ⟨cb, 2, none⟩ nv).ownsRow 0 _ 2 nv (Y.L.take k ++ (s, (b, g')) :: Y.L.drop k).length _
    rw [hlen]
    exact y_own_base hown (Nat.zero_le _)
  · show gcore (Y.L.take k ++ (s, (b, g')) :: Y.L.drop k) = _
    rw [← h.core]
    unfold gcore
    rw [List.map_append, List.map_cons, List.map_take, List.map_drop]
  · intro j hj
    have hj' : j < Y.L.length + 1 := by rw [← hlen]; exact hj
    show RGrp _ (fpIns Y.fp G k j) (Y.L.take k ++ (s, (b, g')) :: Y.L.drop k)[j].2.1 (Y.L.take k ++ (s, (b, g')) :: Y.L.drop k)[j].2.2
    rcases Nat.lt_trichotomy j k with h1 | h1 | h1
    · rw [ins_lt hkl _ h1 hj]
      unfold fpIns
      rw [if_pos h1]
      exact (h.grp j (by omega)).keep hks (fun i e1 e2 => (h.fpn j i (by omega) e1).2 e2)
    · subst h1
      rw [ins_eq hkl _ hj]
      unfold fpIns
      rw [if_neg (Nat.lt_irrefl _), if_pos rfl]
      exact hg.keep hk2s (fun i e1 e2 => by have := hG i e1; omega)
    · obtain ⟨i, rfl⟩ : ∃ i, j = i + 1 := ⟨j - 1, by omega⟩
      rw [ins_gt hkl _ (by omega) (by omega) hj]
      unfold fpIns
      rw [if_neg (by omega), if_neg (by omega)]
      exact (h.grp i (by omega)).keep hks (fun l e1 e2 => (h.fpn i l (by omega) e1).2 e2)
  · intro j e
    exact e.elim (fun e => Nat.lt_of_lt_of_le (h.lt j e) hks.size) (fun e => e.2)
  · intro j e
    have h1 := hown.lt j e
    refine ⟨.inr ⟨by omega, h1.2⟩, by omega, fun e2 => ?_, fun i hi e2 => ?_⟩
    · have := h.lt j (h.ftn j e2).1; omega
    · rcases hold i j (by rw [← hlen]; exact hi) e2 with ⟨i', hi', e3, _⟩ | ⟨_, e3⟩
      · have := h.lt j (h.fpn i' j hi' e3).1; omega
      · have := hGlt j e3; omega
  · intro j e
    obtain ⟨q1, q2, q3⟩ := h.ftn j e
    refine ⟨.inl q1, q2, fun i hi e2 => ?_⟩
    rcases hold i j (by rw [← hlen]; exact hi) e2 with ⟨i', hi', e3, _⟩ | ⟨_, e3⟩
    · exact q3 i' hi' e3
    · have := h.lt j q1; have := hG j e3; omega
  · intro i j hi e
    rcases hold i j (by rw [← hlen]; exact hi) e with ⟨i', hi', e3, _⟩ | ⟨_, e3⟩
    · exact ⟨.inl (h.fpn i' j hi' e3).1, (h.fpn i' j hi' e3).2⟩
    · have := hG j e3
      have := hGlt j e3
      exact ⟨.inr ⟨by omega, by omega⟩, by omega⟩
  · intro i j l hi hj hij e1 e2
    rcases hold i l (by rw [← hlen]; exact hi) e1 with ⟨i', hi', e3, a1⟩ | ⟨a1, e3⟩
    · rcases hold j l (by rw [← hlen]; exact hj) e2 with ⟨j', hj', e4, a2⟩ | ⟨a2, e4⟩
      · refine h.apart i' j' l hi' hj' (fun e => hij ?_) e3 e4
        rw [a1, a2, e]
      · have := h.lt l (h.fpn i' l hi' e3).1; have := hG l e4; omega
    · rcases hold j l (by rw [← hlen]; exact hj) e2 with ⟨j', hj', e4, a2⟩ | ⟨a2, e4⟩
      · have := h.lt l (h.fpn j' l hj' e4).1; have := hG l e3; omega
      · exact hij (a1.trans a2.symm)
end
end Go.Proofs.YtklhlffdpojkoaaGreat

/-
  The document's coordinator: Sync.
-/
namespace Go.Proofs.YtklhlffdpojkoaaGreat
open Go.RowKit Go.Shelf Fx

def csyncE (C : CoordC) (s : ByteArray) (m gn : Int) (tops : List TopC) (now : Int) : Int := match aget C.gs s with
  | some g => syncE g m gn tops now
  | none => 11
def csyncC (C : CoordC) (s : ByteArray) (m gn : Int) (tops : List TopC) (round : Bool) (now : Int) : CoordC := match aget C.gs s with
  | some g => ⟨C.s, C.r, aput C.gs s (syncG g m gn tops round now), C.off⟩
  | none => C
def csyncP (C : CoordC) (s : ByteArray) (m gn : Int) (tops : List TopC) (round : Bool) (now : Int) : List PartC := match aget C.gs s with
  | some g => if syncE g m gn tops now = 0 then partsOf (syncG g m gn tops round now) m else []
  | none => []
/-- The block of a slice that is not empty. -/
def vblk (v : Value) (k : Nat) : Prop := ∃ x n c, v = .slice (some x) n c ∧ n ≠ 0 ∧ x.block = k
theorem Out.vblk {α : Type} {n : Nat} {R : Rdr α} {w : World} {G : Nat → Prop} {v : Value} {l : List α} (h : Out n R w G v l) {k : Nat} (hk : vblk v k) : k < w.heap.size ∧ G k := by
  obtain ⟨a, cap, rfl, _, h3⟩ := h
  obtain ⟨x, m, c, e, hm, rfl⟩ := hk
  simp only [Value.slice.injEq] at e
  obtain ⟨rfl, rfl, _⟩ := e
  exact h3 x rfl (fun e => hm (by rw [e]; rfl))
theorem Out.blocks {α : Type} {n : Nat} {R : Rdr α} (hR : Still R) {w w' : World} {G : Nat → Prop} {v : Value} {l : List α} (h : Out n R w G v l) (hs : w.heap.size ≤ w'.heap.size) (hb : ∀ k, Go.Proofs.YtklhlffdpojkoaaGreat.vblk v k → w'.heap[k]? = w.heap[k]?) : Out n R w' G v l := by
  obtain ⟨a, cap, rfl, ⟨h1, h2, h3⟩, h4⟩ := h
  refine ⟨a, cap, rfl, ⟨h1, h2, fun hne => ?_⟩, fun x e hne => ⟨Nat.lt_of_lt_of_le (h4 x e hne).1 hs, (h4 x e hne).2⟩⟩
  obtain ⟨b, off, rfl, hr⟩ := h3 hne
  have hbb := hb b ⟨⟨b, off, none⟩, l.length, cap, rfl, fun e => hne (List.eq_nil_of_length_eq_zero e), rfl⟩
  refine ⟨b, off, rfl, fun i hi => ?_⟩
  obtain ⟨cs, e1, e2, e3⟩ := hr i hi
  refine ⟨cs, e1, fun j hj => ?_, hR _ _ _ _ e3⟩
  rw [← e2 j hj]
  simp only [World.cell?, hbb]
/-- The parts that are answered, as a row. -/
def PartsR (w' : World) (pv : Value) (ps : List PartC) : Prop := Out 2 rPart w' (fun _ => True) pv ps ∧ ps.length ≤ 100000
theorem PartsR.nil (w' : World) : PartsR w' (.slice none 0 0) [] := ⟨Out.nil _ _ _ _, Nat.zero_le _⟩
def RCSyncP (w : World) (F : Nat → Prop) (cb : Nat) (C' : CoordC) (er : Int) (ps : List PartC) (e : Ending) (w' : World) : Prop :=
  ∃ pv, e = .returned (.tuple #[pv, .int .i64 er]) ∧ RCpost w F cb C' w' ∧ PartsR w' pv ps
section
variable {w w' : World} {F : Nat → Prop} {cb : Nat} {C : CoordC} {Y : RLay} {v : Value}
set_option maxRecDepth 100000 in
set_option maxHeartbeats 4000000 in
theorem rcsync_any (s : ByteArray) (m gn now : Int) (tv : Value) (tops : List TopC) (round : Bool) (h : RCAt w F cb C Y v) {n : Nat} (ok : ∀ g, aget C.gs s = some g → Ok n g) (ht : Out 2 rTop w (fun k => ¬ F k) tv tops) :
    Calls Tryz.prog 27 #[.pointer (some ⟨cb, 0, none⟩), .string s, .int .i64 m, .int .i64 gn, tv, .bool round, .int .i64 now] w (RCSyncP w F cb (csyncC C s m gn tops round now) (csyncE C s m gn tops now) (csyncP C s m gn tops round now)) := by
  have HFI := Lib.hid (rcfind_any s h)
  have HH := Lib.hid h
  have HA := Lib.hid (h.agetL s)
  have HW := Lib.hid ok
  have HTO := Lib.hid ht
  obtain ⟨ta, tc, rfl, _, _⟩ := ht
  clear h ok
  cases hf : aget Y.L s with
  | none =>
    rw [hf] at HFI HA
    have HP : Hid (∀ wx, K0 w wx → RCSyncP w F cb (csyncC C s m gn tops round now) (csyncE C s m gn tops now) (csyncP C s m gn tops round now) (.returned (.tuple #[.slice none 0 0, .int .i64 11])) wx) := fun wx hk => by
      unfold csyncC csyncE csyncP
      rw [HA.out]
      exact ⟨_, rfl, RCpost.same ⟨_, _, HH.out⟩ hk, PartsR.nil _⟩
    clear hf
    go_enter Tryz.func27, Tryz.ntmps27
    go_wp2_with fail
    refine HFI.out.mono ?_
    rintro e w1 ⟨rfl, k1⟩
    dsimp only [ptrOf]
    have HK1 := Lib.hid k1
    clear k1
    go_wp2
    go_ret2
    exact HP.out _ HK1.out
  | some p =>
    obtain ⟨b, g⟩ := p
    rw [hf] at HFI HA
    have hA : aget C.gs s = some g := HA.out
    have HB : Hid (∀ wx, K0 w wx → Calls Tryz.prog 52 #[.pointer (some ⟨b, 0, none⟩), .int .i64 m, .int .i64 gn, .slice ta tops.length tc, .bool round, .int .i64 now] wx (RCSyncP w F cb (csyncC C s m gn tops round now) (csyncE C s m gn tops now) (csyncP C s m gn tops round now))) := fun wx hk => by
      have h1 := HH.out.keep hk (fun _ _ e => e)
      obtain ⟨i, hi, _, hix, hg⟩ := h1.at hf
      have hok := HW.out g hA
      refine (rsync_any wx (Y.fp i) b g m gn now _ tops round hg hok.wf hok.bnd (hok.sync m gn tops round now).bnd (HTO.out.keep still_top hk (fun _ _ _ e => e) (fun k _ e e2 => e (HH.out.fpn i k hi e2).1))).mono ?_
      rintro e w' ⟨pv, F', rfl, q1, q2, q3, ps, q4, q5, q6, q7⟩
      have hp : RCpost w F cb (csyncC C s m gn tops round now) w' := by
        unfold csyncC
        rw [hA]
        exact RCpost.trans hk HH.out.lt (h1.turn hf (hix ▸ ⟨F', q1, q2, q3⟩))
      refine ⟨pv, ?_, hp, ?_⟩
      · unfold csyncE
        rw [hA]
      · unfold csyncP
        rw [hA]
        dsimp only
        by_cases h0 : syncE g m gn tops now = 0
        · rw [if_pos h0, ← q6 h0]
          exact ⟨q4, q5⟩
        · rw [if_neg h0, ← q7 h0]
          exact ⟨q4, q5⟩
    clear hf hA
    go_enter Tryz.func27, Tryz.ntmps27
    go_wp2_with fail
    refine HFI.out.mono ?_
    rintro e w1 ⟨rfl, k1⟩
    dsimp only [ptrOf]
    have HK1 := Lib.hid k1
    clear k1
    go_wp2_with fail
    refine (HB.out _ HK1.out).mono ?_
    rintro e w2 ⟨pv, rfl, hq⟩
    have HQ := Lib.hid hq
    clear hq
    go_wp2
    go_ret2
    exact ⟨pv, rfl, HQ.out⟩
end
end Go.Proofs.YtklhlffdpojkoaaGreat

/-
  The program's coordinator with its frame: Leave, Beat, Sync, Commit, Drop.
-/
namespace Go.Proofs.YtklhlffdpojkoaaGreat
open Go.RowKit Go.Shelf Fx

/-- The blocks that a coordinator takes. -/
def cfoot (cb : Nat) (Y : CLay) (k : Nat) : Prop := k = cb ∨ k = Y.gb ∨ k = Y.tb ∨ k = Y.ob ∨ ∃ i, i < Y.L.length ∧ Y.fp i k
/-- What a call on a coordinator leaves. -/
def CPost (w0 w : World) (cb : Nat) (Y : CLay) (C' : CoordC) (w' : World) : Prop := ∃ Y', CAt w0 w' cb C' Y' ∧ (∀ k, cfoot cb Y' k → cfoot cb Y k ∨ w.heap.size ≤ k) ∧ Keeps (cfoot cb Y) w w'
section
variable {w0 w w' w1 w2 : World} {cb : Nat} {C C' : CoordC} {Y : CLay}
theorem CAt.ltC (h : CAt w0 w cb C Y) : ∀ k, cfoot cb Y k → k < w.heap.size := fun k e => by
  rcases e with rfl | rfl | rfl | rfl | ⟨i, hi, e⟩
  · exact block_lt h.blk
  · exact h.map.lt
  · exact block_lt h.off.blk
  · exact h.off.map.lt
  · exact (h.grp i hi).ltF k e
theorem CAt.newC (h : CAt w0 w cb C Y) : ∀ k, cfoot cb Y k → w0.heap.size ≤ k := fun k e => by
  rcases e with rfl | rfl | rfl | rfl | ⟨i, hi, e⟩
  · exact h.new.1
  · exact h.new.2.1
  · exact h.new.2.2.1
  · exact h.new.2.2.2
  · exact (h.fpn i k hi e).1
theorem CAt.post0 (h : CAt w0 w cb C Y) (hk : K0 w w') : CPost w0 w cb Y C w' := ⟨Y, h.keep hk, fun _k e => .inl e, hk.mono fun _ _ e => e.elim⟩
theorem CPost.pre (hk : K0 w w1) (h : CPost w0 w1 cb Y C' w2) : CPost w0 w cb Y C' w2 := by
  obtain ⟨Y', h1, h2, h3⟩ := h
  exact ⟨Y', h1, fun k e => (h2 k e).imp id (fun e => Nat.le_trans hk.size e), (hk.mono (S1 := cfoot cb Y) fun _ _ e => e.elim).trans h3 fun _ _ e => e⟩
theorem CPost.after (h : CPost w0 w cb Y C' w1) (hk : K0 w1 w2) : CPost w0 w cb Y C' w2 := by
  obtain ⟨Y', h1, h2, h3⟩ := h
  exact ⟨Y', h1.keep hk, h2, h3.trans hk fun _ _ e => e.elim⟩
theorem CAt.turnP (h : CAt w0 w cb C Y) {s : ByteArray} {b : Nat} {g g' : GroupC} (e : aget Y.L s = Option.some (b, g)) (hp : GrpPost w (Y.fp (Y.L.findIdx fun p => p.1 = s)) b g' w') :
    CPost w0 w cb Y ⟨C.s, C.r, aput C.gs s g', C.off⟩ w' := by
  have hp2 := hp
  obtain ⟨F', p1, p2, p3⟩ := hp2
  obtain ⟨i, hi, h3, hix, hg⟩ := h.at e
  obtain ⟨Y', h4, ⟨e1, e2, e3, e4⟩, h6⟩ := h.turn e hp
  refine ⟨Y', h4, fun k e => ?_, p3.mono fun k _ e => .inr (.inr (.inr (.inr ⟨i, hi, hix ▸ e⟩)))⟩
  rcases e with e | e | e | e | ⟨j, hj, e⟩
  · exact .inl (.inl e)
  · exact .inl (.inr (.inl (e.trans e1)))
  · exact .inl (.inr (.inr (.inl (e.trans e2))))
  · exact .inl (.inr (.inr (.inr (.inl (e.trans e3)))))
  · exact (h6 j k hj e).imp (fun e => .inr (.inr (.inr (.inr ⟨j, e.1, e.2⟩)))) id
theorem CAt.offsP (h : CAt w0 w cb C Y) {off' : OffC} (ho : OffAt w' Y.tb Y.ob off') (hp : Keeps (fun k => k = Y.ob) w w') : CPost w0 w cb Y ⟨C.s, C.r, C.gs, off'⟩ w' :=
  ⟨Y, h.offs ho hp, fun _k e => .inl e, hp.mono fun _k _ e => .inr (.inr (.inr (.inl e)))⟩
end
section
variable {w0 w w' : World} {cb : Nat} {C : CoordC} {Y : CLay}
set_option maxRecDepth 100000 in
set_option maxHeartbeats 2000000 in
theorem pleave_at (h : CAt w0 w cb C Y) (s : ByteArray) (m now : Int) {n : Nat} (ok : COk n C) (hm : -9223372036854775808 ≤ m ∧ m ≤ 9223372036854775807) :
    Calls Tryz.prog 17 #[.pointer (Option.some ⟨cb, 0, Option.none⟩), .string s, .int .i64 m, .int .i64 now] w fun e w' => e = .returned (.int .i64 (cleaveE C s m now)) ∧ CPost w0 w cb Y (cleaveC C s m now) w' := by
  unfold cleaveE cleaveC
  cases hg : aget C.gs s with
  | none =>
    have G := Lib.hid (group_none h s (h.none hg))
    have HH := Lib.hid h
    clear hg h ok
    dsimp only
    go_enter Tryz.func17, Tryz.ntmps17
    go_wp2_with fail
    refine G.out.mono ?_
    rintro e w1 ⟨rfl, k1⟩
    go_wp2
    go_ret
    exact ⟨rfl, HH.out.post0 k1⟩
  | some g =>
    obtain ⟨b, hb⟩ := h.some hg
    have hok := ok s g hg
    obtain ⟨i, hi, h3, hix, hgr⟩ := h.at hb
    have G := Lib.hid (group_some h s hb)
    have HL := Lib.hid (fun (wx : World) (hk : K0 w wx) => leave_any wx _ b g m now (hgr.keep hk fun _ _ e => e) hok.wf hm)
    have HH := Lib.hid h
    have HIX := Lib.hid hix
    have HB := Lib.hid hb
    clear hg h ok hb hgr h3 hix hok
    dsimp only
    go_enter Tryz.func17, Tryz.ntmps17
    go_wp2_with fail
    refine G.out.mono ?_
    rintro e w1 ⟨rfl, k1⟩
    go_wp2_with fail
    refine (HL.out _ k1).mono ?_
    rintro e w2 ⟨rfl, hp⟩
    rw [HIX.out] at hp
    have HF := Lib.hid (((HH.out.keep k1).turnP HB.out hp).pre k1)
    clear hp
    go_wp2
    go_ret
    exact ⟨rfl, HF.out⟩
set_option maxRecDepth 100000 in
set_option maxHeartbeats 2000000 in
theorem pbeat_at (h : CAt w0 w cb C Y) (s : ByteArray) (m gn now : Int) {n : Nat} (ok : COk n C) (hm : -9223372036854775808 ≤ m ∧ m ≤ 9223372036854775807) :
    Calls Tryz.prog 16 #[.pointer (Option.some ⟨cb, 0, Option.none⟩), .string s, .int .i64 m, .int .i64 gn, .int .i64 now] w fun e w' => e = .returned (.int .i64 (cbeatE C s m gn now)) ∧ CPost w0 w cb Y (cbeatC C s m gn now) w' := by
  unfold cbeatE cbeatC
  cases hg : aget C.gs s with
  | none =>
    have G := Lib.hid (group_none h s (h.none hg))
    have HH := Lib.hid h
    clear hg h ok
    dsimp only
    go_enter Tryz.func16, Tryz.ntmps16
    go_wp2_with fail
    refine G.out.mono ?_
    rintro e w1 ⟨rfl, k1⟩
    go_wp2
    go_ret
    exact ⟨rfl, HH.out.post0 k1⟩
  | some g =>
    obtain ⟨b, hb⟩ := h.some hg
    have hok := ok s g hg
    obtain ⟨i, hi, h3, hix, hgr⟩ := h.at hb
    have G := Lib.hid (group_some h s hb)
    have HL := Lib.hid (fun (wx : World) (hk : K0 w wx) => beat_any wx _ b g m gn now (hgr.keep hk fun _ _ e => e) hok.wf hm)
    have HH := Lib.hid h
    have HIX := Lib.hid hix
    have HB := Lib.hid hb
    clear hg h ok hb hgr h3 hix hok
    dsimp only
    go_enter Tryz.func16, Tryz.ntmps16
    go_wp2_with fail
    refine G.out.mono ?_
    rintro e w1 ⟨rfl, k1⟩
    go_wp2_with fail
    refine (HL.out _ k1).mono ?_
    rintro e w2 ⟨rfl, hp⟩
    rw [HIX.out] at hp
    have HF := Lib.hid (((HH.out.keep k1).turnP HB.out hp).pre k1)
    clear hp
    go_wp2
    go_ret
    exact ⟨rfl, HF.out⟩
/-- What Sync leaves. -/
def CSyncP (w0 w : World) (cb : Nat) (Y : CLay) (C' : CoordC) (er : Int) (ps : List PartC) (e : Ending) (w' : World) : Prop :=
  ∃ pv, e = .returned (.tuple #[pv, .int .i64 er]) ∧ CPost w0 w cb Y C' w' ∧ PartsR w' pv ps ∧ ∀ k, vblk pv k → w.heap.size ≤ k
theorem vblk_nil {k : Nat} (h : vblk (.slice none 0 0) k) : False := by
  obtain ⟨x, n, c, e, _⟩ := h
  cases e
theorem partsOf_len {g : GroupC} (h : BndG g) (m : Int) : (partsOf g m).length ≤ 100000 := by
  unfold partsOf
  cases hf : g.ones.find? (fun o => o.member == m) with
  | none => exact Nat.zero_le _
  | some o => exact (h o (List.mem_of_find?_eq_some hf)).2
set_option maxRecDepth 100000 in
set_option maxHeartbeats 4000000 in
theorem psync_at (h : CAt w0 w cb C Y) (s : ByteArray) (m gn now : Int) (tv : Value) (tops : List TopC) (round : Bool) {n : Nat} (ok : COk n C) (hm : -9223372036854775808 ≤ m ∧ m ≤ 9223372036854775807) (ht : Out 2 rTop w (fun k => ¬ cfoot cb Y k) tv tops) :
    Calls Tryz.prog 13 #[.pointer (Option.some ⟨cb, 0, Option.none⟩), .string s, .int .i64 m, .int .i64 gn, tv, .bool round, .int .i64 now] w (CSyncP w0 w cb Y (csyncC C s m gn tops round now) (csyncE C s m gn tops now) (csyncP C s m gn tops round now)) := by
  have HTO := Lib.hid ht
  obtain ⟨ta, tc, rfl, _, _⟩ := ht
  cases hg : aget C.gs s with
  | none =>
    have G := Lib.hid (group_none h s (h.none hg))
    have HP : Hid (∀ wx, K0 w wx → CSyncP w0 w cb Y (csyncC C s m gn tops round now) (csyncE C s m gn tops now) (csyncP C s m gn tops round now) (.returned (.tuple #[.slice none 0 0, .int .i64 11])) wx) := fun wx hk => by
      unfold csyncC csyncE csyncP
      rw [hg]
      exact ⟨_, rfl, h.post0 hk, PartsR.nil _, fun k e => (vblk_nil e).elim⟩
    clear hg h ok
    go_enter Tryz.func13, Tryz.ntmps13
    go_wp2_with fail
    refine G.out.mono ?_
    rintro e w1 ⟨rfl, k1⟩
    have HK1 := Lib.hid k1
    clear k1
    go_wp2
    go_ret2
    exact HP.out _ HK1.out
  | some g =>
    obtain ⟨b, hb⟩ := h.some hg
    have hok := ok s g hg
    have G := Lib.hid (group_some h s hb)
    have HL : Hid (∀ (wx : World) (hk : K0 w wx), Calls Tryz.prog 42 #[.pointer (Option.some ⟨b, 0, Option.none⟩), .int .i64 m, .int .i64 gn, .slice ta tops.length tc, .bool round, .int .i64 now] wx (CSyncP w0 w cb Y (csyncC C s m gn tops round now) (csyncE C s m gn tops now) (csyncP C s m gn tops round now))) := fun wx hk => by
      obtain ⟨i, hi, h3, hix, hgr⟩ := h.at hb
      refine (sync_any wx _ b g m gn now _ tops round (hgr.keep hk fun _ _ e => e) hok.wf hok.bnd hm (HTO.out.keep still_top hk (fun _ _ _ e => e) (fun k _ e e2 => e (.inr (.inr (.inr (.inr ⟨i, hi, e2⟩))))))).mono ?_
      rintro e w' ⟨pv, F', rfl, q1, q2, q3, q4, q5⟩
      have hp : CPost w0 w cb Y (csyncC C s m gn tops round now) w' := by
        unfold csyncC
        rw [hg]
        have hgp : GrpPost wx (Y.fp i) b (syncG g m gn tops round now) w' := ⟨F', q1, q2, q3⟩
        rw [hix] at hgp
        exact ((h.keep hk).turnP hb hgp).pre hk
      refine ⟨pv, ?_, hp, ?_, fun k e => ?_⟩
      rotate_left 2
      · by_cases h0 : syncE g m gn tops now = 0
        · exact Nat.le_trans hk.size ((q4 h0).vblk e).2.2
        · rw [q5 h0] at e
          exact (vblk_nil e).elim
      · unfold csyncE
        rw [hg]
      · unfold csyncP
        rw [hg]
        dsimp only
        by_cases h0 : syncE g m gn tops now = 0
        · rw [if_pos h0]
          exact ⟨(q4 h0).keep still_part (Keeps.refl (fun _ => False) _) (fun _ _ _ e => e) (fun _ _ _ => trivial), partsOf_len (hok.sync m gn tops round now).bnd m⟩
        · rw [if_neg h0, q5 h0]
          exact PartsR.nil _
    clear hg h ok hb hok
    go_enter Tryz.func13, Tryz.ntmps13
    go_wp2_with fail
    refine G.out.mono ?_
    rintro e w1 ⟨rfl, k1⟩
    have HK1 := Lib.hid k1
    clear k1
    go_wp2_with fail
    refine (HL.out _ HK1.out).mono ?_
    rintro e w2 ⟨pv, rfl, hq⟩
    have HQ := Lib.hid hq
    clear hq
    go_wp2
    go_ret2
    exact ⟨pv, rfl, HQ.out⟩
theorem pcommit_at (h : CAt w0 w cb C Y) (s t : ByteArray) (i at_ : Int) :
    Calls Tryz.prog 19 #[.pointer (some ⟨cb, 0, none⟩), .string s, .agg #[.string t, .int .i64 i], .int .i64 at_] w fun e w' => e = .returned (.int .i64 (commitE C.off ⟨s, t, i⟩ at_)) ∧ CPost w0 w cb Y ⟨C.s, C.r, C.gs, commitC C.off ⟨s, t, i⟩ at_⟩ w' :=
  (ccommit_at h s t i at_).mono fun _e _w' hq => ⟨hq.1, Y, hq.2.1, fun _k e => .inl e, hq.2.2.mono fun _k _ e => .inr (.inr (.inr (.inl e)))⟩
set_option maxRecDepth 100000 in
set_option maxHeartbeats 2000000 in
theorem pdrop_at (h : CAt w0 w cb C Y) (t : ByteArray) (hw : ∀ p ∈ C.off.all, OkP p) (hl : C.off.all.length ≤ 100000) :
    Calls Tryz.prog 20 #[.pointer (some ⟨cb, 0, none⟩), .string t] w fun e w' => e = .returned (.int .i64 (dropN C.off t)) ∧ ∃ L2, CPost w0 w cb Y ⟨C.s, C.r, C.gs, ⟨C.off.room, L2⟩⟩ w' ∧ L2.Perm (dropO C.off t).all := by
  have c3 : w.cell? ⟨cb, 3, none⟩ = some (.pointer (some ⟨Y.tb, 0, none⟩)) := block_cell h.blk 3
  have hlt := block_lt h.blk
  have HC := Lib.hid (fun (wx : World) (hk : K0 w wx) => offdrop_any t (h.keep hk).off hw hl)
  have HH := Lib.hid h
  clear h hw
  go_enter Tryz.func20, Tryz.ntmps20
  go_wp2_with fail
  refine (HC.out _ (Keeps.refl _ _)).mono ?_
  rintro e w1 ⟨rfl, ⟨L2, ho, hpp⟩, hp⟩
  have HF := Lib.hid (HH.out.offsP ho hp)
  have HPP := Lib.hid hpp
  clear ho hp hpp
  go_wp2
  go_ret
  exact ⟨rfl, L2, HF.out, HPP.out⟩
end
end Go.Proofs.YtklhlffdpojkoaaGreat

/-
  A coordinator's Join.
-/
namespace Go.Proofs.YtklhlffdpojkoaaGreat
open Go.RowKit Go.Shelf Fx

theorem results_cell_row2 {P : Program} {fn : Func} {p u : Tmp} {ty : TypeId} (h : fn.results = #[.cell p ty, .tmp u]) (tmps : Array Value) (w : World) (g : Nat) (t : TypeId) (cs : Array Value) (fr : Nat × Nat) (d : TypeDesc)
    (hp : tmps.getD p undef = .pointer (some ⟨g, 0, none⟩)) (hg : w.heap[g]? = some (.cells cs t fr))
    (hu : P.underlying ty = some d) (hd : (match d with | .struct _ | .array _ _ => true | _ => false) = true) (hi : (P.info? ty).map (·.size) = some cs.size) :
    (results fn tmps).run P w = .ok (.tuple #[.agg cs, tmps.getD u undef]) w := by
  have hp' : tmps[p]?.getD undef = .pointer (some ⟨g, 0, none⟩) := by simpa using hp
  simp [results, h, hp', asAddr, run_loadVar_row w g t ty cs fr d hg hu hd hi]
theorem aput_same {κ α : Type} [DecidableEq κ] {L : List (κ × α)} {s : κ} {v : α} (h : aget L s = some v) : aput L s v = L := by
  induction L with
  | nil => simp [aget] at h
  | cons p L ih =>
    obtain ⟨k, u⟩ := p
    simp only [aget] at h
    by_cases hk : k = s
    · rw [if_pos hk] at h
      cases h
      simp [aput, hk]
    · rw [if_neg hk] at h
      simp [aput, hk, ih h]
theorem aget_aput_self {κ α : Type} [DecidableEq κ] (L : List (κ × α)) (s : κ) (v : α) : aget (aput L s v) s = some v := by
  induction L with
  | nil => simp [aget, aput]
  | cons p L ih =>
    obtain ⟨k, u⟩ := p
    by_cases hk : k = s
    · simp [aget, aput, hk]
    · simp [aget, aput, hk, ih]
theorem addG_len {g : GroupC} {m : Int} {topics : List ByteArray} {now : Int} (h : joinE g m topics now = 0) : (addG g m).ones.length ≠ 0 := by
  unfold joinE at h
  split at h
  · cases h
  · split at h
    · cases h
    · rename_i h2
      unfold addG
      split
      · simp
      · rename_i h3
        have : hasM g m = true := by
          cases hh : hasM g m
          · exact absurd (by simp [hh, h3]) h2
          · rfl
        exact has_len this
theorem joinG_len {g : GroupC} {m : Int} {topics : List ByteArray} {now : Int} (h : joinE g m topics now = 0) : (joinG g m topics now).ones.length ≠ 0 := by
  have h1 := addG_len h
  have h2 : (setG (startG (addG g m) now) (nextM g m) topics (now + g.session)).ones.length ≠ 0 := by
    rw [setG_len]
    unfold startG
    split
    · exact h1
    · rw [anewG_len]; exact h1
  unfold joinG finG
  split
  · rename_i h3
    unfold closeG filG
    have : ((setG (startG (addG g m) now) (nextM g m) topics (now + g.session)).ones.filter fun o => !!o.joined) = (setG (startG (addG g m) now) (nextM g m) topics (now + g.session)).ones := by
      rw [List.filter_eq_self]
      intro o ho
      have := List.all_eq_true.1 h3 o ho
      simpa using this
    dsimp only
    rw [this, if_neg h2]
    exact h2
  · exact h2
def cbase (C : CoordC) (s : ByteArray) : GroupC := (aget C.gs s).getD (newG C.s C.r)
def cjoinE (C : CoordC) (s : ByteArray) (m : Int) (topics : List ByteArray) (now : Int) : Int :=
  if s.size = 0 ∨ 100 < s.size then 1 else if (aget C.gs s).isSome = false ∧ 20 ≤ C.gs.length then 5 else joinE (cbase C s) m topics now
def cjoinG (C : CoordC) (s : ByteArray) (m : Int) (topics : List ByteArray) (now : Int) : GroupC := joinG (cbase C s) m topics now
def cjoinC (C : CoordC) (s : ByteArray) (m : Int) (topics : List ByteArray) (now : Int) : CoordC :=
  if cjoinE C s m topics now = 0 then ⟨C.s, C.r, aput C.gs s (cjoinG C s m topics now), C.off⟩ else C
def cjoinV (C : CoordC) (s : ByteArray) (m : Int) (topics : List ByteArray) (now : Int) : Value :=
  if cjoinE C s m topics now = 0 then .agg #[.int .i64 (nextM (cbase C s) m), .int .i64 (cjoinG C s m topics now).gen, .int .i64 (leaderOf (cjoinG C s m topics now))] else .agg #[.int .i64 0, .int .i64 0, .int .i64 0]
def CJoinPost (w0 : World) (cb : Nat) (C : CoordC) (s : ByteArray) (m : Int) (topics : List ByteArray) (now : Int) (e : Ending) (w' : World) : Prop :=
  e = .returned (.tuple #[cjoinV C s m topics now, .int .i64 (cjoinE C s m topics now)]) ∧ CSt w0 w' cb (cjoinC C s m topics now)
theorem CJoinPost.err {w0 w' : World} {cb : Nat} {C : CoordC} {s : ByteArray} {m : Int} {topics : List ByteArray} {now x : Int} (h : cjoinE C s m topics now = x) (hx : ¬ x = 0) (hq : CSt w0 w' cb C) : CJoinPost w0 cb C s m topics now (.returned (.tuple #[.agg #[.int .i64 0, .int .i64 0, .int .i64 0], .int .i64 x])) w' := by
  unfold CJoinPost cjoinV cjoinC
  rw [h, if_neg hx, if_neg hx]
  exact ⟨rfl, hq⟩
theorem CJoinPost.fine {w0 w' : World} {cb : Nat} {C : CoordC} {s : ByteArray} {m : Int} {topics : List ByteArray} {now : Int} (h : cjoinE C s m topics now = 0) (hq : CSt w0 w' cb ⟨C.s, C.r, aput C.gs s (cjoinG C s m topics now), C.off⟩) :
    CJoinPost w0 cb C s m topics now (.returned (.tuple #[.agg #[.int .i64 (nextM (cbase C s) m), .int .i64 (cjoinG C s m topics now).gen, .int .i64 (leaderOf (cjoinG C s m topics now))], .int .i64 0])) w' := by
  unfold CJoinPost cjoinV cjoinC
  rw [h, if_pos rfl, if_pos rfl]
  exact ⟨rfl, hq⟩
def firstM : List OneC → Int
  | o :: _ => o.member
  | [] => 0
/-- The first member of a view. -/
theorem view_first {w : World} {base : Nat} {a : Option Addr} {c : Nat} {ones : List OneC} (h : ViewAt w base (.slice a ones.length c) ones) (hne : ones.length ≠ 0) : ∃ r, a = some ⟨r, 0, none⟩ ∧ r < w.heap.size ∧ base ≤ r ∧ w.cell? ⟨r, 0, none⟩ = some (.int .i64 (firstM ones)) := by
  obtain ⟨C, h1, h2, _⟩ := h
  have hl : C.length = ones.length := by rw [← h1]; simp
  rw [← hl] at h2 hne
  rcases h2.2 with ⟨h3, h4⟩ | ⟨r, cap, cur, h3, _⟩
  · omega
  · have h5 := h2.lt r (by rw [h3]; rfl)
    simp only [Value.slice.injEq] at h3
    obtain ⟨rfl, _, _⟩ := h3
    refine ⟨r, rfl, h5.2, h5.1, ?_⟩
    have h6 := h2.cellAt 0 (by omega)
    rw [h6]
    cases C with
    | nil => exact absurd rfl hne
    | cons x C =>
      subst h1
      rfl
section
variable {w0 w : World} {cb : Nat} {C : CoordC} {Y : CLay}
set_option maxRecDepth 100000 in
set_option maxHeartbeats 4000000 in
theorem cjoin_name (s : ByteArray) (m now : Int) (a : Option Addr) (n c : Nat) (hs : s.size = 0 ∨ 100 < s.size) (w : World) :
    Calls Tryz.prog 12 #[.pointer (some ⟨cb, 0, none⟩), .string s, .int .i64 m, .slice a n c, .int .i64 now] w fun e w' => Same w e (.tuple #[.agg #[.int .i64 0, .int .i64 0, .int .i64 0], .int .i64 1]) w' := by
  have HB : Hid ((w.alloc (.cells #[.int .i64 0, .int .i64 0, .int .i64 0] 41)).heap[w.heap.size]? = some (.cells #[.int .i64 0, .int .i64 0, .int .i64 0] 41 (0, 0))) := heap_new _ _ _ rfl
  have HZ : Hid (((((w.alloc (.cells #[.int .i64 0, .int .i64 0, .int .i64 0] 41)).setCell ⟨w.heap.size, 0, none⟩ (.int .i64 0)).setCell ⟨w.heap.size, 1, none⟩ (.int .i64 0)).setCell ⟨w.heap.size, 2, none⟩ (.int .i64 0)).heap[w.heap.size]? = some (.cells #[.int .i64 0, .int .i64 0, .int .i64 0] 41 (0, 0))) := setCell_block (setCell_block (setCell_block HB.out 0 _) 1 _) 2 _
  by_cases h0 : s.size = 0
  · have h1 := bytes_empty h0
    clear h0 hs
    go_enter Tryz.func12, Tryz.ntmps12
    go_wp2
    (try simp only [Exit.inBlock, Exit.then])
    refine bodyPost_ret (results_cell_row2 rfl _ _ _ _ _ _ _ rfl HB.out Tryz.underlying41 rfl (by kernel_rfl)) rfl ?_
    exact ⟨rfl, (Keeps.refl _ _).alloc _⟩
  · have h1 := bytes_some h0
    have h2 : 100 < (s.size : Int) := by omega
    clear h0 hs
    go_enter Tryz.func12, Tryz.ntmps12
    go_wp2
    (try simp only [Exit.inBlock, Exit.then])
    refine bodyPost_ret (results_cell_row2 rfl _ _ _ _ _ _ _ rfl HB.out Tryz.underlying41 rfl (by kernel_rfl)) rfl ?_
    exact ⟨rfl, (Keeps.refl _ _).alloc _⟩
/-- What stands ahead of the walk. -/
theorem jw_facts (w : World) : (w.alloc (.cells #[.int .i64 0, .int .i64 0, .int .i64 0] 41)).heap[w.heap.size]? = some (.cells #[.int .i64 0, .int .i64 0, .int .i64 0] 41 (0, 0)) := heap_new _ _ _ rfl
set_option maxRecDepth 100000 in
set_option maxHeartbeats 4000000 in
theorem cjoin_full (h : CAt w0 w cb C Y) (s : ByteArray) (m now : Int) (a : Option Addr) (n c : Nat) (h1 : s.toList.isEmpty = false) (h2 : ¬ 100 < (s.size : Int)) (e : aget Y.L s = none) (hf : 20 ≤ C.gs.length) :
    Calls Tryz.prog 12 #[.pointer (some ⟨cb, 0, none⟩), .string s, .int .i64 m, .slice a n c, .int .i64 now] w fun e w' => Same w e (.tuple #[.agg #[.int .i64 0, .int .i64 0, .int .i64 0], .int .i64 5]) w' := by
  have HB := Lib.hid (jw_facts w)
  have HK := Lib.hid ((Keeps.refl (fun _ => False) w).alloc (.cells #[.int .i64 0, .int .i64 0, .int .i64 0] 41))
  generalize hwb : w.alloc (.cells #[.int .i64 0, .int .i64 0, .int .i64 0] 41) = wb at HB HK
  have hbl := block_lt h.blk
  have hm := Lib.hid (h.map.keep ((Keeps.refl (fun _ => False) w).alloc (.cells #[.int .i64 0, .int .i64 0, .int .i64 0] 41)) (fun e => e))
  have c2 : w.cell? ⟨cb, 2, none⟩ = some (.map (some Y.gb)) := block_cell h.blk 2
  have HV : Hid (aget (avals gptr Y.L) s = none) := by show _ = _; rw [aget_avals, e]; rfl
  have hl : 20 ≤ (avals gptr Y.L).length := by rw [avals_len]; have := congrArg List.length h.core; simp [gcore] at this; omega
  subst hwb
  clear h e hf
  go_enter Tryz.func12, Tryz.ntmps12
  go_wp2_with (first | (at_lookup; refine wpList_look (strKey Tryz.underlying9) rfl rfl Tryz.underlying67 zeroPtr rfl s rfl hm.out _ HV.out ?_) | (at_len; refine wpList_len rfl rfl Tryz.underlying67 rfl hm.out ?_))
  (try simp only [Exit.inBlock, Exit.then])
  refine bodyPost_ret (results_cell_row2 rfl _ _ _ _ _ _ _ rfl HB.out Tryz.underlying41 rfl (by kernel_rfl)) rfl ?_
  exact ⟨rfl, HK.out⟩
end
end Go.Proofs.YtklhlffdpojkoaaGreat

/-
  A coordinator's Join where it does not fail: a group that is there, a new one.
-/
namespace Go.Proofs.YtklhlffdpojkoaaGreat
open Go.RowKit Go.Shelf Fx

section
variable {w0 w : World} {cb : Nat} {C : CoordC} {Y : CLay}
def CJoined (w0 : World) (cb : Nat) (C : CoordC) (s : ByteArray) (g g' : GroupC) (m : Int) (e : Ending) (w' : World) : Prop :=
  e = .returned (.tuple #[.agg #[.int .i64 (nextM g m), .int .i64 g'.gen, .int .i64 (firstM g'.ones)], .int .i64 0]) ∧ CSt w0 w' cb ⟨C.s, C.r, aput C.gs s g', C.off⟩
set_option maxRecDepth 100000 in
set_option maxHeartbeats 4000000 in
theorem cjoin_found (h : CAt w0 w cb C Y) (s : ByteArray) (m now : Int) (tv : Value) (topics : List ByteArray) (h1 : s.toList.isEmpty = false) (h2 : ¬ 100 < (s.size : Int)) {b : Nat} {g : GroupC} (e : aget Y.L s = some (b, g)) {n : Nat} (ok : Ok (n + 1) g) (htl : topics.length ≤ 1000)
    (hm : -9223372036854775808 ≤ m ∧ m ≤ 9223372036854775807) (ht : Out 1 rStr w (fun k => ∀ i, i < Y.L.length → ¬ Y.fp i k) tv topics) (hj : joinE g m topics now = 0) :
    Calls Tryz.prog 12 #[.pointer (some ⟨cb, 0, none⟩), .string s, .int .i64 m, tv, .int .i64 now] w fun e w' => CJoined w0 cb C s g (joinG g m topics now) m e w' := by
  obtain ⟨i, hi, h3, hix, hgr⟩ := h.at e
  have HB := Lib.hid (jw_facts w)
  have HK := Lib.hid ((Keeps.refl (fun _ => False) w).alloc (.cells #[.int .i64 0, .int .i64 0, .int .i64 0] 41))
  have hsz : (w.alloc (.cells #[.int .i64 0, .int .i64 0, .int .i64 0] 41)).heap.size = w.heap.size + 1 := by simp
  generalize hwb : w.alloc (.cells #[.int .i64 0, .int .i64 0, .int .i64 0] 41) = wb at HB HK hsz
  have HWB := Lib.hid hwb
  have hb := h.keep HK.out
  have HJ : Hid (Calls Tryz.prog 39 #[.pointer (some ⟨b, 0, none⟩), .int .i64 m, tv, .int .i64 now] wb fun e w' => e = .returned (.tuple #[.int .i64 (nextM g m), .int .i64 0]) ∧ GrpPost wb (Y.fp i) b (joinG g m topics now) w') := by
    show Calls _ _ _ _ _
    refine (join_any wb (Y.fp i) b g m now tv topics (hgr.keep HK.out fun _ _ e => e) ok.wf hm (by have := ok.next; omega) (ht.keep still_str HK.out (fun _ _ _ e => e) (fun k _ e => e i hi))).mono fun e w' hq => ?_
    have := hq
    unfold JoinPost at this
    rw [if_pos hj, if_pos hj, hj] at this
    exact this
  have okg := ok.join hm htl hj
  have V := Lib.hid (fun (wx : World) (F : Nat → Prop) (hg : Grp wx F b (joinG g m topics now)) => view_any wx F b (joinG g m topics now) hg (by have := okg.wf.len; omega) okg.bnd)
  have HLEN := Lib.hid (joinG_len hj)
  have C2 : Hid (wb.cell? ⟨cb, 2, none⟩ = some (.map (some Y.gb))) := block_cell hb.blk 2
  have c2 : w.cell? ⟨cb, 2, none⟩ = some (.map (some Y.gb)) := block_cell h.blk 2
  have hltw := block_lt h.blk
  have hlt := block_lt hb.blk
  have hlt0 := block_lt h.blk
  have hmm := Lib.hid hb.map
  have HV : Hid (aget (avals gptr Y.L) s = some (.pointer (some ⟨b, 0, none⟩))) := by show _ = _; rw [aget_avals, e]; rfl
  have HH := Lib.hid hb
  have HE := Lib.hid e
  have HIX := Lib.hid hix
  have HJB : Hid (∀ i, i < Y.L.length → ¬ Y.fp i w.heap.size) := fun i hi e => Nat.lt_irrefl _ ((h.grp i hi).ltF _ e)
  have HS := Lib.hid (⟨h.k0.size, hlt0, h.map.lt, block_lt h.off.blk, h.off.map.lt⟩ : w0.heap.size ≤ w.heap.size ∧ cb < w.heap.size ∧ Y.gb < w.heap.size ∧ Y.tb < w.heap.size ∧ Y.ob < w.heap.size)
  have HSZ := Lib.hid hsz
  have HFC := Lib.hid (fun e => (h.fpn i cb hi e).2.1 rfl)
  have HFJ : Hid (¬ Y.fp i w.heap.size) := HJB.out i hi
  clear h e ht hj okg ok hgr h3 hix hb hwb hsz hlt0
  go_enter Tryz.func12, Tryz.ntmps12
  go_wp2_with (at_lookup; rw [HWB.out]; refine wpList_look (strKey Tryz.underlying9) rfl rfl Tryz.underlying67 zeroPtr rfl s rfl hmm.out _ HV.out ?_)
  refine HJ.out.mono ?_
  rintro e w2 ⟨rfl, hp⟩
  have hp2 := hp
  obtain ⟨F', hg2, hF2, hk2⟩ := hp2
  have HB2 : Hid (w2.heap[w.heap.size]? = some (.cells #[.int .i64 0, .int .i64 0, .int .i64 0] 41 (0, 0))) := (hk2.block _ (block_lt HB.out) HFJ.out).trans HB.out
  have d2 : w2.cell? ⟨cb, 2, none⟩ = some (.map (some Y.gb)) := hk2.cell' C2.out HFC.out
  have hlt2 : cb < w2.heap.size := Nat.lt_of_lt_of_le hlt hk2.size
  rw [HIX.out] at hp
  obtain ⟨Y', hY', ⟨e1, e2, e3, e4⟩, hfp⟩ := HH.out.turn HE.out hp
  have HM2 : Hid (MapAt .string w2 Y.gb (avals gptr Y'.L)) := by have := hY'.map; rw [e1] at this; exact this
  have HY := Lib.hid hY'
  have HG := Lib.hid (⟨e1, e2, e3, e4⟩ : Y'.gb = Y.gb ∧ Y'.tb = Y.tb ∧ Y'.ob = Y.ob ∧ Y'.L = aput Y.L s (b, joinG g m topics now))
  have HFP := Lib.hid hfp
  clear hg2 hF2 hk2 hp hY' e1 e2 e3 e4 hfp c2 hlt hmm
  go_wp2_with (at_mapUpdate; refine wpList_put (strKey Tryz.underlying9) rfl rfl Tryz.underlying67 rfl s rfl HM2.out (.pointer (some ⟨b, 0, none⟩)) rfl ?_; intro ob hm3)
  have HM4 : Hid (CAt w0 (setObjAt w2 Y.gb ob) cb ⟨C.s, C.r, aput C.gs s (joinG g m topics now), C.off⟩ Y') := by
    have e1 : aput (avals gptr Y'.L) s (.pointer (some ⟨b, 0, none⟩)) = avals gptr Y'.L := by
      rw [show Value.pointer (some ⟨b, 0, none⟩) = gptr (b, joinG g m topics now) from rfl, aput_avals, HG.out.2.2.2, aput_same (aget_aput_self _ _ _)]
    rw [e1] at hm3
    have hm4 : MapAt .string (setObjAt w2 Y'.gb ob) Y'.gb (avals gptr Y'.L) := by rw [HG.out.1]; exact hm3
    have := HY.out.reput hm4
    rw [HG.out.1] at this
    exact this
  have HB3 : Hid ((setObjAt w2 Y.gb ob).heap[w.heap.size]? = some (.cells #[.int .i64 0, .int .i64 0, .int .i64 0] 41 (0, 0))) := (setObjAt_other _ _ (by have := HS.out; omega)).trans HB2.out
  generalize setObjAt w2 Y.gb ob = w3 at HM4 HB3 ⊢
  have hgr3 := HM4.out.at (s := s) (b := b) (g := joinG g m topics now) (by rw [HG.out.2.2.2]; exact aget_aput_self _ _ _)
  obtain ⟨i3, hi3, _, _, hgr3⟩ := hgr3
  refine (V.out w3 _ hgr3).mono ?_
  intro e w4 hq
  obtain ⟨va, vc, rfl, hv, k4⟩ := hq.seen
  obtain ⟨r, rfl, hr1, hr2, hr3⟩ := view_first hv HLEN.out
  have b4 : w4.heap[w.heap.size]? = some (.cells #[.int .i64 0, .int .i64 0, .int .i64 0] 41 (0, 0)) := (k4.block _ (block_lt HB3.out) (fun e => e)).trans HB3.out
  have q0 := block_cell b4 0
  have q1 := block_cell b4 1
  have q2 := block_cell b4 2
  have f0 := block_free b4 0
  have f1 := block_free b4 1
  have f2 := block_free b4 2
  have hj4 := block_lt b4
  have HX : Hid (∀ o, (((((w4.setCell ⟨w.heap.size, 0, none⟩ (.int .i64 (nextM g m))).setCell ⟨w.heap.size, 1, none⟩ (.int .i64 (joinG g m topics now).gen)).setCell ⟨w.heap.size, 2, none⟩ (.int .i64 (firstM (joinG g m topics now).ones))).alloc o).drew).heap[w.heap.size]? = some (.cells #[.int .i64 (nextM g m), .int .i64 (joinG g m topics now).gen, .int .i64 (firstM (joinG g m topics now).ones)] 41 (0, 0))) :=
    fun o => (Below.heap_alloc _ _ _ (by simpa using hj4)).trans (setCell_block (setCell_block (setCell_block b4 0 _) 1 _) 2 _)
  have HSS : Hid (∀ k, k = w.heap.size → w0.heap.size ≤ k ∧ k ≠ cb ∧ k ≠ Y'.gb ∧ k ≠ Y'.tb ∧ k ≠ Y'.ob ∧ ∀ i, i < Y'.L.length → ¬ Y'.fp i k) := by
    show ∀ k, _ → _
    rintro k rfl
    have hs := HS.out
    have hz := HSZ.out
    refine ⟨hs.1, by omega, by rw [HG.out.1]; omega, by rw [HG.out.2.1]; omega, by rw [HG.out.2.2.1]; omega, fun j hj e => ?_⟩
    rcases HFP.out j _ hj e with e2 | e2
    · exact HJB.out j e2.1 e2.2
    · omega
  have HK4 := Lib.hid k4
  have hln : 0 < (joinG g m topics now).ones.length := Nat.pos_of_ne_zero HLEN.out
  clear hq hv k4 hgr3 hm3 hr2 b4
  go_wp2
  go_region
  all_goals go_wp2
  (try simp only [Exit.inBlock, Exit.then])
  all_goals refine bodyPost_ret (results_cell_row2 rfl _ _ _ _ _ _ _ rfl (HX.out _) Tryz.underlying41 rfl (by kernel_rfl)) rfl ?_
  all_goals exact ⟨rfl, Y', (HM4.out.keep HK4.out).keepS (S := fun k => k = w.heap.size) ((((((Keeps.refl (fun k => k = w.heap.size) w4).setC 0 _ (fun _ => rfl)).setC 1 _ (fun _ => rfl)).setC 2 _ (fun _ => rfl)).alloc _).drew) HSS.out⟩
set_option maxRecDepth 100000 in
set_option maxHeartbeats 4000000 in
theorem cjoin_new (h : CAt w0 w cb C Y) (s : ByteArray) (m now : Int) (tv : Value) (topics : List ByteArray) (h1 : s.toList.isEmpty = false) (h2 : ¬ 100 < (s.size : Int)) (e : aget Y.L s = none) (hf : C.gs.length < 20)
    (hsr : (1 ≤ C.s ∧ C.s ≤ 100000) ∧ 1 ≤ C.r ∧ C.r ≤ 100000) (htl : topics.length ≤ 1000)
    (hm : -9223372036854775808 ≤ m ∧ m ≤ 9223372036854775807) (ht : Out 1 rStr w (fun _ => True) tv topics) (hj : joinE (newG C.s C.r) m topics now = 0) :
    Calls Tryz.prog 12 #[.pointer (some ⟨cb, 0, none⟩), .string s, .int .i64 m, tv, .int .i64 now] w fun e w' => CJoined w0 cb C s (newG C.s C.r) (joinG (newG C.s C.r) m topics now) m e w' := by
  have HB := Lib.hid (jw_facts w)
  have HK := Lib.hid ((Keeps.refl (fun _ => False) w).alloc (.cells #[.int .i64 0, .int .i64 0, .int .i64 0] 41))
  have hsz : (w.alloc (.cells #[.int .i64 0, .int .i64 0, .int .i64 0] 41)).heap.size = w.heap.size + 1 := by simp
  generalize hwb : w.alloc (.cells #[.int .i64 0, .int .i64 0, .int .i64 0] 41) = wb at HB HK hsz
  have HWB := Lib.hid hwb
  have hb := h.keep HK.out
  have HT := Lib.hid (ht.keep still_str HK.out (fun _ _ _ e => e) (fun _ _ e => e) (G' := fun _ => True))
  have HN := Lib.hid (fun (wx : World) => new_any C.s C.r wx hsr.1 hsr.2)
  have ok := Ok.new hsr.1 hsr.2
  have HJ : Hid (∀ (wx : World) (nb : Nat), K0 wb wx → wb.heap.size ≤ nb → Grp wx (fun k => k = nb) nb (newG C.s C.r) → Calls Tryz.prog 39 #[.pointer (some ⟨nb, 0, none⟩), .int .i64 m, tv, .int .i64 now] wx fun e w' => e = .returned (.tuple #[.int .i64 (nextM (newG C.s C.r) m), .int .i64 0]) ∧ GrpPost wx (fun k => k = nb) nb (joinG (newG C.s C.r) m topics now) w') := by
    show ∀ wx nb, _ → _ → _ → _
    intro wx nb hk hnb hg
    refine (join_any wx (fun k => k = nb) nb (newG C.s C.r) m now tv topics hg ok.wf hm (by have := ok.next; omega) (HT.out.keep still_str hk (fun _ _ _ e => e) (fun k hlt _ e => by omega))).mono fun e w' hq => ?_
    have := hq
    unfold JoinPost at this
    rw [if_pos hj, if_pos hj, hj] at this
    exact this
  have okg := (ok.le (m := 999 + 1) (by omega)).join hm htl hj
  have V := Lib.hid (fun (wx : World) (F : Nat → Prop) (b : Nat) (hg : Grp wx F b (joinG (newG C.s C.r) m topics now)) => view_any wx F b (joinG (newG C.s C.r) m topics now) hg (by have := okg.wf.len; omega) okg.bnd)
  have HLEN := Lib.hid (joinG_len hj)
  have C2 : Hid (wb.cell? ⟨cb, 2, none⟩ = some (.map (some Y.gb))) := block_cell hb.blk 2
  have c2 : w.cell? ⟨cb, 2, none⟩ = some (.map (some Y.gb)) := block_cell h.blk 2
  have hltw := block_lt h.blk
  have cw2 := C2.out
  have c0 : wb.cell? ⟨cb, 0, none⟩ = some (.int .i64 C.s) := block_cell hb.blk 0
  have c1 : wb.cell? ⟨cb, 1, none⟩ = some (.int .i64 C.r) := block_cell hb.blk 1
  have hlt := block_lt hb.blk
  have hlt0 := block_lt h.blk
  have hmm := Lib.hid hb.map
  have HV : Hid (aget (avals gptr Y.L) s = none) := by show _ = _; rw [aget_avals, e]; rfl
  have hl : ¬ 20 ≤ ((avals gptr Y.L).length : Int) := by rw [avals_len]; have := congrArg List.length h.core; simp [gcore] at this; omega
  have HH := Lib.hid hb
  have HE := Lib.hid e
  have HJB : Hid (∀ i, i < Y.L.length → ¬ Y.fp i w.heap.size) := fun i hi e => Nat.lt_irrefl _ ((h.grp i hi).ltF _ e)
  have HS := Lib.hid (⟨h.k0.size, hlt0, h.map.lt, block_lt h.off.blk, h.off.map.lt⟩ : w0.heap.size ≤ w.heap.size ∧ cb < w.heap.size ∧ Y.gb < w.heap.size ∧ Y.tb < w.heap.size ∧ Y.ob < w.heap.size)
  have HSZ := Lib.hid hsz
  have hkk : K0 wb wb.drew := (Keeps.refl _ _).drew
  clear h e ht hj okg ok hb hwb hsz hlt0 hf hsr
  go_enter Tryz.func12, Tryz.ntmps12
  go_wp2_with (first | (at_lookup; rw [HWB.out]; refine wpList_look (strKey Tryz.underlying9) rfl rfl Tryz.underlying67 zeroPtr rfl s rfl hmm.out _ HV.out ?_) | (at_len; refine wpList_len rfl rfl Tryz.underlying67 rfl hmm.out ?_))
  go_region_held3 (fun w' => w'.cell? ⟨cb, 0, none⟩ = some (.int .i64 C.s) ∧ w'.cell? ⟨cb, 1, none⟩ = some (.int .i64 C.r))
    (first | go_keep | (go_split_ands; refine ⟨?_, ?_⟩ <;> first | assumption | exact Keeps.cell' (by assumption) (by assumption) (fun e => e)))
    (first | (go_at_call 23; refine (HN.out _).mono ?_; rintro e w1 ⟨rfl, hg1, hk1, hz1⟩))
  have HK1 := Lib.hid (K0.tr hkk hk1)
  have HG1 : Hid (Grp w1 (fun k => k = wb.heap.size) wb.heap.size (newG C.s C.r)) := hg1
  have d2 : w1.cell? ⟨cb, 2, none⟩ = some (.map (some Y.gb)) := HK1.out.cell' C2.out (fun e => e)
  have hlt1 : cb < w1.heap.size := Nat.lt_of_lt_of_le hlt HK1.out.size
  clear hg1 hk1 hz1
  go_wp2_with fail
  refine (HJ.out _ _ HK1.out (Nat.le_refl _) HG1.out).mono ?_
  rintro e w2 ⟨rfl, hp⟩
  obtain ⟨F', hg2, hF2, hk2⟩ := hp
  have hK2 : K0 wb w2 := HK1.out.trans hk2 (fun k hk e => by have e : k = wb.heap.size := e; omega)
  have HK2 := Lib.hid hK2
  have HB2 : Hid (w2.heap[w.heap.size]? = some (.cells #[.int .i64 0, .int .i64 0, .int .i64 0] 41 (0, 0))) := (hK2.block _ (block_lt HB.out) (fun e => e)).trans HB.out
  have e2 : w2.cell? ⟨cb, 2, none⟩ = some (.map (some Y.gb)) := hK2.cell' C2.out (fun e => e)
  have hlt2 : cb < w2.heap.size := Nat.lt_of_lt_of_le hlt hK2.size
  have HM2 : Hid (MapAt .string w2 Y.gb (avals gptr Y.L)) := HH.out.map.keep hK2 (fun e => e)
  have HG2 := Lib.hid hg2
  have HF2 : Hid (∀ k, F' k → wb.heap.size ≤ k) := fun k e => (hF2 k e).elim (fun e => by have e : k = wb.heap.size := e; omega) (fun e => Nat.le_trans HK1.out.size e)
  have hnb : wb.heap.size < w2.heap.size := by have h5 := HG1.out.ltF _ rfl; have := hk2.size; omega
  clear hg2 hF2 hk2 hK2 c2 cw2 c0 c1 d2 hlt hlt1 hmm
  go_wp2_with (at_mapUpdate; refine wpList_put (strKey Tryz.underlying9) rfl rfl Tryz.underlying67 rfl s rfl HM2.out (.pointer (some ⟨wb.heap.size, 0, none⟩)) rfl ?_; intro ob hm3)
  obtain ⟨Y', hY', ⟨y1, y2, y3, y4⟩, hfp⟩ := HH.out.more (o := ob) HE.out HK2.out HG2.out HF2.out hm3
  have HM4 := Lib.hid hY'
  have HG := Lib.hid (⟨y1, y2, y3, y4⟩ : Y'.gb = Y.gb ∧ Y'.tb = Y.tb ∧ Y'.ob = Y.ob ∧ Y'.L = aput Y.L s (wb.heap.size, joinG (newG C.s C.r) m topics now))
  have HFP := Lib.hid hfp
  have HB3 : Hid ((setObjAt w2 Y.gb ob).heap[w.heap.size]? = some (.cells #[.int .i64 0, .int .i64 0, .int .i64 0] 41 (0, 0))) := (setObjAt_other _ _ (by have := HS.out; omega)).trans HB2.out
  clear hY' y1 y2 y3 y4 hfp
  generalize setObjAt w2 Y.gb ob = w3 at HM4 HB3 ⊢
  have hgr3 := HM4.out.at (s := s) (b := wb.heap.size) (g := joinG (newG C.s C.r) m topics now) (by rw [HG.out.2.2.2]; exact aget_aput_self _ _ _)
  obtain ⟨i3, hi3, _, _, hgr3⟩ := hgr3
  refine (V.out w3 _ _ hgr3).mono ?_
  intro e w4 hq
  obtain ⟨va, vc, rfl, hv, k4⟩ := hq.seen
  obtain ⟨r, rfl, hr1, hr2, hr3⟩ := view_first hv HLEN.out
  have b4 : w4.heap[w.heap.size]? = some (.cells #[.int .i64 0, .int .i64 0, .int .i64 0] 41 (0, 0)) := (k4.block _ (block_lt HB3.out) (fun e => e)).trans HB3.out
  have q0 := block_cell b4 0
  have q1 := block_cell b4 1
  have q2 := block_cell b4 2
  have f0 := block_free b4 0
  have f1 := block_free b4 1
  have f2 := block_free b4 2
  have hj4 := block_lt b4
  have HX : Hid (∀ o, (((((w4.setCell ⟨w.heap.size, 0, none⟩ (.int .i64 (nextM (newG C.s C.r) m))).setCell ⟨w.heap.size, 1, none⟩ (.int .i64 (joinG (newG C.s C.r) m topics now).gen)).setCell ⟨w.heap.size, 2, none⟩ (.int .i64 (firstM (joinG (newG C.s C.r) m topics now).ones))).alloc o).drew).heap[w.heap.size]? = some (.cells #[.int .i64 (nextM (newG C.s C.r) m), .int .i64 (joinG (newG C.s C.r) m topics now).gen, .int .i64 (firstM (joinG (newG C.s C.r) m topics now).ones)] 41 (0, 0))) :=
    fun o => (Below.heap_alloc _ _ _ (by simpa using hj4)).trans (setCell_block (setCell_block (setCell_block b4 0 _) 1 _) 2 _)
  have HSS : Hid (∀ k, k = w.heap.size → w0.heap.size ≤ k ∧ k ≠ cb ∧ k ≠ Y'.gb ∧ k ≠ Y'.tb ∧ k ≠ Y'.ob ∧ ∀ i, i < Y'.L.length → ¬ Y'.fp i k) := by
    show ∀ k, _ → _
    rintro k rfl
    have hs := HS.out
    have hz := HSZ.out
    refine ⟨hs.1, by omega, by rw [HG.out.1]; omega, by rw [HG.out.2.1]; omega, by rw [HG.out.2.2.1]; omega, fun j hj e => ?_⟩
    rcases HFP.out j _ hj e with e2 | e2
    · exact HJB.out j e2.1 e2.2
    · omega
  have HK4 := Lib.hid k4
  have hln : 0 < (joinG (newG C.s C.r) m topics now).ones.length := Nat.pos_of_ne_zero HLEN.out
  clear hq hv k4 hgr3 hm3 hr2 b4
  go_wp2
  go_region
  all_goals go_wp2
  (try simp only [Exit.inBlock, Exit.then])
  all_goals refine bodyPost_ret (results_cell_row2 rfl _ _ _ _ _ _ _ rfl (HX.out _) Tryz.underlying41 rfl (by kernel_rfl)) rfl ?_
  all_goals exact ⟨rfl, Y', (HM4.out.keep HK4.out).keepS (S := fun k => k = w.heap.size) ((((((Keeps.refl (fun k => k = w.heap.size) w4).setC 0 _ (fun _ => rfl)).setC 1 _ (fun _ => rfl)).setC 2 _ (fun _ => rfl)).alloc _).drew) HSS.out⟩
end
end Go.Proofs.YtklhlffdpojkoaaGreat
