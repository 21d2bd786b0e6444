/-
  A disk's calls that turn a file: keep, Sync, Cut, Drop.
-/
import Derived.Test.YtjfblcmpdcbpgaaDc
namespace Go.Proofs.Ytjfblcmpdcbpgaa
open Go.RowKit Fx

section
variable {w0 w : World} {db mb : Nat} {D : DiskC} {L : List (ByteArray × (Nat × FileC))}
theorem DAt.fne (h : DAt w0 w db D mb L) {s : ByteArray} {p : Nat × FileC} (e : aget L s = Option.some p) : p.1 ≠ db := (h.fnew s p e).2.1
/-- A file's cells and the disk's used bytes have turned. -/
theorem set_cells (h : DAt w0 w db D mb L) {s : ByteArray} {b : Nat} {x x' : FileC} (e : aget L s = some (b, x)) (u : Int) :
    DAt w0 (((w.setCell ⟨db, 1, none⟩ (.int .i64 u)).setCell ⟨b, 0, none⟩ (.string x'.bytes)).setCell ⟨b, 1, none⟩ (.int .i64 x'.safe)) db ⟨D.room, u, D.fuse, aput D.files s x'⟩ mb (aput L s (b, x')) ∧
      Keeps (fun k => k = b ∨ k = db) w (((w.setCell ⟨db, 1, none⟩ (.int .i64 u)).setCell ⟨b, 0, none⟩ (.string x'.bytes)).setCell ⟨b, 1, none⟩ (.int .i64 x'.safe)) := by
  have hne : b ≠ db := h.fne e
  have hf := h.fil s _ e
  have k1 : Keeps (fun k => k = db) w (w.setCell ⟨db, 1, none⟩ (.int .i64 u)) := (Keeps.refl (fun k => k = db) w).setC 1 _ (fun _ => rfl)
  have b1 : (w.setCell ⟨db, 1, none⟩ (.int .i64 u)).heap[db]? = some (.cells #[.int .i64 D.room, .int .i64 u, .int .i64 D.fuse, .map (some mb)] 59 (0, 0)) := setCell_block h.blk 1 _
  have f1 := (k1.block b (block_lt hf) hne).trans hf
  have k2 : Keeps (fun k => k = b) (w.setCell ⟨db, 1, none⟩ (.int .i64 u)) (((w.setCell ⟨db, 1, none⟩ (.int .i64 u)).setCell ⟨b, 0, none⟩ (.string x'.bytes)).setCell ⟨b, 1, none⟩ (.int .i64 x'.safe)) :=
    ((Keeps.refl (fun k => k = b) _).setC 0 _ (fun _ => rfl)).setC 1 _ (fun _ => rfl)
  have f2 : (((w.setCell ⟨db, 1, none⟩ (.int .i64 u)).setCell ⟨b, 0, none⟩ (.string x'.bytes)).setCell ⟨b, 1, none⟩ (.int .i64 x'.safe)).heap[b]? = some (.cells #[.string x'.bytes, .int .i64 x'.safe] 65 (0, 0)) := setCell_block (setCell_block f1 0 _) 1 _
  have k3 : Keeps (fun k => k = b ∨ k = db) w _ := (k1.mono (fun _ _ e => .inr e)).trans k2 (fun _ _ e => .inl e)
  exact ⟨h.set e k3 ((k2.block db (block_lt b1) (fun e => hne e.symm)).trans b1) f2, k3⟩
def KeepPost (w0 : World) (db : Nat) (D : DiskC) (mb : Nat) (L : List (ByteArray × (Nat × FileC))) (s : ByteArray) (b : Nat) (x : FileC) (n : Nat) (w : World) (e : Ending) (w' : World) : Prop :=
  e = .returned (.tuple #[]) ∧ DAt w0 w' db (keepD D s n) mb (aput L s (b, keepF x n)) ∧ Keeps (fun k => k = b ∨ k = db) w w'
set_option maxRecDepth 100000 in
set_option maxHeartbeats 1000000 in
theorem keep_at (h : DAt w0 w db D mb L) (wf : WfD D) {s : ByteArray} {b : Nat} {x : FileC} (e : aget L s = some (b, x)) {n : Nat} (hn : n ≤ x.bytes.size) :
    Calls Try.prog 32 #[.pointer (some ⟨db, 0, none⟩), .pointer (some ⟨b, 0, none⟩), .int .i64 n] w fun e w' => KeepPost w0 db D mb L s b x n w e w' := by
  have hx : aget D.files s = some x := by rw [h.agetL, e]; rfl
  have ho : oldF D s = x := by simp [oldF, hx]
  have hf := h.fil s _ e
  have hS := Lib.hid (set_cells h e (x' := keepF x n) (D.used - (x.bytes.size - n)))
  unfold KeepPost keepD
  rw [ho]
  have c1 := block_cell h.blk 1
  have g1 := block_free h.blk 1
  have d0 := block_cell hf 0
  have d1 := block_cell hf 1
  have e0 := block_free hf 0
  have e1 := block_free hf 1
  have hlt := block_lt h.blk
  have hltb := block_lt hf
  have hne : b ≠ db := h.fne e
  have hne2 : db ≠ b := fun e => hne e.symm
  have hu := h.core
  have z1 := wf.size hx
  have z6 : (x.bytes.size : Int) ≤ D.used ∧ D.used ≤ 4194304 := by
    have := wf.used
    have := wf.most
    have := wf.room
    have := szF_get hx
    omega
  have z5 := wf.safe s x hx
  clear h e hx ho hf wf hu
  by_cases hs : x.safe ≤ n
  · have HF : Hid (keepF x n = ⟨x.bytes.extract 0 n, x.safe⟩) := by show _ = _; unfold keepF; rw [if_pos hs]
    rw [HF.out] at hS ⊢
    go_enter Try.func32, Try.ntmps32
    go_wp2
    go_region
    all_goals go_wp2
    all_goals go_region
    all_goals go_wp2
    all_goals go_end0
    all_goals exact ⟨rfl, hS.out.1.keep (Keeps.refl _ _).drew.drew, hS.out.2.drew.drew⟩
  · have HF : Hid (keepF x n = ⟨x.bytes.extract 0 n, n⟩) := by show _ = _; unfold keepF; rw [if_neg hs]
    rw [HF.out] at hS ⊢
    go_enter Try.func32, Try.ntmps32
    go_wp2
    go_region
    all_goals go_wp2
    all_goals go_region
    all_goals go_wp2
    all_goals go_end0
    all_goals exact ⟨rfl, hS.out.1.keep (Keeps.refl _ _).drew.drew, hS.out.2.drew.drew⟩
theorem keepD_fuse (D : DiskC) (s : ByteArray) (n : Nat) : (keepD D s n).fuse = D.fuse := rfl
theorem fileE_ne {D : DiskC} {s : ByteArray} (h : fileE D s = 0) : ¬ D.fuse = 0 := fun e => by unfold fileE at h; rw [if_pos e] at h; cases h
set_option maxRecDepth 100000 in
set_option maxHeartbeats 1000000 in
theorem sync_at (h : DAt w0 w db D mb L) (wf : WfD D) (s : ByteArray) : Calls Try.prog 12 #[.pointer (some ⟨db, 0, none⟩), .string s] w fun e w' => e = .returned (.int .i64 (fileE D s)) ∧ DSt w0 w' db (dsyncC D s) := by
  unfold dsyncC
  by_cases he : fileE D s = 0
  · obtain ⟨b, hb, hc⟩ := file_at h s he
    have HC := Lib.hid hc
    have HH := Lib.hid h
    have HE := Lib.hid hb
    have HF := Lib.hid wf.fuse
    have hne : b ≠ db := h.fne hb
    have HS : Hid (∀ w1, K0 w w1 → DAt w0 (w1.setCell ⟨b, 1, none⟩ (.int .i64 (oldF D s).bytes.size)) db ⟨D.room, D.used, D.fuse, aput D.files s ⟨(oldF D s).bytes, (oldF D s).bytes.size⟩⟩ mb (aput L s (b, ⟨(oldF D s).bytes, (oldF D s).bytes.size⟩))) := by
      show ∀ w1, _ → _
      intro w1 k1
      have h1 := h.keep k1
      have k2 : Keeps (fun k => k = b) w1 (w1.setCell ⟨b, 1, none⟩ (.int .i64 (oldF D s).bytes.size)) := (Keeps.refl (fun k => k = b) w1).setC 1 _ (fun _ => rfl)
      exact h1.set hb (x' := ⟨(oldF D s).bytes, (oldF D s).bytes.size⟩) (k2.mono fun _ _ e => .inl e) ((k2.block db (block_lt h1.blk) (fun e => hne e.symm)).trans h1.blk) (setCell_block (h1.fil s _ hb) 1 _)
    rw [if_pos he, he]
    clear h hb hc he wf
    go_enter Try.func12, Try.ntmps12
    go_wp2_with fail
    refine HC.out.mono ?_
    rintro e w1 ⟨rfl, k1⟩
    have b1 := (HH.out.keep k1).fil s _ HE.out
    have d0 := block_cell b1 0
    have d1 := block_cell b1 1
    have e1 := block_free b1 1
    have hlt1 := block_lt b1
    have HX := Lib.hid (HS.out w1 k1)
    clear k1 b1
    go_wp2_with fail
    refine (changed_at HX.out HF.out).mono ?_
    rintro e w2 ⟨rfl, h2, _⟩
    have HR := Lib.hid h2
    clear h2
    go_wp2
    go_ret
    exact ⟨rfl, _, _, HR.out⟩
  · have HC := Lib.hid (file_bad h s he)
    have HH := Lib.hid h
    rw [if_neg he]
    clear h
    go_enter Try.func12, Try.ntmps12
    go_wp2_with fail
    refine HC.out.mono ?_
    rintro e w1 ⟨rfl, k1⟩
    have HK := Lib.hid k1
    clear k1
    go_wp2
    go_ret
    exact ⟨rfl, _, _, HH.out.keep HK.out⟩
set_option maxRecDepth 100000 in
set_option maxHeartbeats 1000000 in
theorem cut_at (h : DAt w0 w db D mb L) (wf : WfD D) (s : ByteArray) (n : Int) : Calls Try.prog 20 #[.pointer (some ⟨db, 0, none⟩), .string s, .int .i64 n] w fun e w' => e = .returned (.int .i64 (dcutE D s n)) ∧ DSt w0 w' db (dcutC D s n) := by
  unfold dcutC dcutE
  by_cases he : fileE D s = 0
  · obtain ⟨b, hb, hc⟩ := file_at h s he
    have HC := Lib.hid hc
    have HH := Lib.hid h
    have HE := Lib.hid hb
    have HF := Lib.hid wf.fuse
    have HW := Lib.hid wf
    rw [if_pos he]
    by_cases hr : 0 ≤ n ∧ n ≤ (oldF D s).bytes.size
    · rw [if_pos hr, if_pos rfl]
      obtain ⟨m, rfl⟩ : ∃ m : Nat, n = m := ⟨n.toNat, by omega⟩
      have hr1 := hr.1
      have hr2 := hr.2
      have HM : Hid (m ≤ (oldF D s).bytes.size) := by show _ ≤ _; omega
      clear h hb hc he wf hr
      go_enter Try.func20, Try.ntmps20
      go_wp2_with fail
      refine HC.out.mono ?_
      rintro e w1 ⟨rfl, k1⟩
      have h1 := HH.out.keep k1
      have b1 := h1.fil s _ HE.out
      have d0 := block_cell b1 0
      have hlt1 := block_lt b1
      have HK := Lib.hid (keep_at h1 HW.out HE.out HM.out)
      clear k1 b1 h1
      go_wp2_with fail
      refine HK.out.mono ?_
      rintro e w2 ⟨rfl, h2, _⟩
      have HC2 := Lib.hid (changed_at h2 (by rw [keepD_fuse]; exact HF.out))
      clear h2
      go_wp2_with fail
      refine HC2.out.mono ?_
      rintro e w3 ⟨rfl, h3, _⟩
      have HR := Lib.hid h3
      clear h3
      go_wp2
      go_ret
      exact ⟨rfl, _, _, HR.out⟩
    · rw [if_neg hr, if_neg (by decide)]
      by_cases hr1 : n < 0
      · clear h hb hc he wf hr
        go_enter Try.func20, Try.ntmps20
        go_wp2_with fail
        refine HC.out.mono ?_
        rintro e w1 ⟨rfl, k1⟩
        have HR := Lib.hid (HH.out.keep k1)
        clear k1
        go_wp2
        go_ret
        exact ⟨rfl, _, _, HR.out⟩
      · have hr2 : ((oldF D s).bytes.size : Int) < n := by omega
        clear h hb hc he wf hr
        go_enter Try.func20, Try.ntmps20
        go_wp2_with fail
        refine HC.out.mono ?_
        rintro e w1 ⟨rfl, k1⟩
        have h1 := HH.out.keep k1
        have b1 := h1.fil s _ HE.out
        have d0 := block_cell b1 0
        have hlt1 := block_lt b1
        have HR := Lib.hid h1
        clear k1 b1 h1
        go_wp2
        go_ret
        exact ⟨rfl, _, _, HR.out⟩
  · have HC := Lib.hid (file_bad h s he)
    have HH := Lib.hid h
    rw [if_neg he, if_neg he]
    clear h
    go_enter Try.func20, Try.ntmps20
    go_wp2_with fail
    refine HC.out.mono ?_
    rintro e w1 ⟨rfl, k1⟩
    have HK := Lib.hid k1
    clear k1
    go_wp2
    go_ret
    exact ⟨rfl, _, _, HH.out.keep HK.out⟩
theorem adel_aput {κ α : Type} [DecidableEq κ] {L : List (κ × α)} {s : κ} {u : α} (h : aget L s = some u) (v : α) : adel (aput L s v) s = adel L s := by
  induction L with
  | nil => cases h
  | cons p L ih =>
    obtain ⟨k, x⟩ := p
    simp only [aget] at h
    simp only [aput, adel]
    by_cases hk : k = s
    · simp [hk, adel]
    · rw [if_neg hk] at h
      simp [hk, adel, ih h]
theorem setObj_keeps (w : World) (b : Nat) (o : Obj) : Keeps (fun k => k = b) w (setObjAt w b o) := Keeps.setObj (S := fun k => k = b) (Keeps.refl _ _) (fun _ => rfl) o
set_option maxRecDepth 100000 in
set_option maxHeartbeats 1000000 in
theorem drop_at (h : DAt w0 w db D mb L) (wf : WfD D) (s : ByteArray) : Calls Try.prog 16 #[.pointer (some ⟨db, 0, none⟩), .string s] w fun e w' => e = .returned (.int .i64 (fileE D s)) ∧ DSt w0 w' db (ddropC D s) := by
  unfold ddropC
  by_cases he : fileE D s = 0
  · obtain ⟨b, hb, hc⟩ := file_at h s he
    obtain ⟨x, hx⟩ := fileE_zero he
    have ho : oldF D s = x := by simp [oldF, hx]
    have HC := Lib.hid hc
    have HH := Lib.hid h
    have HE := Lib.hid hb
    have HF := Lib.hid wf.fuse
    have HW := Lib.hid wf
    have HD : Hid ((⟨(keepD D s 0).room, (keepD D s 0).used, (keepD D s 0).fuse, adel (keepD D s 0).files s⟩ : DiskC) = ⟨D.room, D.used - (oldF D s).bytes.size, D.fuse, adel D.files s⟩) := by
      show _ = _
      simp [keepD, adel_aput hx]
    rw [if_pos he, he]
    clear h hb hc he wf hx ho
    go_enter Try.func16, Try.ntmps16
    go_wp2_with fail
    refine HC.out.mono ?_
    rintro e w1 ⟨rfl, k1⟩
    have HK : Hid (Calls Try.prog 32 #[.pointer (some ⟨db, 0, none⟩), .pointer (some ⟨b, 0, none⟩), .int .i64 0] w1 fun e w' => KeepPost w0 db D mb L s b (oldF D s) 0 w1 e w') := keep_at (HH.out.keep k1) HW.out HE.out (n := 0) (Nat.zero_le _)
    clear k1
    go_wp2_with fail
    refine HK.out.mono ?_
    rintro e w2 ⟨rfl, h2, _⟩
    have c3 := block_cell h2.blk 3
    have hlt := block_lt h2.blk
    have hm := Lib.hid h2.map
    have H2 := Lib.hid h2
    clear h2
    go_wp2_with (at_delete; refine wpList_del (strKey Try.underlying9) rfl rfl Try.underlying57 rfl s rfl hm.out ?_; intro ob hM)
    have h3 := H2.out.del (setObj_keeps _ _ ob) s hM
    rw [HD.out] at h3
    have HC2 := Lib.hid (changed_at h3 HF.out)
    clear h3 hM
    refine HC2.out.mono ?_
    rintro e w3 ⟨rfl, h4, _⟩
    have HR := Lib.hid h4
    clear h4
    go_wp2
    go_ret
    exact ⟨rfl, _, _, HR.out⟩
  · have HC := Lib.hid (file_bad h s he)
    have HH := Lib.hid h
    rw [if_neg he]
    clear h
    go_enter Try.func16, Try.ntmps16
    go_wp2_with fail
    refine HC.out.mono ?_
    rintro e w1 ⟨rfl, k1⟩
    have HK := Lib.hid k1
    clear k1
    go_wp2
    go_ret
    exact ⟨rfl, _, _, HH.out.keep HK.out⟩
end
end Go.Proofs.Ytjfblcmpdcbpgaa
