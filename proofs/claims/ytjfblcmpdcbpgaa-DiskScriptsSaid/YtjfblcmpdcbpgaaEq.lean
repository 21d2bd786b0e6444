/-
  step: Read, Fuse, Copy, Names on both disks.
-/
import Derived.Test.YtjfblcmpdcbpgaaEp
namespace Go.Proofs.Ytjfblcmpdcbpgaa
open Go.RowKit Fx

theorem DAt.of_same {w0 w w' : World} {db mb : Nat} {D : DiskC} {L : List (ByteArray × (Nat × FileC))} (h : DAt w0 w db D mb L) (hk : K0 w0 w') (hb : ∀ k, inD db mb L k → w'.heap[k]? = w.heap[k]?) : DAt w0 w' db D mb L :=
  ⟨hk, (hb db (.inl rfl)).trans h.blk, h.core, h.map.of_block (hb mb (.inr (.inl rfl))), fun s p e => (hb p.1 (.inr (.inr ⟨s, p, e, rfl⟩))).trans (h.fil s p e), h.apart, h.ne, h.new, h.fnew, h.keys⟩
section
variable {w0 wb w : World} {db b n : Nat} {D R : DiskC} {E : Nat → Prop}
/-- A copy: the same files. -/
structure SameD (D C : DiskC) : Prop where
  room : C.room = D.room
  used : C.used = D.used
  fuse : C.fuse = D.fuse
  get : ∀ s, aget C.files s = aget D.files s
  keys : KD C.files
theorem SameD.perm {C : DiskC} (h : SameD D C) (wf : WfD D) : C.files.Perm D.files := perm_same h.keys wf.keys h.get
theorem SameD.good {C : DiskC} (h : SameD D C) (hg : Good D R n) : Good C R n := by
  have hp := h.perm hg.wf
  have hz : szF C.files = szF D.files := by unfold szF; exact (hp.map _).sum_nat
  refine ⟨⟨by rw [h.room]; exact hg.wf.room, by rw [h.used, hz]; exact hg.wf.used, by rw [h.used, h.room]; exact hg.wf.most, fun s x e => hg.wf.safe s x (by rw [← h.get]; exact e), by rw [h.fuse]; exact hg.wf.fuse, h.keys, fun s x e => hg.wf.names s x (by rw [← h.get]; exact e)⟩, ⟨by rw [h.room]; exact hg.sim.room, by rw [h.used]; exact hg.sim.used, by rw [h.fuse]; exact hg.sim.fuse, fun s => by rw [h.get]; exact hg.sim.get s, hg.sim.ord⟩, by rw [hp.length_eq]; exact hg.len⟩
/-- What a copy leaves. -/
def CopyP (w0 w : World) (db : Nat) (D : DiskC) (b : Nat) (R : DiskC) (bo : Nat) (e : Ending) (w' : World) : Prop :=
  ∃ cb C mb L, e = .returned (.pointer (some ⟨cb, 0, none⟩)) ∧ DAt w0 w' cb C mb L ∧ SameD D C ∧ JSt (fun k => inD cb mb L k ∨ k = bo) w0 w' w' db D b R ∧ K0 w w'
theorem jp_copy {bo : Nat} (h : JSt (fun k => k = bo) w0 wb w db D b R) (wf : WfD D) (hl : D.files.length ≤ 1000) : Calls Try.prog 15 #[.pointer (some ⟨db, 0, none⟩)] w (CopyP w0 w db D b R bo) := by
  obtain ⟨mb, L, F, h1, h2, h3, h4⟩ := h
  refine (copy_at h1 wf hl).mono fun e w' hq => ?_
  obtain ⟨F2, rfl, ⟨mb2, L2, h5⟩, hag⟩ := hq
  have hkd : KD F2 := by
    have := h5.keys.amap (fun p : Nat × FileC => p.2)
    rw [h5.core] at this
    exact this
  refine ⟨_, _, mb2, L2, rfl, h5.base h1.k0, ⟨rfl, rfl, rfl, hag, hkd⟩, ⟨mb, L, F, h1.keep h5.k0, h2.keep h5.k0 (fun _ _ e => e), h3, fun k e => ?_⟩, h5.k0⟩
  rcases e with e | rfl
  · have h6 := inD_ge h5 e
    have h7 := inD_lt h5 e
    exact ⟨h7, fun e2 => by have := h2.lt k e2; omega, fun e2 => by have := inD_lt h1 e2; omega, rfl⟩
  · obtain ⟨a1, a2, a3, a4⟩ := h4 k rfl
    exact ⟨Nat.lt_of_lt_of_le a1 h5.k0.size, a2, a3, rfl⟩
/-- The copy goes on, and a copy of the document's disk. -/
theorem jr_copy {E : Nat → Prop} {w1 w4 : World} {cb mb : Nat} {C D4 : DiskC} {L : List (ByteArray × (Nat × FileC))} (h : JSt E w0 w1 w4 db D4 b R) (hE : ∀ k, inD cb mb L k → E k) (hc : DAt w0 w1 cb C mb L) (hl : R.files.length ≤ 1000) :
    Calls Try.prog 40 #[.pointer (some ⟨b, 0, none⟩)] w4 fun e w' => ∃ b', e = .returned (.pointer (some ⟨b', 0, none⟩)) ∧ JSt (fun _ => False) w0 w0 w' cb C b' R := by
  have hk := h.k0
  have hc4 : DAt w0 w4 cb C mb L := hc.of_same hk (fun k e => h.blk (hE k e))
  obtain ⟨mb1, L1, F, h1, h2, h3, h4⟩ := h
  refine (rcopy_any h2 hl).mono fun e w' hq => ?_
  obtain ⟨c, F', rfl, q1, q2, q3⟩ := hq
  refine ⟨c, rfl, mb, L, F', hc4.keep q3, q1, fun k e => ⟨fun e2 => ?_, ?_⟩, fun k e => e.elim⟩
  · have := inD_lt hc4 e2
    have := q2 k e
    omega
  · have := q2 k e
    have := hk.size
    omega
end
section
variable {w0 w : World} {db b n : Nat} {D R : DiskC} {nm tx : ByteArray} {m : Int} {kp : List Int} {ka : Option Addr} {kc : Nat}
set_option maxRecDepth 100000 in
set_option maxHeartbeats 4000000 in
theorem step_2 (h : JSt (fun _ => False) w0 w0 w db D b R) (hg : Good D R n) (hn : n ≤ 900) : Calls Try.prog 22 #[.pointer (some ⟨db, 0, none⟩), .pointer (some ⟨b, 0, none⟩), .agg #[.int .i64 2, .string nm, .string tx, .int .i64 m, .slice ka kp.length kc]] w (StepP w0 n) := by
  have HA : Hid ((w.alloc (.cells #[.int .i64 2, .string nm, .string tx, .int .i64 m, .slice ka kp.length kc] 50)).heap[w.heap.size]? = some (.cells #[.int .i64 2, .string nm, .string tx, .int .i64 m, .slice ka kp.length kc] 50 (0, 0))) := heap_new _ _ _ rfl
  have HJ := Lib.hid (h.base (w.alloc (.cells #[.int .i64 2, .string nm, .string tx, .int .i64 m, .slice ka kp.length kc] 50)) ((Keeps.refl _ _).alloc _) (Nat.le_refl _) (by simp))
  have HG := Lib.hid hg
  have HD := Lib.hid hg.wf
  have HR := Lib.hid hg.wfR
  have HL : Hid (R.files.length ≤ 1000) := by have := hg.lenR; show _ ≤ _; omega
  clear h hg
  go_enter Try.func22, Try.ntmps22
  go_wp2_with fail
  obtain ⟨bo, hbo⟩ : ∃ bo, bo = w.heap.size := ⟨_, rfl⟩
  rw [← hbo] at HA HJ ⊢
  clear hbo
  generalize w.alloc _ = wa at HA HJ ⊢
  have c1 : wa.cell? ⟨bo, 1, none⟩ = some (.string nm) := block_cell HA.out 1
  have c2 : wa.cell? ⟨bo, 2, none⟩ = some (.string tx) := block_cell HA.out 2
  have c3 : wa.cell? ⟨bo, 3, none⟩ = some (.int .i64 m) := block_cell HA.out 3
  have c4 : wa.cell? ⟨bo, 4, none⟩ = some (.slice ka kp.length kc) := block_cell HA.out 4
  have hbl := block_lt HA.out
  have HC : Hid (∀ wx db' D' b' R', JSt (fun k => k = bo) w0 wa wx db' D' b' R' → wx.cell? ⟨bo, 1, none⟩ = some (.string nm) ∧ wx.cell? ⟨bo, 2, none⟩ = some (.string tx) ∧ wx.cell? ⟨bo, 3, none⟩ = some (.int .i64 m) ∧ wx.cell? ⟨bo, 4, none⟩ = some (.slice ka kp.length kc) ∧ bo < wx.heap.size) := by
    show ∀ _ _ _ _ _, _ → _
    intro wx db' D' b' R' hj
    have hk := (hj.blk rfl).trans HA.out
    exact ⟨block_cell hk 1, block_cell hk 2, block_cell hk 3, block_cell hk 4, block_lt hk⟩
  refine (jp_read HJ.out nm).mono ?_
  rintro e w1 ⟨rfl, hj1⟩
  obtain ⟨d1, d2, d3, d4, d5⟩ := HC.out _ _ _ _ _ hj1
  have HRR := Lib.hid (jr_read hj1 HR.out HL.out nm)
  have HE1 : Hid (dreadV R nm = dreadV D nm) := HG.out.sim.readV nm
  have HE2 : Hid (fileE R nm = fileE D nm) := HG.out.sim.fileE nm
  rw [HE1.out, HE2.out] at HRR
  generalize dreadV D nm = tv at HRR HE1 ⊢
  generalize fileE D nm = fe at HRR HE2 ⊢
  clear c1 c2 c3 c4 hj1
  go_wp2_with fail
  refine HRR.out.mono ?_
  rintro e w2 ⟨rfl, hj2⟩
  have HF : Hid (JSt (fun _ => False) w0 w0 w2 db D b R) := hj2.drop w0
  clear hj2 d1 d2 d3 d4 d5
  go_wp2
  go_ret3
  exact ⟨_, _, _, _, rfl, HF.out, HG.out.up⟩
set_option maxRecDepth 100000 in
set_option maxHeartbeats 4000000 in
theorem step_6 (h : JSt (fun _ => False) w0 w0 w db D b R) (hg : Good D R n) (hn : n ≤ 900) (hm : m ≤ 9223372036854775807) : Calls Try.prog 22 #[.pointer (some ⟨db, 0, none⟩), .pointer (some ⟨b, 0, none⟩), .agg #[.int .i64 6, .string nm, .string tx, .int .i64 m, .slice ka kp.length kc]] w (StepP w0 n) := by
  have HA : Hid ((w.alloc (.cells #[.int .i64 6, .string nm, .string tx, .int .i64 m, .slice ka kp.length kc] 50)).heap[w.heap.size]? = some (.cells #[.int .i64 6, .string nm, .string tx, .int .i64 m, .slice ka kp.length kc] 50 (0, 0))) := heap_new _ _ _ rfl
  have HJ := Lib.hid (h.base (w.alloc (.cells #[.int .i64 6, .string nm, .string tx, .int .i64 m, .slice ka kp.length kc] 50)) ((Keeps.refl _ _).alloc _) (Nat.le_refl _) (by simp))
  have HG := Lib.hid hg
  have HD := Lib.hid hg.wf
  have HR := Lib.hid hg.wfR
  have HL : Hid (R.files.length ≤ 1000) := by have := hg.lenR; show _ ≤ _; omega
  clear h hg
  go_enter Try.func22, Try.ntmps22
  go_wp2_with fail
  obtain ⟨bo, hbo⟩ : ∃ bo, bo = w.heap.size := ⟨_, rfl⟩
  rw [← hbo] at HA HJ ⊢
  clear hbo
  generalize w.alloc _ = wa at HA HJ ⊢
  have c1 : wa.cell? ⟨bo, 1, none⟩ = some (.string nm) := block_cell HA.out 1
  have c2 : wa.cell? ⟨bo, 2, none⟩ = some (.string tx) := block_cell HA.out 2
  have c3 : wa.cell? ⟨bo, 3, none⟩ = some (.int .i64 m) := block_cell HA.out 3
  have c4 : wa.cell? ⟨bo, 4, none⟩ = some (.slice ka kp.length kc) := block_cell HA.out 4
  have hbl := block_lt HA.out
  have HC : Hid (∀ wx db' D' b' R', JSt (fun k => k = bo) w0 wa wx db' D' b' R' → wx.cell? ⟨bo, 1, none⟩ = some (.string nm) ∧ wx.cell? ⟨bo, 2, none⟩ = some (.string tx) ∧ wx.cell? ⟨bo, 3, none⟩ = some (.int .i64 m) ∧ wx.cell? ⟨bo, 4, none⟩ = some (.slice ka kp.length kc) ∧ bo < wx.heap.size) := by
    show ∀ _ _ _ _ _, _ → _
    intro wx db' D' b' R' hj
    have hk := (hj.blk rfl).trans HA.out
    exact ⟨block_cell hk 1, block_cell hk 2, block_cell hk 3, block_cell hk 4, block_lt hk⟩
  refine (jp_fuse HJ.out HD.out m).mono ?_
  rintro e w1 ⟨rfl, hj1⟩
  obtain ⟨d1, d2, d3, d4, d5⟩ := HC.out _ _ _ _ _ hj1
  obtain ⟨hb, hfz, _, _⟩ := hj1.rcell
  have HJ1 := Lib.hid hj1
  have HGD := Lib.hid (HG.out.dfuse hm)
  clear c1 c2 c3 c4 hj1
  by_cases hlt : m < -1
  · have HE : Hid (dfuseE m = 1) := by show _ = _; unfold dfuseE; rw [if_pos hlt]
    have HRE : Hid (dfuseC R m = R) := by show _ = _; unfold dfuseC; rw [if_pos hlt]
    rw [HE.out]
    go_wp2
    go_ret3
    have h9 := HGD.out
    rw [HRE.out] at h9
    exact ⟨_, _, _, _, rfl, HJ1.out.drop w0, h9⟩
  · have HE : Hid (dfuseE m = 0) := by show _ = _; unfold dfuseE; rw [if_neg hlt]
    have HRE : Hid (dfuseC R m = ⟨R.room, R.used, m, R.files⟩) := by show _ = _; unfold dfuseC; rw [if_neg hlt]
    have HF : Hid (JSt (fun _ => False) w0 w0 (w1.setCell ⟨b, 2, none⟩ (.int .i64 m)) db (dfuseC D m) b ⟨R.room, R.used, m, R.files⟩) := (HJ1.out.rfuse m).drop w0
    rw [HE.out]
    go_wp2
    go_ret3
    have h9 := HGD.out
    rw [HRE.out] at h9
    exact ⟨_, _, _, _, rfl, HF.out, h9⟩
set_option maxRecDepth 100000 in
set_option maxHeartbeats 4000000 in
theorem step_8 (h : JSt (fun _ => False) w0 w0 w db D b R) (hg : Good D R n) (hn : n ≤ 900) : Calls Try.prog 22 #[.pointer (some ⟨db, 0, none⟩), .pointer (some ⟨b, 0, none⟩), .agg #[.int .i64 8, .string nm, .string tx, .int .i64 m, .slice ka kp.length kc]] w (StepP w0 n) := by
  have HA : Hid ((w.alloc (.cells #[.int .i64 8, .string nm, .string tx, .int .i64 m, .slice ka kp.length kc] 50)).heap[w.heap.size]? = some (.cells #[.int .i64 8, .string nm, .string tx, .int .i64 m, .slice ka kp.length kc] 50 (0, 0))) := heap_new _ _ _ rfl
  have HJ := Lib.hid (h.base (w.alloc (.cells #[.int .i64 8, .string nm, .string tx, .int .i64 m, .slice ka kp.length kc] 50)) ((Keeps.refl _ _).alloc _) (Nat.le_refl _) (by simp))
  have HG := Lib.hid hg
  have HD := Lib.hid hg.wf
  have HR := Lib.hid hg.wfR
  have HL : Hid (R.files.length ≤ 1000) := by have := hg.lenR; show _ ≤ _; omega
  clear h hg
  go_enter Try.func22, Try.ntmps22
  go_wp2_with fail
  obtain ⟨bo, hbo⟩ : ∃ bo, bo = w.heap.size := ⟨_, rfl⟩
  rw [← hbo] at HA HJ ⊢
  clear hbo
  generalize w.alloc _ = wa at HA HJ ⊢
  have c1 : wa.cell? ⟨bo, 1, none⟩ = some (.string nm) := block_cell HA.out 1
  have c2 : wa.cell? ⟨bo, 2, none⟩ = some (.string tx) := block_cell HA.out 2
  have c3 : wa.cell? ⟨bo, 3, none⟩ = some (.int .i64 m) := block_cell HA.out 3
  have c4 : wa.cell? ⟨bo, 4, none⟩ = some (.slice ka kp.length kc) := block_cell HA.out 4
  have hbl := block_lt HA.out
  have HC : Hid (∀ wx db' D' b' R', JSt (fun k => k = bo) w0 wa wx db' D' b' R' → wx.cell? ⟨bo, 1, none⟩ = some (.string nm) ∧ wx.cell? ⟨bo, 2, none⟩ = some (.string tx) ∧ wx.cell? ⟨bo, 3, none⟩ = some (.int .i64 m) ∧ wx.cell? ⟨bo, 4, none⟩ = some (.slice ka kp.length kc) ∧ bo < wx.heap.size) := by
    show ∀ _ _ _ _ _, _ → _
    intro wx db' D' b' R' hj
    have hk := (hj.blk rfl).trans HA.out
    exact ⟨block_cell hk 1, block_cell hk 2, block_cell hk 3, block_cell hk 4, block_lt hk⟩
  have HLD : Hid (D.files.length ≤ 1000) := by have := HG.out.len; show _ ≤ _; omega
  refine (jp_copy HJ.out HD.out HLD.out).mono ?_
  rintro e w1 ⟨cb, C, mb, L, rfl, hc, hsd, hj1, hk1⟩
  have HSD := Lib.hid hsd
  have HCC := Lib.hid hc
  have HB1 := Lib.hid ((hk1.block bo hbl (fun e => e)).trans HA.out)
  have HCX : Hid (∀ wx D', JSt (fun k => inD cb mb L k ∨ k = bo) w0 w1 wx db D' b R → wx.cell? ⟨bo, 1, none⟩ = some (.string nm) ∧ bo < wx.heap.size) := by
    show ∀ _ _, _ → _
    intro wx D' hj
    have hk := (hj.blk (.inr rfl)).trans HB1.out
    exact ⟨block_cell hk 1, block_lt hk⟩
  have HF := Lib.hid (jp_fuse hj1 HD.out (-1))
  have HW1 : Hid (WfD (dfuseC D (-1))) := HD.out.dfuse (by omega)
  have HW2 : Hid (WfD (dappC (dfuseC D (-1)) nm ⟨#[119, 114, 105, 116, 116, 101, 110]⟩)) := HW1.out.app nm _
  clear c1 c2 c3 c4 hc hsd hj1 hk1 hbl
  go_wp2_with fail
  refine HF.out.mono ?_
  rintro e w2 ⟨rfl, hj2⟩
  obtain ⟨d1, d2⟩ := HCX.out _ _ hj2
  have HA2 := Lib.hid (jp_app hj2 HW1.out nm ⟨#[119, 114, 105, 116, 116, 101, 110]⟩ (by decide))
  clear hj2
  go_wp2_with fail
  refine HA2.out.mono ?_
  rintro e w3 ⟨rfl, hj3⟩
  obtain ⟨f1, f2⟩ := HCX.out _ _ hj3
  have HD3 := Lib.hid (jp_drop hj3 HW2.out nm)
  clear hj3 d1 d2
  go_wp2_with fail
  refine HD3.out.mono ?_
  rintro e w4 ⟨rfl, hj4⟩
  have HR4 := Lib.hid (jr_copy hj4 (fun k e => .inl e) HCC.out HL.out)
  clear hj4 f1 f2
  go_wp2_with fail
  refine HR4.out.mono ?_
  rintro e w5 ⟨b', rfl, hj5⟩
  have HJ5 := Lib.hid hj5
  clear hj5
  go_wp2
  go_ret3
  exact ⟨_, _, _, _, rfl, HJ5.out, (HSD.out.good HG.out).up⟩
set_option maxRecDepth 100000 in
set_option maxHeartbeats 4000000 in
theorem step_d {dv : Int} (h : JSt (fun _ => False) w0 w0 w db D b R) (hg : Good D R n) (hn : n ≤ 900) (q0 : (dv == 0) = false) (q1 : (dv == 1) = false) (q2 : (dv == 2) = false) (q3 : (dv == 3) = false) (q4 : (dv == 4) = false) (q5 : (dv == 5) = false) (q6 : (dv == 6) = false) (q7 : (dv == 7) = false) (q8 : (dv == 8) = false) : Calls Try.prog 22 #[.pointer (some ⟨db, 0, none⟩), .pointer (some ⟨b, 0, none⟩), .agg #[.int .i64 dv, .string nm, .string tx, .int .i64 m, .slice ka kp.length kc]] w (StepP w0 n) := by
  have HA : Hid ((w.alloc (.cells #[.int .i64 dv, .string nm, .string tx, .int .i64 m, .slice ka kp.length kc] 50)).heap[w.heap.size]? = some (.cells #[.int .i64 dv, .string nm, .string tx, .int .i64 m, .slice ka kp.length kc] 50 (0, 0))) := heap_new _ _ _ rfl
  have HJ := Lib.hid (h.base (w.alloc (.cells #[.int .i64 dv, .string nm, .string tx, .int .i64 m, .slice ka kp.length kc] 50)) ((Keeps.refl _ _).alloc _) (Nat.le_refl _) (by simp))
  have HG := Lib.hid hg
  have HD := Lib.hid hg.wf
  have HR := Lib.hid hg.wfR
  have HL : Hid (R.files.length ≤ 1000) := by have := hg.lenR; show _ ≤ _; omega
  clear h hg
  go_enter Try.func22, Try.ntmps22
  go_wp2_with fail
  obtain ⟨bo, hbo⟩ : ∃ bo, bo = w.heap.size := ⟨_, rfl⟩
  rw [← hbo] at HA HJ ⊢
  clear hbo
  generalize w.alloc _ = wa at HA HJ ⊢
  have c1 : wa.cell? ⟨bo, 1, none⟩ = some (.string nm) := block_cell HA.out 1
  have c2 : wa.cell? ⟨bo, 2, none⟩ = some (.string tx) := block_cell HA.out 2
  have c3 : wa.cell? ⟨bo, 3, none⟩ = some (.int .i64 m) := block_cell HA.out 3
  have c4 : wa.cell? ⟨bo, 4, none⟩ = some (.slice ka kp.length kc) := block_cell HA.out 4
  have hbl := block_lt HA.out
  have HC : Hid (∀ wx db' D' b' R', JSt (fun k => k = bo) w0 wa wx db' D' b' R' → wx.cell? ⟨bo, 1, none⟩ = some (.string nm) ∧ wx.cell? ⟨bo, 2, none⟩ = some (.string tx) ∧ wx.cell? ⟨bo, 3, none⟩ = some (.int .i64 m) ∧ wx.cell? ⟨bo, 4, none⟩ = some (.slice ka kp.length kc) ∧ bo < wx.heap.size) := by
    show ∀ _ _ _ _ _, _ → _
    intro wx db' D' b' R' hj
    have hk := (hj.blk rfl).trans HA.out
    exact ⟨block_cell hk 1, block_cell hk 2, block_cell hk 3, block_cell hk 4, block_lt hk⟩
  have HLD : Hid (D.files.length ≤ 1000) := by have := HG.out.len; show _ ≤ _; omega
  refine (jp_names HJ.out HD.out HLD.out).mono ?_
  rintro e w1 ⟨a, c, ss, rfl, hS, k1, hz, hnz⟩
  have HSS : Hid (ss = if R.fuse = 0 then [] else keysF R.files) := by
    show _ = _
    rw [HG.out.sim.fuse]
    by_cases hf : D.fuse = 0
    · rw [if_pos hf, hz hf]
    · rw [if_neg hf]
      exact HG.out.sim.names HD.out (hnz hf).1 (hnz hf).2
  have hj1 := HJ.out.keep k1
  have HRN := Lib.hid (jr_names hj1 HL.out)
  rw [← HSS.out] at HRN
  have HS1 := Lib.hid hS
  have HJ1 := Lib.hid hj1
  clear c1 c2 c3 c4 hbl hS k1 hz hnz hj1
  go_wp2_with fail
  refine HRN.out.mono ?_
  rintro e w2 ⟨a2, cc2, rfl, hS2, k2⟩
  have HSM := Lib.hid (same_any (c := c) (d := cc2) (HS1.out.keep k2) hS2)
  have HJ2 := Lib.hid (HJ1.out.keep k2)
  clear hS2 k2
  go_wp2_with fail
  refine HSM.out.mono ?_
  rintro e w3 ⟨rfl, k3⟩
  have HJ3 := Lib.hid ((HJ2.out.keep k3).drop w0)
  clear k3
  go_wp2
  go_ret3
  exact ⟨_, _, _, _, rfl, HJ3.out, HG.out.up⟩
end
end Go.Proofs.Ytjfblcmpdcbpgaa
