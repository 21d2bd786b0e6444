/-
  A disk and the document's disk side by side: neither knows of what is done to the other one.
-/
import Derived.Test.YtjfblcmpdcbpgaaEn
namespace Go.Proofs.Ytjfblcmpdcbpgaa
open Go.RowKit Fx

/-- Both of them, and blocks that neither has (E): these are as they were in wb. -/
def JSt (E : Nat → Prop) (w0 wb w : World) (db : Nat) (D : DiskC) (b : Nat) (R : DiskC) : Prop :=
  ∃ mb L F, DAt w0 w db D mb L ∧ RSt w F b R ∧ (∀ k, F k → ¬ inD db mb L k ∧ w0.heap.size ≤ k) ∧ ∀ k, E k → k < w.heap.size ∧ ¬ F k ∧ ¬ inD db mb L k ∧ w.heap[k]? = wb.heap[k]?
section
variable {E : Nat → Prop} {w0 wb w w' : World} {db b mb : Nat} {D R D' R' : DiskC} {L : List (ByteArray × (Nat × FileC))} {F : Nat → Prop}
theorem JSt.k0 (h : JSt E w0 wb w db D b R) : K0 w0 w := by
  obtain ⟨_, _, _, h, _⟩ := h
  exact h.k0
theorem JSt.keep (h : JSt E w0 wb w db D b R) (hk : K0 w w') : JSt E w0 wb w' db D b R := by
  obtain ⟨mb, L, F, h1, h2, h3, h4⟩ := h
  exact ⟨mb, L, F, h1.keep hk, h2.keep hk (fun _ _ e => e), h3, fun k e => ⟨Nat.lt_of_lt_of_le (h4 k e).1 hk.size, (h4 k e).2.1, (h4 k e).2.2.1, (hk.block k (h4 k e).1 (fun e => e)).trans (h4 k e).2.2.2⟩⟩
theorem JSt.blk (h : JSt E w0 wb w db D b R) {k : Nat} (e : E k) : w.heap[k]? = wb.heap[k]? := by
  obtain ⟨mb, L, F, h1, h2, h3, h4⟩ := h
  exact (h4 k e).2.2.2
theorem jst_prog (h1 : DAt w0 w db D mb L) (h2 : RSt w F b R) (h3 : ∀ k, F k → ¬ inD db mb L k ∧ w0.heap.size ≤ k) (h4 : ∀ k, E k → k < w.heap.size ∧ ¬ F k ∧ ¬ inD db mb L k ∧ w.heap[k]? = wb.heap[k]?) (hn : DNext w0 w db mb L D' w') : JSt E w0 wb w' db D' b R := by
  obtain ⟨L', q1, q2, q3⟩ := hn
  have hin : ∀ k, k < w.heap.size → inD db mb L' k → inD db mb L k := fun k hk e => by
    rcases e with rfl | rfl | ⟨s, p, e, rfl⟩
    · exact .inl rfl
    · exact .inr (.inl rfl)
    · rcases q2 s p e with ⟨t, q, e2, e3⟩ | e2
      · exact .inr (.inr ⟨t, q, e2, e3⟩)
      · omega
  refine ⟨mb, L', F, q1, h2.keep q3 (fun k e => (h3 k e).1), fun k e => ⟨fun e2 => (h3 k e).1 (hin k (h2.lt k e) e2), (h3 k e).2⟩, fun k e => ?_⟩
  obtain ⟨a1, a2, a3, a4⟩ := h4 k e
  exact ⟨Nat.lt_of_lt_of_le a1 q3.size, a2, fun e2 => a3 (hin k a1 e2), (q3.block k a1 a3).trans a4⟩
theorem jst_ref (h1 : DAt w0 w db D mb L) (h2 : RSt w F b R) (h3 : ∀ k, F k → ¬ inD db mb L k ∧ w0.heap.size ≤ k) (h4 : ∀ k, E k → k < w.heap.size ∧ ¬ F k ∧ ¬ inD db mb L k ∧ w.heap[k]? = wb.heap[k]?) (hn : RPost w F b R' w') : JSt E w0 wb w' db D b R' := by
  obtain ⟨F', q1, q2, q3⟩ := hn
  have hs := h1.k0.size
  refine ⟨mb, L, F', h1.keepS q3 (fun k e => ⟨(h3 k e).2, fun e2 => (h3 k e).1 (.inl e2), fun e2 => (h3 k e).1 (.inr (.inl e2)), fun s p e2 e3 => (h3 k e).1 (.inr (.inr ⟨s, p, e2, e3⟩))⟩), q1, fun k e => ?_, fun k e => ?_⟩
  · rcases q2 k e with e | e
    · exact h3 k e
    · exact ⟨fun e2 => by have := inD_lt h1 e2; omega, by omega⟩
  · obtain ⟨a1, a2, a3, a4⟩ := h4 k e
    exact ⟨Nat.lt_of_lt_of_le a1 q3.size, fun e2 => (q2 k e2).elim a2 (fun e3 => by omega), a3, (q3.block k a1 a2).trans a4⟩
theorem jp_app (h : JSt E w0 wb w db D b R) (wf : WfD D) (s t : ByteArray) (ht : t.size ≤ 1000000) : Calls Try.prog 11 #[.pointer (some ⟨db, 0, none⟩), .string s, .string t] w fun e w' => e = .returned (.int .i64 (dappE D s t)) ∧ JSt E w0 wb w' db (dappC D s t) b R := by
  obtain ⟨mb, L, F, h1, h2, h3, h4⟩ := h
  exact (append_k h1 wf s t ht).mono fun e w' hq => ⟨hq.1, jst_prog h1 h2 h3 h4 hq.2⟩
theorem jp_sync (h : JSt E w0 wb w db D b R) (wf : WfD D) (s : ByteArray) : Calls Try.prog 12 #[.pointer (some ⟨db, 0, none⟩), .string s] w fun e w' => e = .returned (.int .i64 (fileE D s)) ∧ JSt E w0 wb w' db (dsyncC D s) b R := by
  obtain ⟨mb, L, F, h1, h2, h3, h4⟩ := h
  exact (sync_k h1 wf s).mono fun e w' hq => ⟨hq.1, jst_prog h1 h2 h3 h4 hq.2⟩
theorem jp_cut (h : JSt E w0 wb w db D b R) (wf : WfD D) (s : ByteArray) (n : Int) : Calls Try.prog 20 #[.pointer (some ⟨db, 0, none⟩), .string s, .int .i64 n] w fun e w' => e = .returned (.int .i64 (dcutE D s n)) ∧ JSt E w0 wb w' db (dcutC D s n) b R := by
  obtain ⟨mb, L, F, h1, h2, h3, h4⟩ := h
  exact (cut_k h1 wf s n).mono fun e w' hq => ⟨hq.1, jst_prog h1 h2 h3 h4 hq.2⟩
theorem jp_ren (h : JSt E w0 wb w db D b R) (wf : WfD D) (s t : ByteArray) : Calls Try.prog 21 #[.pointer (some ⟨db, 0, none⟩), .string s, .string t] w fun e w' => e = .returned (.int .i64 (drenE D s t)) ∧ JSt E w0 wb w' db (drenC D s t) b R := by
  obtain ⟨mb, L, F, h1, h2, h3, h4⟩ := h
  exact (rename_k h1 wf s t).mono fun e w' hq => ⟨hq.1, jst_prog h1 h2 h3 h4 hq.2⟩
theorem jp_drop (h : JSt E w0 wb w db D b R) (wf : WfD D) (s : ByteArray) : Calls Try.prog 16 #[.pointer (some ⟨db, 0, none⟩), .string s] w fun e w' => e = .returned (.int .i64 (fileE D s)) ∧ JSt E w0 wb w' db (ddropC D s) b R := by
  obtain ⟨mb, L, F, h1, h2, h3, h4⟩ := h
  exact (drop_k h1 wf s).mono fun e w' hq => ⟨hq.1, jst_prog h1 h2 h3 h4 hq.2⟩
theorem jp_fuse (h : JSt E w0 wb w db D b R) (wf : WfD D) (n : Int) : Calls Try.prog 17 #[.pointer (some ⟨db, 0, none⟩), .int .i64 n] w fun e w' => e = .returned (.int .i64 (dfuseE n)) ∧ JSt E w0 wb w' db (dfuseC D n) b R := by
  obtain ⟨mb, L, F, h1, h2, h3, h4⟩ := h
  exact (fuse_k h1 n).mono fun e w' hq => ⟨hq.1, jst_prog h1 h2 h3 h4 hq.2⟩
theorem jr_app (h : JSt E w0 wb w db D b R) (wf : WfD R) (hl : R.files.length ≤ 1000) (s t : ByteArray) (ht : t.size ≤ 1000000) : Calls Try.prog 33 #[.pointer (some ⟨b, 0, none⟩), .string s, .string t] w fun e w' => e = .returned (.int .i64 (dappE R s t)) ∧ JSt E w0 wb w' db D b (rappC R s t) := by
  obtain ⟨mb, L, F, h1, h2, h3, h4⟩ := h
  exact (rappM_any h2 wf hl s t ht).mono fun e w' hq => ⟨hq.1, jst_ref h1 h2 h3 h4 hq.2⟩
theorem jr_sync (h : JSt E w0 wb w db D b R) (wf : WfD R) (hl : R.files.length ≤ 1000) (s : ByteArray) : Calls Try.prog 34 #[.pointer (some ⟨b, 0, none⟩), .string s] w fun e w' => e = .returned (.int .i64 (fileE R s)) ∧ JSt E w0 wb w' db D b (dsyncC R s) := by
  obtain ⟨mb, L, F, h1, h2, h3, h4⟩ := h
  exact (rsyncM_any h2 wf hl s).mono fun e w' hq => ⟨hq.1, jst_ref h1 h2 h3 h4 hq.2⟩
theorem jr_cut (h : JSt E w0 wb w db D b R) (wf : WfD R) (hl : R.files.length ≤ 1000) (s : ByteArray) (n : Int) : Calls Try.prog 36 #[.pointer (some ⟨b, 0, none⟩), .string s, .int .i64 n] w fun e w' => e = .returned (.int .i64 (dcutE R s n)) ∧ JSt E w0 wb w' db D b (dcutC R s n) := by
  obtain ⟨mb, L, F, h1, h2, h3, h4⟩ := h
  exact (rcutM_any h2 wf hl s n).mono fun e w' hq => ⟨hq.1, jst_ref h1 h2 h3 h4 hq.2⟩
theorem jr_ren (h : JSt E w0 wb w db D b R) (wf : WfD R) (hl : R.files.length ≤ 1000) (s t : ByteArray) : Calls Try.prog 37 #[.pointer (some ⟨b, 0, none⟩), .string s, .string t] w fun e w' => e = .returned (.int .i64 (drenE R s t)) ∧ JSt E w0 wb w' db D b (rrenC R s t) := by
  obtain ⟨mb, L, F, h1, h2, h3, h4⟩ := h
  exact (rrenM_any h2 wf hl s t).mono fun e w' hq => ⟨hq.1, jst_ref h1 h2 h3 h4 hq.2⟩
theorem jr_drop (h : JSt E w0 wb w db D b R) (wf : WfD R) (hl : R.files.length ≤ 1000) (s : ByteArray) : Calls Try.prog 38 #[.pointer (some ⟨b, 0, none⟩), .string s] w fun e w' => e = .returned (.int .i64 (fileE R s)) ∧ JSt E w0 wb w' db D b (ddropC R s) := by
  obtain ⟨mb, L, F, h1, h2, h3, h4⟩ := h
  exact (rdropM_any h2 wf hl s).mono fun e w' hq => ⟨hq.1, jst_ref h1 h2 h3 h4 hq.2⟩
theorem jr_read (h : JSt E w0 wb w db D b R) (wf : WfD R) (hl : R.files.length ≤ 1000) (s : ByteArray) : Calls Try.prog 35 #[.pointer (some ⟨b, 0, none⟩), .string s] w fun e w' => e = .returned (.tuple #[.string (dreadV R s), .int .i64 (fileE R s)]) ∧ JSt E w0 wb w' db D b (R) := by
  obtain ⟨mb, L, F, h1, h2, h3, h4⟩ := h
  exact (rreadM_any h2 wf hl s).mono fun e w' hq => ⟨hq.1, jst_ref h1 h2 h3 h4 hq.2⟩
theorem jp_read (h : JSt E w0 wb w db D b R) (s : ByteArray) : Calls Try.prog 14 #[.pointer (some ⟨db, 0, none⟩), .string s] w fun e w' => e = .returned (.tuple #[.string (dreadV D s), .int .i64 (fileE D s)]) ∧ JSt E w0 wb w' db D b R := by
  have h0 := h
  obtain ⟨mb, L, F, h1, h2, h3, h4⟩ := h
  exact (read_at h1 s).mono fun e w' hq => ⟨hq.1, h0.keep hq.2⟩
theorem jp_crash (h : JSt E w0 wb w db D b R) (wf : WfD D) (keep : List Int) (a : Option Addr) (cap : Nat) (hI : Ints w0 (fun _ => True) a keep) (hl : D.files.length ≤ 1000) :
    Calls Try.prog 13 #[.pointer (some ⟨db, 0, none⟩), .slice a keep.length cap] w fun e w' => ∃ names, names.Perm (keysF D.files) ∧ e = .returned (.int .i64 (crashL keep D names).2) ∧ JSt E w0 wb w' db (upD (crashL keep D names).1) b R ∧ (names.map fun s => s.data.toList).Pairwise (fun x y => x ≤ y) := by
  obtain ⟨mb, L, F, h1, h2, h3, h4⟩ := h
  refine (crash_k h1 wf keep a cap (hI.keep h1.k0 (fun _ _ _ e => e) (fun k hk _ e => ?_)) hl).mono fun e w' hq => ?_
  · rcases e with rfl | ⟨s, p, e1, rfl⟩
    · have := h1.new.1; omega
    · have := (h1.fnew s p e1).1; omega
  · obtain ⟨names, q1, q2, q3, q4⟩ := hq
    exact ⟨names, q1, q2, jst_prog h1 h2 h3 h4 q3, q4⟩
theorem jr_crash (h : JSt E w0 wb w db D b R) (wf : WfD R) (hl : R.files.length ≤ 1000) (keep : List Int) (a : Option Addr) (cap : Nat) (hI : Ints w0 (fun _ => True) a keep) :
    Calls Try.prog 39 #[.pointer (some ⟨b, 0, none⟩), .slice a keep.length cap] w fun e w' => e = .returned (.int .i64 ((crashL keep R (keysF R.files)).2 : Nat)) ∧ JSt E w0 wb w' db D b (upD (crashL keep R (keysF R.files)).1) := by
  obtain ⟨mb, L, F, h1, h2, h3, h4⟩ := h
  exact (rcrash_any h2 wf hl keep a cap (hI.keep h1.k0 (fun _ _ _ e => e) (fun k hk _ e => by have := (h3 k e).2; omega))).mono fun e w' hq => ⟨hq.1, jst_ref h1 h2 h3 h4 hq.2⟩
theorem jp_names (h : JSt E w0 wb w db D b R) (wf : WfD D) (hl : D.files.length ≤ 1000) : Calls Try.prog 19 #[.pointer (some ⟨db, 0, none⟩)] w (NamesPost w D) := by
  obtain ⟨mb, L, F, h1, h2, h3, h4⟩ := h
  exact names_at h1 wf hl
theorem jr_names (h : JSt E w0 wb w db D b R) (hl : R.files.length ≤ 1000) : Calls Try.prog 42 #[.pointer (some ⟨b, 0, none⟩)] w (RNamesPost w (if R.fuse = 0 then [] else keysF R.files)) := by
  obtain ⟨mb, L, F, h1, h2, h3, h4⟩ := h
  exact rnamesM_any h2 hl
/-- The document's disk's fuse, set. -/
theorem JSt.rfuse (h : JSt E w0 wb w db D b R) (n : Int) : JSt E w0 wb (w.setCell ⟨b, 2, none⟩ (.int .i64 n)) db D b ⟨R.room, R.used, n, R.files⟩ := by
  obtain ⟨mb, L, F, h1, ⟨v, h2⟩, h3, h4⟩ := h
  exact jst_ref h1 ⟨v, h2⟩ h3 h4 ⟨F, ⟨v, h2.head (R' := ⟨R.room, R.used, n, R.files⟩) ((Keeps.refl (fun k => k = b) w).setC 2 _ (fun _ => rfl)) (setCell_block h2.blk 2 _) rfl⟩, fun k e => .inl e, (Keeps.refl F w).setC 2 _ (fun _ => h2.fb)⟩
theorem JSt.rcell (h : JSt E w0 wb w db D b R) : b < w.heap.size ∧ w.frozen? ⟨b, 2, none⟩ = false ∧ w.cell? ⟨b, 2, none⟩ = some (.int .i64 R.fuse) ∧ w.cell? ⟨b, 0, none⟩ = some (.int .i64 R.room) := by
  obtain ⟨mb, L, F, h1, ⟨v, h2⟩, h3, h4⟩ := h
  exact ⟨block_lt h2.blk, block_free h2.blk 2, block_cell h2.blk 2, block_cell h2.blk 0⟩
theorem JSt.base (h : JSt E w0 wb w db D b R) (w1 : World) (hk : K0 w w1) {bo : Nat} (hbo : w.heap.size ≤ bo) (hlt : bo < w1.heap.size) : JSt (fun k => k = bo) w0 w1 w1 db D b R := by
  obtain ⟨mb, L, F, h1, h2, h3, h4⟩ := h
  refine ⟨mb, L, F, h1.keep hk, h2.keep hk (fun _ _ e => e), h3, fun k e => ?_⟩
  subst e
  exact ⟨hlt, fun e => by have := h2.lt _ e; omega, fun e => by have := inD_lt h1 e; omega, rfl⟩
theorem JSt.drop (h : JSt E w0 wb w db D b R) (w1 : World) : JSt (fun _ => False) w0 w1 w db D b R := by
  obtain ⟨mb, L, F, h1, h2, h3, h4⟩ := h
  exact ⟨mb, L, F, h1, h2, h3, fun k e => e.elim⟩
end
/-- Both well, and the same. -/
structure Good (D R : DiskC) (n : Nat) : Prop where
  wf : WfD D
  sim : Sim D R
  len : D.files.length ≤ n
section
variable {D R : DiskC} {n : Nat}
theorem Good.wfR (h : Good D R n) : WfD R := h.sim.wf h.wf
theorem Good.lenR (h : Good D R n) : R.files.length ≤ n := by rw [(h.sim.perm h.wf).length_eq]; exact h.len
theorem put_len {l : List (ByteArray × FileC)} {s : ByteArray} (x : FileC) : (aput l s x).length ≤ l.length + 1 := by
  induction l with
  | nil => simp [aput]
  | cons p l ih =>
    simp only [aput]
    split <;> simp <;> omega
theorem put_len_some {l : List (ByteArray × FileC)} {s : ByteArray} (h : (aget l s).isSome = true) (x : FileC) : (aput l s x).length = l.length := by
  rw [← keysF_len, keys_aput h, keysF_len]
theorem Good.app (h : Good D R n) (s t : ByteArray) : Good (dappC D s t) (rappC R s t) (n + 1) := ⟨h.wf.app s t, h.sim.app s t, by
  unfold dappC
  have := h.len
  split
  · have := put_len (l := D.files) (s := s) ⟨(oldF D s).bytes ++ t, (oldF D s).safe⟩
    show (aput _ _ _).length ≤ _
    omega
  · omega⟩
theorem Good.sync (h : Good D R n) (s : ByteArray) : Good (dsyncC D s) (dsyncC R s) (n + 1) := ⟨h.wf.sync s, h.sim.sync s, by
  unfold dsyncC
  have := h.len
  split
  · have := put_len (l := D.files) (s := s) ⟨(oldF D s).bytes, (oldF D s).bytes.size⟩
    show (aput _ _ _).length ≤ _
    omega
  · omega⟩
theorem Good.cut (h : Good D R n) (s : ByteArray) (m : Int) : Good (dcutC D s m) (dcutC R s m) (n + 1) := ⟨h.wf.cut s m, h.sim.cut s m, by
  unfold dcutC keepD
  have := h.len
  split
  · have := put_len (l := D.files) (s := s) (keepF (oldF D s) m.toNat)
    show (aput _ _ _).length ≤ _
    omega
  · omega⟩
theorem del_len {l : List (ByteArray × FileC)} {s : ByteArray} : (adel l s).length ≤ l.length := (adel_sub l s).length_le
theorem Good.drop (h : Good D R n) (s : ByteArray) : Good (ddropC D s) (ddropC R s) (n + 1) := ⟨h.wf.drop s, h.sim.drop h.wf s, by
  unfold ddropC
  have := h.len
  split
  · have := del_len (l := D.files) (s := s)
    show (adel _ _).length ≤ _
    omega
  · omega⟩
theorem Good.ren (h : Good D R n) (s t : ByteArray) : Good (drenC D s t) (rrenC R s t) (n + 1) := ⟨h.wf.ren s t, h.sim.ren h.wf s t, by
  unfold drenC
  have := h.len
  split
  · have h1 : (clearD D s t).files.length ≤ D.files.length := by
      unfold clearD
      split
      · rename_i hc
        show (aput _ _ _).length ≤ _
        rw [put_len_some hc.2]
        exact Nat.le_refl _
      · exact Nat.le_refl _
    have h2 := put_len (l := adel (clearD D s t).files s) (s := t) (oldF D s)
    have h3 := del_len (l := (clearD D s t).files) (s := s)
    show (aput _ _ _).length ≤ _
    omega
  · omega⟩
theorem Good.dfuse (h : Good D R n) {m : Int} (hm : m ≤ 9223372036854775807) : Good (dfuseC D m) (dfuseC R m) (n + 1) := ⟨h.wf.dfuse hm, h.sim.dfuse m, by
  unfold dfuseC
  have := h.len
  split
  · omega
  · show D.files.length ≤ _; omega⟩
theorem Good.up (h : Good D R n) : Good D R (n + 1) := ⟨h.wf, h.sim, by have := h.len; omega⟩
theorem crash_len (keep : List Int) : ∀ (l : List ByteArray) (p : DiskC × Nat), (∀ s ∈ l, (aget p.1.files s).isSome = true) → (l.foldl (crashS keep) p).1.files.length = p.1.files.length
  | [], p, _ => rfl
  | s :: l, p, h => by
    have hs := h s List.mem_cons_self
    have h1 : (crashS keep p s).1.files.length = p.1.files.length := by
      unfold crashS
      split
      · rfl
      · unfold safeD keepD
        show (aput (aput _ _ _) _ _).length = _
        rw [aput_aput, put_len_some hs]
    have h2 : ∀ t ∈ l, (aget (crashS keep p s).1.files t).isSome = true := fun t ht => by
      have h3 := h t (List.mem_cons_of_mem _ ht)
      unfold crashS
      split
      · exact h3
      · unfold safeD keepD
        show (aget (aput (aput _ _ _) _ _) t).isSome = true
        rw [aget_aput, aget_aput]
        split
        · rfl
        · exact h3
    rw [List.foldl_cons, crash_len keep l _ h2, h1]
theorem Good.crash (h : Good D R n) (keep : List Int) {names : List ByteArray} (hp : names.Perm (keysF D.files)) (ho : (names.map fun s => s.data.toList).Pairwise fun x y => x ≤ y) :
    names = keysF R.files ∧ (crashL keep D names).2 = (crashL keep R (keysF R.files)).2 ∧ Good (upD (crashL keep D names).1) (upD (crashL keep R (keysF R.files)).1) (n + 1) := by
  have e := h.sim.names h.wf hp ho
  subst e
  obtain ⟨h1, h2⟩ := h.sim.crash keep h.wf
  have hm : ∀ s ∈ keysF R.files, (aget D.files s).isSome = true := fun s hs => aget_isSome.2 (hp.mem_iff.1 hs)
  refine ⟨rfl, h2, (crashL_all h.wf hm).1.up, h1, ?_⟩
  have h3 := crash_len keep (keysF R.files) (D, 0) hm
  have := h.len
  show (crashL keep D (keysF R.files)).1.files.length ≤ _
  unfold crashL
  rw [h3]
  show D.files.length ≤ _
  omega
end
end Go.Proofs.Ytjfblcmpdcbpgaa
