/-
  A disk that a call has made and goes on with: each method told once more for the laws; the laws' own few answers.
-/
import Derived.Test.YtjfblcmpdcbpgaaDh
namespace Go.Proofs.Ytjfblcmpdcbpgaa
open Go.RowKit Fx

def DOk (w0 w : World) (db : Nat) (D : DiskC) : Prop := DSt w0 w db D ∧ WfD D
theorem DOk.keep {w0 w w' : World} {db : Nat} {D : DiskC} (h : DOk w0 w db D) (hk : K0 w w') : DOk w0 w' db D := ⟨h.1.keep hk, h.2⟩
theorem WfD.dfuse {D : DiskC} (h : WfD D) {n : Int} (hn : n ≤ 9223372036854775807) : WfD (dfuseC D n) := by
  unfold dfuseC
  split
  · exact h
  · exact ⟨h.room, h.used, h.most, h.safe, ⟨by show -1 ≤ n; omega, hn⟩, h.keys, h.names⟩
theorem drenE_ok {D : DiskC} {s t : ByteArray} (he : drenE D s t = 0) : fileE D s = 0 ∧ namedB t = true := by
  unfold drenE at he
  split at he
  · rename_i h1
    split at he
    · rename_i h2; exact ⟨h1, h2⟩
    · cases he
  · rename_i h1; exact absurd he h1
theorem WfD.moved {D : DiskC} (h : WfD D) {s t : ByteArray} {x : FileC} (hx : aget D.files s = some x) (ht : t.size ≤ 40) (hfr : aget (adel D.files s) t = none ∨ (aget (adel D.files s) t).map (fun y => y.bytes.size) = some 0) : WfD ⟨D.room, D.used, D.fuse, aput (adel D.files s) t x⟩ := by
  have h1 := szF_del D.files s
  have h2 := szF_put (adel D.files s) t x
  rw [hx] at h1
  simp only [Option.getD_some] at h1
  have h3 : ((aget (adel D.files s) t).getD noFile).bytes.size = 0 := by
    rcases hfr with e | e
    · rw [e]; rfl
    · cases hg : aget (adel D.files s) t with
      | none => rfl
      | some y => rw [hg] at e; simpa using e
  have hu := h.used
  refine ⟨h.room, ?_, h.most, aput_all (adel_all h.keys h.safe) (h.safe s x hx), h.fuse, (h.keys.del s).put _ _, aput_all (adel_all h.keys h.names) ht⟩
  show D.used = (szF (aput (adel D.files s) t x) : Int)
  omega
theorem WfD.ren {D : DiskC} (h : WfD D) (s t : ByteArray) : WfD (drenC D s t) := by
  unfold drenC
  split
  · rename_i he
    obtain ⟨h1, h2⟩ := drenE_ok he
    obtain ⟨x, hx⟩ := fileE_zero h1
    have ho : oldF D s = x := by simp [oldF, hx]
    have ht : t.size ≤ 40 := by unfold namedB at h2; simp at h2; exact h2.2
    rw [ho]
    by_cases hst : s = t
    · subst hst
      rw [clearD_none (.inl rfl)]
      exact (h.moved hx ht (.inl (by rw [aget_adel h.keys, if_pos rfl]))).burn
    · cases hg : aget D.files t with
      | none =>
        rw [clearD_none (.inr hg)]
        exact (h.moved hx ht (.inl (by rw [aget_adel h.keys, if_neg hst]; exact hg))).burn
      | some y =>
        rw [clearD_some hst (by rw [hg]; rfl)]
        have hk := h.keepD hg (n := 0) (Nat.zero_le _)
        have hoy : oldF D t = y := by simp [oldF, hg]
        have hgs : aget (Go.Proofs.Ytjfblcmpdcbpgaa.keepD D t 0).files s = some x := by
          show aget (aput D.files t _) s = _
          rw [aget_aput, if_neg (Ne.symm hst)]
          exact hx
        refine (hk.moved hgs ht (.inr ?_)).burn
        rw [aget_adel hk.keys, if_neg hst]
        show (aget (aput D.files t (keepF (oldF D t) 0)) t).map _ = _
        rw [aget_aput, if_pos rfl]
        simp only [Option.map_some]
        rw [keepF_size (Nat.zero_le _)]
  · exact h
section
variable {w0 w : World} {db : Nat} {D : DiskC}
theorem st_app (h : DOk w0 w db D) (s t : ByteArray) (ht : t.size ≤ 1000000) : Calls Try.prog 11 #[.pointer (some ⟨db, 0, none⟩), .string s, .string t] w fun e w' => e = .returned (.int .i64 (dappE D s t)) ∧ DOk w0 w' db (dappC D s t) := by
  obtain ⟨⟨mb, L, h1⟩, wf⟩ := h
  exact (append_at h1 wf s t ht).mono fun e w' hq => ⟨hq.1, hq.2, wf.app s t⟩
theorem st_sync (h : DOk w0 w db D) (s : ByteArray) : Calls Try.prog 12 #[.pointer (some ⟨db, 0, none⟩), .string s] w fun e w' => e = .returned (.int .i64 (fileE D s)) ∧ DOk w0 w' db (dsyncC D s) := by
  obtain ⟨⟨mb, L, h1⟩, wf⟩ := h
  exact (sync_at h1 wf s).mono fun e w' hq => ⟨hq.1, hq.2, wf.sync s⟩
theorem st_cut (h : DOk w0 w db D) (s : ByteArray) (n : Int) : Calls Try.prog 20 #[.pointer (some ⟨db, 0, none⟩), .string s, .int .i64 n] w fun e w' => e = .returned (.int .i64 (dcutE D s n)) ∧ DOk w0 w' db (dcutC D s n) := by
  obtain ⟨⟨mb, L, h1⟩, wf⟩ := h
  exact (cut_at h1 wf s n).mono fun e w' hq => ⟨hq.1, hq.2, wf.cut s n⟩
theorem st_drop (h : DOk w0 w db D) (s : ByteArray) : Calls Try.prog 16 #[.pointer (some ⟨db, 0, none⟩), .string s] w fun e w' => e = .returned (.int .i64 (fileE D s)) ∧ DOk w0 w' db (ddropC D s) := by
  obtain ⟨⟨mb, L, h1⟩, wf⟩ := h
  exact (drop_at h1 wf s).mono fun e w' hq => ⟨hq.1, hq.2, wf.drop s⟩
theorem st_ren (h : DOk w0 w db D) (s t : ByteArray) : Calls Try.prog 21 #[.pointer (some ⟨db, 0, none⟩), .string s, .string t] w fun e w' => e = .returned (.int .i64 (drenE D s t)) ∧ DOk w0 w' db (drenC D s t) := by
  obtain ⟨⟨mb, L, h1⟩, wf⟩ := h
  exact (rename_at h1 wf s t).mono fun e w' hq => ⟨hq.1, hq.2, wf.ren s t⟩
theorem st_fuse (h : DOk w0 w db D) (n : Int) (hn : n ≤ 9223372036854775807) : Calls Try.prog 17 #[.pointer (some ⟨db, 0, none⟩), .int .i64 n] w fun e w' => e = .returned (.int .i64 (dfuseE n)) ∧ DOk w0 w' db (dfuseC D n) := by
  obtain ⟨⟨mb, L, h1⟩, wf⟩ := h
  exact (fuse_at h1 n).mono fun e w' hq => ⟨hq.1, ⟨_, _, hq.2⟩, wf.dfuse hn⟩
theorem st_read (h : DOk w0 w db D) (s : ByteArray) : Calls Try.prog 14 #[.pointer (some ⟨db, 0, none⟩), .string s] w fun e w' => e = .returned (.tuple #[.string (dreadV D s), .int .i64 (fileE D s)]) ∧ DOk w0 w' db D := by
  have h0 := h
  obtain ⟨⟨mb, L, h1⟩, wf⟩ := h
  exact (read_at h1 s).mono fun e w' hq => ⟨hq.1, h0.keep hq.2⟩
theorem st_used (h : DOk w0 w db D) : Calls Try.prog 24 #[.pointer (some ⟨db, 0, none⟩)] w fun e w' => e = .returned (.int .i64 D.used) ∧ DOk w0 w' db D := by
  have h0 := h
  obtain ⟨⟨mb, L, h1⟩, wf⟩ := h
  exact (used_at h1).mono fun e w' hq => ⟨hq.1, h0.keep hq.2⟩
theorem st_up (h : DOk w0 w db D) : Calls Try.prog 18 #[.pointer (some ⟨db, 0, none⟩)] w fun e w' => e = .returned (.bool (decide (D.fuse ≠ 0))) ∧ DOk w0 w' db D := by
  have h0 := h
  obtain ⟨⟨mb, L, h1⟩, wf⟩ := h
  exact (up_at h1).mono fun e w' hq => ⟨hq.1, h0.keep hq.2⟩
/-- A crash, what to keep a row that was there ahead of the disk. -/
theorem st_crash (h : DOk w0 w db D) (keep : List Int) (a : Option Addr) (cap : Nat) (hI : Ints w0 (fun _ => True) a keep) (hl : D.files.length ≤ 1000) :
    Calls Try.prog 13 #[.pointer (some ⟨db, 0, none⟩), .slice a keep.length cap] w fun e w' => ∃ names, names.Perm (D.files.map (·.1)) ∧ e = .returned (.int .i64 (crashL keep D names).2) ∧ DOk w0 w' db (upD (crashL keep D names).1) := by
  obtain ⟨⟨mb, L, h1⟩, wf⟩ := h
  refine (crash_at h1 wf keep a cap (hI.keep h1.k0 (fun _ _ _ e => e) (fun k hk _ e => ?_)) hl).mono fun e w' hq => ?_
  · rcases e with rfl | ⟨s, p, e1, rfl⟩
    · have := h1.new.1; omega
    · have := (h1.fnew s p e1).1; omega
  · obtain ⟨names, hp, rfl, hd⟩ := hq
    refine ⟨names, hp, rfl, hd, (crashL_all wf fun s hs => ?_).1.up⟩
    obtain ⟨q, hq, rfl⟩ := List.mem_map.1 (hp.mem_iff.1 hs)
    rw [aget_of_mem wf.keys hq]
    rfl
/-- A crash, what to keep a row of one number that was just laid. -/
theorem st_crash1 (h : DOk w0 w db D) (v : Int) (hv : -9223372036854775808 ≤ v ∧ v ≤ 9223372036854775807) (hl : D.files.length ≤ 1000) :
    Calls Try.prog 13 #[.pointer (some ⟨db, 0, none⟩), .slice (some ⟨w.heap.size, 0, none⟩) 1 1] (w.alloc (.cells #[.int .i64 v] 3)) fun e w' => ∃ names, names.Perm (D.files.map (·.1)) ∧ e = .returned (.int .i64 (crashL [v] D names).2) ∧ DOk w0 w' db (upD (crashL [v] D names).1) := by
  obtain ⟨⟨mb, L, h1⟩, wf⟩ := h
  have hb : (w.alloc (.cells #[.int .i64 v] 3)).heap[w.heap.size]? = some (.cells #[.int .i64 v] 3) := heap_new _ _ _ rfl
  have h2 := h1.keep ((Keeps.refl (fun _ => False) w).alloc (.cells #[.int .i64 v] 3))
  refine (crash_at h2 wf [v] (some ⟨w.heap.size, 0, none⟩) 1 ⟨by simp [maxLen], fun _ => ⟨w.heap.size, 0, rfl, block_lt hb, fun e => ?_, fun i hi => ?_⟩⟩ hl).mono fun e w' hq => ?_
  · have := ofD_lt h1 e; omega
  · have hi : i < 1 := hi
    obtain rfl : i = 0 := by omega
    exact ⟨block_cell hb 0, hv⟩
  · obtain ⟨names, hp, rfl, hd⟩ := hq
    refine ⟨names, hp, rfl, hd, (crashL_all wf fun s hs => ?_).1.up⟩
    obtain ⟨q, hq, rfl⟩ := List.mem_map.1 (hp.mem_iff.1 hs)
    rw [aget_of_mem wf.keys hq]
    rfl
end
theorem st_new (r : Int) (w : World) (h : 1 ≤ r ∧ r ≤ 4194304) : Calls Try.prog 10 #[.int .i64 r] w fun e w' => ∃ db, e = .returned (.tuple #[.pointer (some ⟨db, 0, none⟩), .int .i64 0]) ∧ DOk w w' db (newD r) :=
  (dnew_any r w h).mono fun e w' hq => by
    obtain ⟨db, rfl, hd⟩ := hq
    exact ⟨db, rfl, hd, WfD.new h⟩
def tA : ByteArray := ⟨#[97]⟩
def tB : ByteArray := ⟨#[98]⟩
def l1 : DiskC := dappC (newD 100) tA ⟨#[97, 98, 99, 100]⟩
def l2 : DiskC := dsyncC l1 tA
def l3 : DiskC := dappC l2 tA ⟨#[101, 102]⟩
def l4 : DiskC := upD (crashL [1] l3 [tA]).1
theorem l3_names : l3.files.map (·.1) = [tA] := by kernel_rfl
theorem l3_n : (crashL [1] l3 [tA]).2 = 1 := by kernel_rfl
theorem l4_read : dreadV l4 tA = ⟨#[97, 98, 99, 100, 101]⟩ := by kernel_rfl
theorem l4_e : fileE l4 tA = 0 := by kernel_rfl
theorem l4_used : l4.used = 5 := by kernel_rfl
theorem l4_drop : fileE l4 tB = 6 := by kernel_rfl
theorem l3_len : l3.files.length = 1 := by kernel_rfl
set_option maxRecDepth 100000 in
set_option maxHeartbeats 2000000 in
theorem live_any (w : World) : Calls Try.prog 9 #[] w fun e w' => Same w e (.bool true) w' := by
  have H0 := Lib.hid (st_new 100 w (by omega))
  have HB := Lib.hid (fun (x : World) => dnew_bad 0 x (.inl (by omega)))
  go_enter Try.func9, Try.ntmps9
  go_wp2_with fail
  refine H0.out.mono ?_
  rintro e w1 ⟨db, rfl, h1⟩
  go_wp2_with fail
  refine (HB.out w1).mono ?_
  rintro e w2 ⟨rfl, k2⟩
  have A1 := Lib.hid (st_app (h1.keep k2) tA ⟨#[97, 98, 99, 100]⟩ (by decide))
  clear h1 k2
  go_wp2_with fail
  refine A1.out.mono ?_
  rintro e w3 ⟨rfl, h3⟩
  have S1 := Lib.hid (st_sync (show DOk w w3 db l1 from h3) tA)
  clear h3
  go_wp2_with fail
  refine S1.out.mono ?_
  rintro e w4 ⟨rfl, h4⟩
  have A2 := Lib.hid (st_app (show DOk w w4 db l2 from h4) tA ⟨#[101, 102]⟩ (by decide))
  clear h4
  go_wp2_with fail
  refine A2.out.mono ?_
  rintro e w5 ⟨rfl, h5⟩
  have C1 := Lib.hid (st_crash1 (show DOk w w5 db l3 from h5) 1 (by omega) (by rw [l3_len]; omega))
  clear h5
  go_wp2_with fail
  refine C1.out.mono ?_
  rintro e w6 ⟨names, hp, rfl, h6⟩
  rw [l3_names] at hp
  obtain rfl := List.perm_singleton.1 hp
  have h6 : DOk w w6 db l4 := h6
  rw [l3_n]
  have R1 := st_read h6 tA
  rw [l4_read, l4_e] at R1
  have R1 := Lib.hid R1
  clear h6 hp
  go_wp2_with fail
  refine R1.out.mono ?_
  rintro e w7 ⟨rfl, h7⟩
  have U1 := st_used h7
  rw [l4_used] at U1
  have U1 := Lib.hid U1
  clear h7
  go_wp2_with fail
  refine U1.out.mono ?_
  rintro e w8 ⟨rfl, h8⟩
  have D1 := st_drop h8 tB
  rw [l4_drop] at D1
  have D1 := Lib.hid D1
  clear h8
  go_wp2_with fail
  refine D1.out.mono ?_
  rintro e w9 ⟨rfl, h9⟩
  have HF := Lib.hid h9.1.k0
  clear h9
  go_wp2
  go_ret
  exact ⟨rfl, HF.out⟩
end Go.Proofs.Ytjfblcmpdcbpgaa
