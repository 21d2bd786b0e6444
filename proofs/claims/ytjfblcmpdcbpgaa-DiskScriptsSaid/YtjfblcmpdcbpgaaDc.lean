/-
  A disk's small calls.
-/
import Derived.Test.YtjfblcmpdcbpgaaDb
namespace Go.Proofs.Ytjfblcmpdcbpgaa
open Go.RowKit Fx

def dp (db : Nat) : Value := .pointer (some ⟨db, 0, none⟩)
theorem zeroFile (w : World) : (zeroValue 62).run Try.prog w = .ok (.pointer none) w := by kernel_rfl
set_option maxRecDepth 100000 in
set_option maxHeartbeats 1000000 in
theorem asked_nil (w : World) : Calls Try.prog 26 #[.pointer none] w fun e w' => Same w e (.int .i64 1) w' := by
  go_enter Try.func26, Try.ntmps26
  go_wp2
  go_ret
  exact ⟨rfl, Keeps.refl _ _⟩
set_option maxRecDepth 100000 in
set_option maxHeartbeats 1000000 in
theorem named_any (s : ByteArray) (w : World) : Calls Try.prog 27 #[.string s] w fun e w' => Same w e (.bool (namedB s)) w' := by
  unfold namedB
  by_cases h0 : s.size = 0
  · have h1 := bytes_empty h0
    have hd : decide (s.size ≠ 0) = false := by simp [h0]
    rw [hd]
    clear h0 hd
    go_enter Try.func27, Try.ntmps27
    go_wp2
    go_ret
    exact ⟨rfl, Keeps.refl _ _⟩
  · have h1 := bytes_some h0
    have hd : decide (s.size ≠ 0) = true := by simp [h0]
    rw [hd]
    by_cases h2 : s.size ≤ 40
    · have hd2 : decide (s.size ≤ 40) = true := by simp [h2]
      have h3 : (s.size : Int) ≤ 40 := by omega
      rw [hd2]
      clear h0 hd hd2 h2
      go_enter Try.func27, Try.ntmps27
      go_wp2
      go_ret
      exact ⟨rfl, Keeps.refl _ _⟩
    · have hd2 : decide (s.size ≤ 40) = false := by simp [h2]
      have h3 : ¬ (s.size : Int) ≤ 40 := by omega
      rw [hd2]
      clear h0 hd hd2 h2
      go_enter Try.func27, Try.ntmps27
      go_wp2
      go_ret
      exact ⟨rfl, Keeps.refl _ _⟩
section
variable {w0 w : World} {db mb : Nat} {D : DiskC} {L : List (ByteArray × (Nat × FileC))}
set_option maxRecDepth 100000 in
set_option maxHeartbeats 1000000 in
theorem asked_at (h : DAt w0 w db D mb L) : Calls Try.prog 26 #[.pointer (some ⟨db, 0, none⟩)] w fun e w' => Same w e (.int .i64 (askE D)) w' := by
  unfold askE
  have c2 : w.cell? ⟨db, 2, none⟩ = some (.int .i64 D.fuse) := block_cell h.blk 2
  have hlt := block_lt h.blk
  clear h
  by_cases h1 : D.fuse = 0
  · rw [if_pos h1]
    rw [h1] at c2
    go_enter Try.func26, Try.ntmps26
    go_wp2
    go_ret
    exact ⟨rfl, Keeps.refl _ _⟩
  · rw [if_neg h1]
    go_enter Try.func26, Try.ntmps26
    go_wp2
    go_ret
    exact ⟨rfl, Keeps.refl _ _⟩
set_option maxRecDepth 100000 in
set_option maxHeartbeats 1000000 in
theorem file_nil (s : ByteArray) (w : World) : Calls Try.prog 29 #[.pointer none, .string s] w fun e w' => Same w e (.tuple #[.pointer none, .int .i64 1]) w' := by
  go_enter Try.func29, Try.ntmps29
  go_wp2_with fail
  refine (asked_nil _).mono ?_
  rintro e w1 ⟨rfl, k1⟩
  go_wp2
  go_ret2
  exact ⟨rfl, k1⟩
def FilePost (w : World) (D : DiskC) (s : ByteArray) (L : List (ByteArray × (Nat × FileC))) (e : Ending) (w' : World) : Prop :=
  Same w e (.tuple #[match aget L s with | some p => (if D.fuse = 0 then .pointer none else .pointer (some ⟨p.1, 0, none⟩)) | none => .pointer none, .int .i64 (fileE D s)]) w'
set_option maxRecDepth 100000 in
set_option maxHeartbeats 1000000 in
theorem file_bad (h : DAt w0 w db D mb L) (s : ByteArray) (he : fileE D s ≠ 0) : Calls Try.prog 29 #[.pointer (some ⟨db, 0, none⟩), .string s] w fun e w' => Same w e (.tuple #[.pointer none, .int .i64 (fileE D s)]) w' := by
  have c3 : w.cell? ⟨db, 3, none⟩ = some (.map (some mb)) := block_cell h.blk 3
  have hlt := block_lt h.blk
  have HA := Lib.hid (asked_at h)
  have HH := Lib.hid h
  unfold fileE askE at *
  by_cases h1 : D.fuse = 0
  · rw [if_pos h1]
    rw [if_pos h1] at HA
    clear h
    go_enter Try.func29, Try.ntmps29
    go_wp2_with fail
    refine HA.out.mono ?_
    rintro e w1 ⟨rfl, k1⟩
    go_wp2
    go_ret2
    exact ⟨rfl, k1⟩
  · rw [if_neg h1] at he ⊢
    rw [if_neg h1] at HA
    cases hg : aget D.files s with
    | some x => rw [hg] at he; exact absurd rfl he
    | none =>
      have hn := h.none hg
      have HV : Hid (aget (avals fptr L) s = none) := by show _ = _; rw [aget_avals, hn]; rfl
      clear h he hn hg
      go_enter Try.func29, Try.ntmps29
      go_wp2_with fail
      refine HA.out.mono ?_
      rintro e w1 ⟨rfl, k1⟩
      have d3 := k1.cell' c3 (fun e => e)
      have hlt1 : db < w1.heap.size := Nat.lt_of_lt_of_le hlt k1.size
      have hm := Lib.hid (HH.out.map.keep k1 (fun e => e))
      have HK := Lib.hid k1
      clear k1 c3 hlt
      go_wp2_with (at_lookup; refine wpList_look (strKey Try.underlying9) rfl rfl Try.underlying57 zeroFile rfl s rfl hm.out _ HV.out ?_)
      go_ret2
      exact ⟨rfl, HK.out⟩
set_option maxRecDepth 100000 in
set_option maxHeartbeats 1000000 in
theorem file_at (h : DAt w0 w db D mb L) (s : ByteArray) (he : fileE D s = 0) : ∃ b, aget L s = some (b, oldF D s) ∧ Calls Try.prog 29 #[.pointer (some ⟨db, 0, none⟩), .string s] w fun e w' => Same w e (.tuple #[.pointer (some ⟨b, 0, none⟩), .int .i64 0]) w' := by
  obtain ⟨x, hx⟩ := fileE_zero he
  obtain ⟨b, hb⟩ := h.some hx
  have ho : oldF D s = x := by simp [oldF, hx]
  refine ⟨b, by rw [ho]; exact hb, ?_⟩
  have c3 : w.cell? ⟨db, 3, none⟩ = some (.map (some mb)) := block_cell h.blk 3
  have hlt := block_lt h.blk
  have hf : ¬ D.fuse = 0 := fun e => by unfold fileE at he; rw [if_pos e] at he; cases he
  have HA := asked_at h
  unfold askE at HA
  rw [if_neg hf] at HA
  have HA := Lib.hid HA
  have HH := Lib.hid h
  have HV : Hid (aget (avals fptr L) s = some (.pointer (some ⟨b, 0, none⟩))) := by show _ = _; rw [aget_avals, hb]; rfl
  clear h he hb hx ho hf
  go_enter Try.func29, Try.ntmps29
  go_wp2_with fail
  refine HA.out.mono ?_
  rintro e w1 ⟨rfl, k1⟩
  have d3 := k1.cell' c3 (fun e => e)
  have hlt1 : db < w1.heap.size := Nat.lt_of_lt_of_le hlt k1.size
  have hm := Lib.hid (HH.out.map.keep k1 (fun e => e))
  have HK := Lib.hid k1
  clear k1 c3 hlt
  go_wp2_with (at_lookup; refine wpList_look (strKey Try.underlying9) rfl rfl Try.underlying57 zeroFile rfl s rfl hm.out _ HV.out ?_)
  go_ret2
  exact ⟨rfl, HK.out⟩
def ChangedPost (w0 : World) (db : Nat) (D : DiskC) (mb : Nat) (L : List (ByteArray × (Nat × FileC))) (w : World) (e : Ending) (w' : World) : Prop :=
  e = .returned (.int .i64 0) ∧ DAt w0 w' db (burn D) mb L ∧ Keeps (fun k => k = db) w w'
set_option maxRecDepth 100000 in
set_option maxHeartbeats 1000000 in
theorem changed_at (h : DAt w0 w db D mb L) (hf : -1 ≤ D.fuse ∧ D.fuse ≤ 9223372036854775807) : Calls Try.prog 28 #[.pointer (some ⟨db, 0, none⟩)] w fun e w' => ChangedPost w0 db D mb L w e w' := by
  have c2 : w.cell? ⟨db, 2, none⟩ = some (.int .i64 D.fuse) := block_cell h.blk 2
  have f2 := block_free h.blk 2
  have hlt := block_lt h.blk
  unfold ChangedPost burn
  by_cases h1 : 0 < D.fuse
  · rw [if_pos h1]
    have HF := Lib.hid (h.own (((Keeps.refl (fun k => k = db) w).setC 2 (.int .i64 (D.fuse - 1)) (fun _ => rfl))) (setCell_block h.blk 2 (.int .i64 (D.fuse - 1))))
    clear h
    go_enter Try.func28, Try.ntmps28
    go_wp2
    go_ret
    exact ⟨rfl, HF.out, (Keeps.refl (fun k => k = db) w).setC 2 _ (fun _ => rfl)⟩
  · rw [if_neg h1]
    have HF := Lib.hid h
    clear h
    go_enter Try.func28, Try.ntmps28
    go_wp2
    go_ret
    exact ⟨rfl, HF.out, Keeps.refl _ _⟩
set_option maxRecDepth 100000 in
set_option maxHeartbeats 1000000 in
theorem used_at (h : DAt w0 w db D mb L) : Calls Try.prog 24 #[.pointer (some ⟨db, 0, none⟩)] w fun e w' => Same w e (.int .i64 D.used) w' := by
  have c1 : w.cell? ⟨db, 1, none⟩ = some (.int .i64 D.used) := block_cell h.blk 1
  have hlt := block_lt h.blk
  clear h
  go_enter Try.func24, Try.ntmps24
  go_wp2
  go_ret
  exact ⟨rfl, Keeps.refl _ _⟩
set_option maxRecDepth 100000 in
set_option maxHeartbeats 1000000 in
theorem up_at (h : DAt w0 w db D mb L) : Calls Try.prog 18 #[.pointer (some ⟨db, 0, none⟩)] w fun e w' => Same w e (.bool (decide (D.fuse ≠ 0))) w' := by
  have HA := Lib.hid (asked_at h)
  unfold askE at HA
  clear h
  by_cases h1 : D.fuse = 0
  · rw [if_pos h1] at HA
    have hd : decide (D.fuse ≠ 0) = false := by simp [h1]
    rw [hd]
    go_enter Try.func18, Try.ntmps18
    go_wp2_with fail
    refine HA.out.mono ?_
    rintro e w1 ⟨rfl, k1⟩
    go_wp2
    go_ret
    exact ⟨rfl, k1⟩
  · rw [if_neg h1] at HA
    have hd : decide (D.fuse ≠ 0) = true := by simp [h1]
    rw [hd]
    go_enter Try.func18, Try.ntmps18
    go_wp2_with fail
    refine HA.out.mono ?_
    rintro e w1 ⟨rfl, k1⟩
    go_wp2
    go_ret
    exact ⟨rfl, k1⟩
set_option maxRecDepth 100000 in
set_option maxHeartbeats 1000000 in
theorem fuse_at (h : DAt w0 w db D mb L) (n : Int) : Calls Try.prog 17 #[.pointer (some ⟨db, 0, none⟩), .int .i64 n] w fun e w' => e = .returned (.int .i64 (dfuseE n)) ∧ DAt w0 w' db (dfuseC D n) mb L := by
  have c2 : w.cell? ⟨db, 2, none⟩ = some (.int .i64 D.fuse) := block_cell h.blk 2
  have f2 := block_free h.blk 2
  have hlt := block_lt h.blk
  unfold dfuseE dfuseC
  by_cases h1 : n < -1
  · rw [if_pos h1, if_pos h1]
    have HF := Lib.hid h
    clear h
    go_enter Try.func17, Try.ntmps17
    go_wp2
    go_ret
    exact ⟨rfl, HF.out⟩
  · rw [if_neg h1, if_neg h1]
    have HF := Lib.hid (h.own (((Keeps.refl (fun k => k = db) w).setC 2 (.int .i64 n) (fun _ => rfl))) (setCell_block h.blk 2 (.int .i64 n)))
    clear h
    go_enter Try.func17, Try.ntmps17
    go_wp2
    go_ret
    exact ⟨rfl, HF.out⟩
set_option maxRecDepth 100000 in
set_option maxHeartbeats 1000000 in
theorem read_at (h : DAt w0 w db D mb L) (s : ByteArray) : Calls Try.prog 14 #[.pointer (some ⟨db, 0, none⟩), .string s] w fun e w' => Same w e (.tuple #[.string (dreadV D s), .int .i64 (fileE D s)]) w' := by
  unfold dreadV
  by_cases he : fileE D s = 0
  · obtain ⟨b, hb, hc⟩ := file_at h s he
    have HC := Lib.hid hc
    have HB := Lib.hid (h.fil s _ hb)
    rw [if_pos he, he]
    clear h hb hc he
    go_enter Try.func14, Try.ntmps14
    go_wp2_with fail
    refine HC.out.mono ?_
    rintro e w1 ⟨rfl, k1⟩
    have b1 := (k1.block _ (block_lt HB.out) (fun e => e)).trans HB.out
    have d0 := block_cell b1 0
    have hlt1 := block_lt b1
    have HK := Lib.hid k1
    clear k1 b1
    go_wp2
    go_ret2
    exact ⟨rfl, HK.out⟩
  · have HC := Lib.hid (file_bad h s he)
    rw [if_neg he]
    clear h
    go_enter Try.func14, Try.ntmps14
    go_wp2_with fail
    refine HC.out.mono ?_
    rintro e w1 ⟨rfl, k1⟩
    go_wp2
    go_ret2
    exact ⟨rfl, k1⟩
end
set_option maxRecDepth 100000 in
set_option maxHeartbeats 1000000 in
theorem dnew_bad (r : Int) (w : World) (h : r < 1 ∨ 4194304 < r) : Calls Try.prog 10 #[.int .i64 r] w fun e w' => Same w e (.tuple #[.pointer none, .int .i64 1]) w' := by
  by_cases h1 : r < 1
  · go_enter Try.func10, Try.ntmps10
    go_wp2
    go_ret2
    exact ⟨rfl, Keeps.refl _ _⟩
  · have h2 : 4194304 < r := h.resolve_left h1
    go_enter Try.func10, Try.ntmps10
    go_wp2
    go_ret2
    exact ⟨rfl, Keeps.refl _ _⟩
set_option maxRecDepth 100000 in
set_option maxHeartbeats 1000000 in
theorem dnew_any (r : Int) (w : World) (h : 1 ≤ r ∧ r ≤ 4194304) : Calls Try.prog 10 #[.int .i64 r] w fun e w' => ∃ db, e = .returned (.tuple #[.pointer (some ⟨db, 0, none⟩), .int .i64 0]) ∧ DSt w w' db (newD r) := by
  have hmm := @run_makeMap Try.prog
  obtain ⟨h1, h2⟩ := h
  go_enter Try.func10, Try.ntmps10
  go_wp2
  go_ret2
  refine ⟨_, rfl, w.heap.size, [], ?_⟩
  exact ⟨((Keeps.refl _ _).alloc _).alloc _, heap_new _ _ _ (by simp), rfl, (mapAt_new w).of_block (Below.heap_alloc _ _ _ (by simp)), fun s p e => (by cases e), fun s t p q e => (by cases e), by simp, ⟨by simp, Nat.le_refl _⟩, fun s p e => (by cases e), .nil⟩
end Go.Proofs.Ytjfblcmpdcbpgaa
