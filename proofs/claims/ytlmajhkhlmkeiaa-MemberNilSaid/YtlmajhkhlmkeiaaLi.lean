/-
  MemberNil: a group that is none refuses all: the walk.
-/
import Derived.Test.YtlmajhkhlmkeiaaLb
namespace Go.Proofs.Ytlmajhkhlmkeiaa
open Go.RowKit Go.Shelf Fx

set_option maxRecDepth 100000 in
set_option maxHeartbeats 1000000 in
theorem join_nil (m now : Int) (a : Option Addr) (n c : Nat) (w : World) : Calls Try.prog 11 #[.pointer none, .int .i64 m, .slice a n c, .int .i64 now] w fun e w' => Same w e (.tuple #[.int .i64 0, .int .i64 1]) w' := by
  go_enter Try.func11, Try.ntmps11
  go_wp2
  go_ret2
  exact ⟨rfl, (Keeps.refl _ _).alloc _⟩
set_option maxRecDepth 100000 in
set_option maxHeartbeats 1000000 in
theorem known_nil (m gn : Int) (w : World) : Calls Try.prog 29 #[.pointer none, .int .i64 m, .int .i64 gn] w fun e w' => Same w e (.tuple #[.pointer none, .int .i64 1]) w' := by
  go_enter Try.func29, Try.ntmps29
  go_wp2
  go_ret2
  exact ⟨rfl, Keeps.refl _ _⟩
set_option maxRecDepth 100000 in
set_option maxHeartbeats 1000000 in
theorem knows_nil (m gn : Int) (w : World) : Calls Try.prog 17 #[.pointer none, .int .i64 m, .int .i64 gn] w fun e w' => Same w e (.int .i64 1) w' := by
  go_enter Try.func17, Try.ntmps17
  go_wp2_with fail
  refine (known_nil m gn w).mono ?_
  rintro e w1 ⟨rfl, k1⟩
  go_wp2
  go_ret
  exact ⟨rfl, k1⟩
set_option maxRecDepth 100000 in
set_option maxHeartbeats 1000000 in
theorem beat_nil (m gn now : Int) (w : World) : Calls Try.prog 15 #[.pointer none, .int .i64 m, .int .i64 gn, .int .i64 now] w fun e w' => Same w e (.int .i64 1) w' := by
  have HT := Lib.hid (isTime_any now w)
  cases ht : timeOk now <;> rw [ht] at HT <;> clear ht
  · go_enter Try.func15, Try.ntmps15
    go_wp2_with fail
    refine HT.out.mono ?_
    rintro e w1 ⟨rfl, k1⟩
    go_wp2
    go_ret
    exact ⟨rfl, k1⟩
  · go_enter Try.func15, Try.ntmps15
    go_wp2_with fail
    refine HT.out.mono ?_
    rintro e w1 ⟨rfl, k1⟩
    go_wp2_with fail
    refine (known_nil m gn w1).mono ?_
    rintro e w2 ⟨rfl, k2⟩
    go_wp2
    go_ret
    exact ⟨rfl, K0.tr k1 k2⟩
set_option maxRecDepth 100000 in
set_option maxHeartbeats 1000000 in
theorem sync_nil (m gn now : Int) (a : Option Addr) (n c : Nat) (rd : Bool) (w : World) : Calls Try.prog 13 #[.pointer none, .int .i64 m, .int .i64 gn, .slice a n c, .bool rd, .int .i64 now] w fun e w' => Same w e (.tuple #[.slice none 0 0, .int .i64 1]) w' := by
  have HT := Lib.hid (isTime_any now w)
  cases ht : timeOk now <;> rw [ht] at HT <;> clear ht
  · go_enter Try.func13, Try.ntmps13
    go_wp2_with fail
    refine HT.out.mono ?_
    rintro e w1 ⟨rfl, k1⟩
    go_wp2
    go_ret2
    exact ⟨rfl, k1⟩
  · go_enter Try.func13, Try.ntmps13
    go_wp2_with fail
    refine HT.out.mono ?_
    rintro e w1 ⟨rfl, k1⟩
    go_wp2_with fail
    refine (known_nil m gn w1).mono ?_
    rintro e w2 ⟨rfl, k2⟩
    go_wp2
    go_ret2
    exact ⟨rfl, K0.tr k1 k2⟩
set_option maxRecDepth 100000 in
set_option maxHeartbeats 1000000 in
theorem leave_nil (m now : Int) (w : World) : Calls Try.prog 16 #[.pointer none, .int .i64 m, .int .i64 now] w fun e w' => Same w e (.int .i64 1) w' := by
  go_enter Try.func16, Try.ntmps16
  go_wp2
  go_ret
  exact ⟨rfl, (Keeps.refl _ _).alloc _⟩
set_option maxRecDepth 100000 in
set_option maxHeartbeats 1000000 in
theorem tick_nil (now : Int) (w : World) : Calls Try.prog 14 #[.pointer none, .int .i64 now] w fun e w' => Same w e (.tuple #[]) w' := by
  go_enter Try.func14, Try.ntmps14
  go_wp2
  (try simp only [Exit.inBlock, Exit.then])
  refine bodyPost_ret (results_none rfl _ _ _) rfl ?_
  exact ⟨rfl, (Keeps.refl _ _).alloc _⟩
set_option maxRecDepth 100000 in
set_option maxHeartbeats 1000000 in
theorem view_nil (w : World) : Calls Try.prog 12 #[.pointer none] w fun e w' => Same w e (.agg #[.int .i64 0, .int .i64 0, .int .i64 0, .int .i64 0, .slice none 0 0]) w' := by
  have HB : Hid ((w.alloc (.cells #[.int .i64 0, .int .i64 0, .int .i64 0, .int .i64 0, .slice none 0 0] 35)).heap[w.heap.size]? = some (.cells #[.int .i64 0, .int .i64 0, .int .i64 0, .int .i64 0, .slice none 0 0] 35 (0, 0))) := heap_new _ _ _ rfl
  go_enter Try.func12, Try.ntmps12
  go_wp2
  (try simp only [Exit.inBlock, Exit.then])
  refine bodyPost_ret (results_cell_row rfl _ _ _ _ _ _ _ rfl HB.out Try.underlying35 rfl (by kernel_rfl)) rfl ?_
  exact ⟨rfl, (Keeps.refl _ _).alloc _⟩
set_option maxRecDepth 100000 in
set_option maxHeartbeats 4000000 in
theorem nil_any (w : World) (d m gn now : Int) (ta : Option Addr) (tl tc : Nat) (pa : Option Addr) (pl pc : Nat) (rd : Bool) :
    Calls Try.prog 6 #[.agg #[.int .i64 d, .int .i64 m, .slice ta tl tc, .int .i64 gn, .slice pa pl pc, .bool rd, .int .i64 now]] w fun e w' => Same w e (.bool true) w' := by
  have HB : Hid ((w.alloc (.cells #[.int .i64 d, .int .i64 m, .slice ta tl tc, .int .i64 gn, .slice pa pl pc, .bool rd, .int .i64 now] 48)).heap[w.heap.size]? = some (.cells #[.int .i64 d, .int .i64 m, .slice ta tl tc, .int .i64 gn, .slice pa pl pc, .bool rd, .int .i64 now] 48)) := heap_new _ _ _ rfl
  have HK0 := Lib.hid ((Keeps.refl (fun _ => False) w).alloc (.cells #[.int .i64 d, .int .i64 m, .slice ta tl tc, .int .i64 gn, .slice pa pl pc, .bool rd, .int .i64 now] 48))
  have HC : Hid (∀ wz, K0 (w.alloc (.cells #[.int .i64 d, .int .i64 m, .slice ta tl tc, .int .i64 gn, .slice pa pl pc, .bool rd, .int .i64 now] 48)) wz → w.heap.size < wz.heap.size ∧ wz.cell? ⟨w.heap.size, 1, none⟩ = some (.int .i64 m) ∧ wz.cell? ⟨w.heap.size, 2, none⟩ = some (.slice ta tl tc) ∧ wz.cell? ⟨w.heap.size, 3, none⟩ = some (.int .i64 gn) ∧ wz.cell? ⟨w.heap.size, 4, none⟩ = some (.slice pa pl pc) ∧ wz.cell? ⟨w.heap.size, 5, none⟩ = some (.bool rd) ∧ wz.cell? ⟨w.heap.size, 6, none⟩ = some (.int .i64 now)) := fun wz hk =>
    ⟨by have := hk.size; simp at this; omega, hk.cell' (block_cell HB.out 1) (fun e => e), hk.cell' (block_cell HB.out 2) (fun e => e), hk.cell' (block_cell HB.out 3) (fun e => e), hk.cell' (block_cell HB.out 4) (fun e => e), hk.cell' (block_cell HB.out 5) (fun e => e), hk.cell' (block_cell HB.out 6) (fun e => e)⟩
  have HN := Lib.hid (fun (x : World) => new_bad 0 0 x (.inl (by omega)))
  generalize hwb : w.alloc (.cells #[.int .i64 d, .int .i64 m, .slice ta tl tc, .int .i64 gn, .slice pa pl pc, .bool rd, .int .i64 now] 48) = wb at HB HK0 HC
  have HWB := Lib.hid hwb
  clear hwb HB
  go_enter Try.func6, Try.ntmps6
  go_wp2_with fail
  rw [HWB.out]
  refine (HN.out wb).mono ?_
  rintro e w1 ⟨rfl, k1⟩
  obtain ⟨z0, z1, z2, z3, z4, z5, z6⟩ := HC.out _ k1
  go_wp2_with fail
  refine (join_nil m now ta tl tc w1).mono ?_
  rintro e w2 ⟨rfl, k2⟩
  have k2 := K0.tr k1 k2
  clear z0 z1 z2 z3 z4 z5 z6
  obtain ⟨z0, z1, z2, z3, z4, z5, z6⟩ := HC.out _ k2
  go_wp2_with fail
  refine (sync_nil m gn now pa pl pc rd w2).mono ?_
  rintro e w3 ⟨rfl, k3⟩
  have k3 := K0.tr k2 k3
  clear z0 z1 z2 z3 z4 z5 z6
  obtain ⟨z0, z1, z2, z3, z4, z5, z6⟩ := HC.out _ k3
  go_wp2_with fail
  refine (tick_nil now w3).mono ?_
  rintro e w4 ⟨rfl, k4⟩
  have k4 := K0.tr k3 k4
  clear z0 z1 z2 z3 z4 z5 z6
  go_wp2_with fail
  refine (view_nil w4).mono ?_
  rintro e w5 ⟨rfl, k5⟩
  have k5 := K0.tr k4 k5
  have HV : Hid ((w5.alloc (.cells #[.int .i64 0, .int .i64 0, .int .i64 0, .int .i64 0, .slice none 0 0] 35)).heap[w5.heap.size]? = some (.cells #[.int .i64 0, .int .i64 0, .int .i64 0, .int .i64 0, .slice none 0 0] 35 (0, 0))) := heap_new _ _ _ rfl
  have HK6 := Lib.hid (k5.alloc (.cells #[.int .i64 0, .int .i64 0, .int .i64 0, .int .i64 0, .slice none 0 0] 35))
  obtain ⟨z0, z1, z2, z3, z4, z5, z6⟩ := HC.out _ k5
  go_wp2_with fail
  refine (beat_nil m gn now _).mono ?_
  rintro e w6 ⟨rfl, k6⟩
  have v0 : w6.cell? ⟨w5.heap.size, 0, none⟩ = some (.int .i64 0) := k6.cell' (block_cell HV.out 0) (fun e => e)
  have v1 : w6.cell? ⟨w5.heap.size, 1, none⟩ = some (.int .i64 0) := k6.cell' (block_cell HV.out 1) (fun e => e)
  have v4 : w6.cell? ⟨w5.heap.size, 4, none⟩ = some (.slice none 0 0) := k6.cell' (block_cell HV.out 4) (fun e => e)
  have k6 := K0.tr HK6.out k6
  clear z0 z1 z2 z3 z4 z5 z6
  obtain ⟨z0, z1, z2, z3, z4, z5, z6⟩ := HC.out _ k6
  go_wp2_with fail
  refine (leave_nil m now w6).mono ?_
  rintro e w7 ⟨rfl, k7⟩
  have v0 := k7.cell' v0 (fun e => e)
  have v1 := k7.cell' v1 (fun e => e)
  have v4 := k7.cell' v4 (fun e => e)
  have k7 := K0.tr k6 k7
  clear z0 z1 z2 z3 z4 z5 z6
  obtain ⟨z0, z1, z2, z3, z4, z5, z6⟩ := HC.out _ k7
  go_wp2_with fail
  refine (knows_nil m gn w7).mono ?_
  rintro e w8 ⟨rfl, k8⟩
  have v0 := k8.cell' v0 (fun e => e)
  have v1 := k8.cell' v1 (fun e => e)
  have v4 := k8.cell' v4 (fun e => e)
  have hbv := cell_block1 v0
  have HK8 := Lib.hid (K0.tr k7 k8)
  clear z0 z1 z2 z3 z4 z5 z6 k1 k2 k3 k4 k5 k6 k7 k8
  go_wp2_with fail
  refine (live_any _).mono ?_
  rintro e w9 ⟨rfl, k9⟩
  have HK9 := Lib.hid (K0.tr HK0.out (K0.tr HK8.out k9))
  clear k9
  go_wp2
  go_ret
  exact ⟨rfl, HK9.out⟩
end Go.Proofs.Ytlmajhkhlmkeiaa
