/-
  DiskNil: a disk that is none, walked.
-/
import Derived.Test.YtjfblcmpdcbpgaaDj
namespace Go.Proofs.Ytjfblcmpdcbpgaa
open Go.RowKit Fx

set_option maxRecDepth 100000 in
set_option maxHeartbeats 1000000 in
theorem read_nil (s : ByteArray) (w : World) : Calls Try.prog 14 #[.pointer none, .string s] w fun e w' => Same w e (.tuple #[.string ⟨#[]⟩, .int .i64 1]) w' := by
  go_enter Try.func14, Try.ntmps14
  go_wp2_with fail
  refine (file_nil s _).mono ?_
  rintro e w1 ⟨rfl, k1⟩
  go_wp2
  go_ret2
  exact ⟨rfl, k1⟩
set_option maxRecDepth 100000 in
set_option maxHeartbeats 1000000 in
theorem app_nil (s t : ByteArray) (w : World) : Calls Try.prog 11 #[.pointer none, .string s, .string t] w fun e w' => Same w e (.int .i64 1) w' := by
  go_enter Try.func11, Try.ntmps11
  go_wp2_with fail
  refine (asked_nil _).mono ?_
  rintro e w1 ⟨rfl, k1⟩
  go_wp2
  go_ret
  exact ⟨rfl, k1⟩
set_option maxRecDepth 100000 in
set_option maxHeartbeats 1000000 in
theorem sync_nil (s : ByteArray) (w : World) : Calls Try.prog 12 #[.pointer none, .string s] w fun e w' => Same w e (.int .i64 1) w' := by
  go_enter Try.func12, Try.ntmps12
  go_wp2_with fail
  refine (file_nil s _).mono ?_
  rintro e w1 ⟨rfl, k1⟩
  go_wp2
  go_ret
  exact ⟨rfl, k1⟩
set_option maxRecDepth 100000 in
set_option maxHeartbeats 1000000 in
theorem cut_nil (s : ByteArray) (n : Int) (w : World) : Calls Try.prog 20 #[.pointer none, .string s, .int .i64 n] w fun e w' => Same w e (.int .i64 1) w' := by
  go_enter Try.func20, Try.ntmps20
  go_wp2_with fail
  refine (file_nil s _).mono ?_
  rintro e w1 ⟨rfl, k1⟩
  go_wp2
  go_ret
  exact ⟨rfl, k1⟩
set_option maxRecDepth 100000 in
set_option maxHeartbeats 1000000 in
theorem ren_nil (s t : ByteArray) (w : World) : Calls Try.prog 21 #[.pointer none, .string s, .string t] w fun e w' => Same w e (.int .i64 1) w' := by
  go_enter Try.func21, Try.ntmps21
  go_wp2_with fail
  refine (file_nil s _).mono ?_
  rintro e w1 ⟨rfl, k1⟩
  go_wp2
  go_ret
  exact ⟨rfl, k1⟩
set_option maxRecDepth 100000 in
set_option maxHeartbeats 1000000 in
theorem drop_nil (s : ByteArray) (w : World) : Calls Try.prog 16 #[.pointer none, .string s] w fun e w' => Same w e (.int .i64 1) w' := by
  go_enter Try.func16, Try.ntmps16
  go_wp2_with fail
  refine (file_nil s _).mono ?_
  rintro e w1 ⟨rfl, k1⟩
  go_wp2
  go_ret
  exact ⟨rfl, k1⟩
set_option maxRecDepth 100000 in
set_option maxHeartbeats 1000000 in
theorem fuse_nil (n : Int) (w : World) : Calls Try.prog 17 #[.pointer none, .int .i64 n] w fun e w' => Same w e (.int .i64 1) w' := by
  go_enter Try.func17, Try.ntmps17
  go_wp2
  go_ret
  exact ⟨rfl, Keeps.refl _ _⟩
set_option maxRecDepth 100000 in
set_option maxHeartbeats 1000000 in
theorem names_nil (w : World) : Calls Try.prog 19 #[.pointer none] w fun e w' => Same w e (.slice none 0 0) w' := by
  go_enter Try.func19, Try.ntmps19
  go_wp2_with fail
  refine (asked_nil _).mono ?_
  rintro e w1 ⟨rfl, k1⟩
  go_wp2
  go_ret
  exact ⟨rfl, k1⟩
set_option maxRecDepth 100000 in
set_option maxHeartbeats 1000000 in
theorem used_nil (w : World) : Calls Try.prog 24 #[.pointer none] w fun e w' => Same w e (.int .i64 0) w' := by
  go_enter Try.func24, Try.ntmps24
  go_wp2
  go_ret
  exact ⟨rfl, Keeps.refl _ _⟩
set_option maxRecDepth 100000 in
set_option maxHeartbeats 1000000 in
theorem room_nil (w : World) : Calls Try.prog 25 #[.pointer none] w fun e w' => Same w e (.int .i64 0) w' := by
  go_enter Try.func25, Try.ntmps25
  go_wp2
  go_ret
  exact ⟨rfl, Keeps.refl _ _⟩
set_option maxRecDepth 100000 in
set_option maxHeartbeats 1000000 in
theorem up_nil (w : World) : Calls Try.prog 18 #[.pointer none] w fun e w' => Same w e (.bool false) w' := by
  go_enter Try.func18, Try.ntmps18
  go_wp2_with fail
  refine (asked_nil _).mono ?_
  rintro e w1 ⟨rfl, k1⟩
  go_wp2
  go_ret
  exact ⟨rfl, k1⟩
set_option maxRecDepth 100000 in
set_option maxHeartbeats 1000000 in
theorem crash_nil (a : Option Addr) (n c : Nat) (w : World) : Calls Try.prog 13 #[.pointer none, .slice a n c] w fun e w' => Same w e (.int .i64 0) w' := by
  go_enter Try.func13, Try.ntmps13
  go_wp2
  go_ret
  exact ⟨rfl, Keeps.refl _ _⟩
set_option maxRecDepth 100000 in
set_option maxHeartbeats 1000000 in
theorem copy_nil (w : World) : Calls Try.prog 15 #[.pointer none] w fun e w' => Same w e (.pointer none) w' := by
  go_enter Try.func15, Try.ntmps15
  go_wp2
  go_ret
  exact ⟨rfl, Keeps.refl _ _⟩
set_option maxRecDepth 100000 in
set_option maxHeartbeats 4000000 in
theorem nil_any (dd n : Int) (s t : ByteArray) (a : Option Addr) (l c : Nat) (w : World) :
    Calls Try.prog 8 #[.agg #[.int .i64 dd, .string s, .string t, .int .i64 n, .slice a l c]] w fun e w' => Same w e (.bool true) w' := by
  have HB : Hid ((w.alloc (.cells #[.int .i64 dd, .string s, .string t, .int .i64 n, .slice a l c] 50)).heap[w.heap.size]? = some (.cells #[.int .i64 dd, .string s, .string t, .int .i64 n, .slice a l c] 50)) := heap_new _ _ _ rfl
  have HK0 : Hid (K0 w (w.alloc (.cells #[.int .i64 dd, .string s, .string t, .int .i64 n, .slice a l c] 50))) := (Keeps.refl (fun _ => False) w).alloc _
  have HNB := Lib.hid (fun (x : World) => dnew_bad 0 x (.inl (by omega)))
  go_enter Try.func8, Try.ntmps8
  go_wp2_with fail
  refine (HNB.out _).mono ?_
  rintro e w0 ⟨rfl, k0⟩
  have KK0 := Lib.hid (K0.tr HK0.out k0)
  have B0 : Hid (w0.heap[w.heap.size]? = some (.cells #[.int .i64 dd, .string s, .string t, .int .i64 n, .slice a l c] 50)) := (k0.block _ (block_lt HB.out) (fun e => e)).trans HB.out
  have q0_1 := block_cell B0.out 1
  have q0_2 := block_cell B0.out 2
  have q0_3 := block_cell B0.out 3
  have q0_4 := block_cell B0.out 4
  have lt0 := block_lt B0.out
  clear k0
  go_wp2_with fail
  refine (read_nil s _).mono ?_
  rintro e w1 ⟨rfl, k1⟩
  have KK1 := Lib.hid (K0.tr KK0.out k1)
  have B1 : Hid (w1.heap[w.heap.size]? = some (.cells #[.int .i64 dd, .string s, .string t, .int .i64 n, .slice a l c] 50)) := (k1.block _ (block_lt B0.out) (fun e => e)).trans B0.out
  have q1_1 := block_cell B1.out 1
  have q1_2 := block_cell B1.out 2
  have q1_3 := block_cell B1.out 3
  have q1_4 := block_cell B1.out 4
  have lt1 := block_lt B1.out
  clear k1 q0_1 q0_2 q0_3 q0_4 lt0
  go_wp2_with fail
  refine (copy_nil _).mono ?_
  rintro e w2 ⟨rfl, k2⟩
  have KK2 := Lib.hid (K0.tr KK1.out k2)
  have B2 : Hid (w2.heap[w.heap.size]? = some (.cells #[.int .i64 dd, .string s, .string t, .int .i64 n, .slice a l c] 50)) := (k2.block _ (block_lt B1.out) (fun e => e)).trans B1.out
  have q2_1 := block_cell B2.out 1
  have q2_2 := block_cell B2.out 2
  have q2_3 := block_cell B2.out 3
  have q2_4 := block_cell B2.out 4
  have lt2 := block_lt B2.out
  clear k2 q1_1 q1_2 q1_3 q1_4 lt1
  go_wp2_with fail
  refine (app_nil s t _).mono ?_
  rintro e w3 ⟨rfl, k3⟩
  have KK3 := Lib.hid (K0.tr KK2.out k3)
  have B3 : Hid (w3.heap[w.heap.size]? = some (.cells #[.int .i64 dd, .string s, .string t, .int .i64 n, .slice a l c] 50)) := (k3.block _ (block_lt B2.out) (fun e => e)).trans B2.out
  have q3_1 := block_cell B3.out 1
  have q3_2 := block_cell B3.out 2
  have q3_3 := block_cell B3.out 3
  have q3_4 := block_cell B3.out 4
  have lt3 := block_lt B3.out
  clear k3 q2_1 q2_2 q2_3 q2_4 lt2
  go_wp2_with fail
  refine (sync_nil s _).mono ?_
  rintro e w4 ⟨rfl, k4⟩
  have KK4 := Lib.hid (K0.tr KK3.out k4)
  have B4 : Hid (w4.heap[w.heap.size]? = some (.cells #[.int .i64 dd, .string s, .string t, .int .i64 n, .slice a l c] 50)) := (k4.block _ (block_lt B3.out) (fun e => e)).trans B3.out
  have q4_1 := block_cell B4.out 1
  have q4_2 := block_cell B4.out 2
  have q4_3 := block_cell B4.out 3
  have q4_4 := block_cell B4.out 4
  have lt4 := block_lt B4.out
  clear k4 q3_1 q3_2 q3_3 q3_4 lt3
  go_wp2_with fail
  refine (cut_nil s n _).mono ?_
  rintro e w5 ⟨rfl, k5⟩
  have KK5 := Lib.hid (K0.tr KK4.out k5)
  have B5 : Hid (w5.heap[w.heap.size]? = some (.cells #[.int .i64 dd, .string s, .string t, .int .i64 n, .slice a l c] 50)) := (k5.block _ (block_lt B4.out) (fun e => e)).trans B4.out
  have q5_1 := block_cell B5.out 1
  have q5_2 := block_cell B5.out 2
  have q5_3 := block_cell B5.out 3
  have q5_4 := block_cell B5.out 4
  have lt5 := block_lt B5.out
  clear k5 q4_1 q4_2 q4_3 q4_4 lt4
  go_wp2_with fail
  refine (ren_nil s t _).mono ?_
  rintro e w6 ⟨rfl, k6⟩
  have KK6 := Lib.hid (K0.tr KK5.out k6)
  have B6 : Hid (w6.heap[w.heap.size]? = some (.cells #[.int .i64 dd, .string s, .string t, .int .i64 n, .slice a l c] 50)) := (k6.block _ (block_lt B5.out) (fun e => e)).trans B5.out
  have q6_1 := block_cell B6.out 1
  have q6_2 := block_cell B6.out 2
  have q6_3 := block_cell B6.out 3
  have q6_4 := block_cell B6.out 4
  have lt6 := block_lt B6.out
  clear k6 q5_1 q5_2 q5_3 q5_4 lt5
  go_wp2_with fail
  refine (drop_nil s _).mono ?_
  rintro e w7 ⟨rfl, k7⟩
  have KK7 := Lib.hid (K0.tr KK6.out k7)
  have B7 : Hid (w7.heap[w.heap.size]? = some (.cells #[.int .i64 dd, .string s, .string t, .int .i64 n, .slice a l c] 50)) := (k7.block _ (block_lt B6.out) (fun e => e)).trans B6.out
  have q7_1 := block_cell B7.out 1
  have q7_2 := block_cell B7.out 2
  have q7_3 := block_cell B7.out 3
  have q7_4 := block_cell B7.out 4
  have lt7 := block_lt B7.out
  clear k7 q6_1 q6_2 q6_3 q6_4 lt6
  go_wp2_with fail
  refine (fuse_nil n _).mono ?_
  rintro e w8 ⟨rfl, k8⟩
  have KK8 := Lib.hid (K0.tr KK7.out k8)
  have B8 : Hid (w8.heap[w.heap.size]? = some (.cells #[.int .i64 dd, .string s, .string t, .int .i64 n, .slice a l c] 50)) := (k8.block _ (block_lt B7.out) (fun e => e)).trans B7.out
  have q8_1 := block_cell B8.out 1
  have q8_2 := block_cell B8.out 2
  have q8_3 := block_cell B8.out 3
  have q8_4 := block_cell B8.out 4
  have lt8 := block_lt B8.out
  clear k8 q7_1 q7_2 q7_3 q7_4 lt7
  go_wp2_with fail
  refine (names_nil _).mono ?_
  rintro e w9 ⟨rfl, k9⟩
  have KK9 := Lib.hid (K0.tr KK8.out k9)
  have B9 : Hid (w9.heap[w.heap.size]? = some (.cells #[.int .i64 dd, .string s, .string t, .int .i64 n, .slice a l c] 50)) := (k9.block _ (block_lt B8.out) (fun e => e)).trans B8.out
  have q9_1 := block_cell B9.out 1
  have q9_2 := block_cell B9.out 2
  have q9_3 := block_cell B9.out 3
  have q9_4 := block_cell B9.out 4
  have lt9 := block_lt B9.out
  clear k9 q8_1 q8_2 q8_3 q8_4 lt8
  go_wp2_with fail
  refine (used_nil _).mono ?_
  rintro e w10 ⟨rfl, k10⟩
  have KK10 := Lib.hid (K0.tr KK9.out k10)
  have B10 : Hid (w10.heap[w.heap.size]? = some (.cells #[.int .i64 dd, .string s, .string t, .int .i64 n, .slice a l c] 50)) := (k10.block _ (block_lt B9.out) (fun e => e)).trans B9.out
  have q10_1 := block_cell B10.out 1
  have q10_2 := block_cell B10.out 2
  have q10_3 := block_cell B10.out 3
  have q10_4 := block_cell B10.out 4
  have lt10 := block_lt B10.out
  clear k10 q9_1 q9_2 q9_3 q9_4 lt9
  go_wp2_with fail
  refine (room_nil _).mono ?_
  rintro e w11 ⟨rfl, k11⟩
  have KK11 := Lib.hid (K0.tr KK10.out k11)
  have B11 : Hid (w11.heap[w.heap.size]? = some (.cells #[.int .i64 dd, .string s, .string t, .int .i64 n, .slice a l c] 50)) := (k11.block _ (block_lt B10.out) (fun e => e)).trans B10.out
  have q11_1 := block_cell B11.out 1
  have q11_2 := block_cell B11.out 2
  have q11_3 := block_cell B11.out 3
  have q11_4 := block_cell B11.out 4
  have lt11 := block_lt B11.out
  clear k11 q10_1 q10_2 q10_3 q10_4 lt10
  go_wp2_with fail
  refine (up_nil _).mono ?_
  rintro e w12 ⟨rfl, k12⟩
  have KK12 := Lib.hid (K0.tr KK11.out k12)
  have B12 : Hid (w12.heap[w.heap.size]? = some (.cells #[.int .i64 dd, .string s, .string t, .int .i64 n, .slice a l c] 50)) := (k12.block _ (block_lt B11.out) (fun e => e)).trans B11.out
  have q12_1 := block_cell B12.out 1
  have q12_2 := block_cell B12.out 2
  have q12_3 := block_cell B12.out 3
  have q12_4 := block_cell B12.out 4
  have lt12 := block_lt B12.out
  clear k12 q11_1 q11_2 q11_3 q11_4 lt11
  go_wp2_with fail
  refine (crash_nil a l c _).mono ?_
  rintro e w13 ⟨rfl, k13⟩
  have KK13 := Lib.hid (K0.tr KK12.out k13)
  have B13 : Hid (w13.heap[w.heap.size]? = some (.cells #[.int .i64 dd, .string s, .string t, .int .i64 n, .slice a l c] 50)) := (k13.block _ (block_lt B12.out) (fun e => e)).trans B12.out
  have q13_1 := block_cell B13.out 1
  have q13_2 := block_cell B13.out 2
  have q13_3 := block_cell B13.out 3
  have q13_4 := block_cell B13.out 4
  have lt13 := block_lt B13.out
  clear k13 q12_1 q12_2 q12_3 q12_4 lt12
  go_wp2_with fail
  refine (live_any _).mono ?_
  rintro e wz ⟨rfl, kz⟩
  have HF := Lib.hid (K0.tr KK13.out kz)
  clear kz
  go_wp2
  go_ret
  exact ⟨rfl, HF.out⟩
end Go.Proofs.Ytjfblcmpdcbpgaa
