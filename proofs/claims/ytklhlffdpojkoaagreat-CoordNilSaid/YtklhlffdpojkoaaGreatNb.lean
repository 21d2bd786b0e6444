/-
  CoordNil: a coordinator that is none, walked.
-/
import Derived.Test.YtklhlffdpojkoaaGreatNa
import Derived.Test.YtklhlffdpojkoaaGreatCg
namespace Go.Proofs.YtklhlffdpojkoaaGreat
open Go.RowKit Go.Shelf Fx
attribute [local go_sem] Oper.semAt_some

set_option maxRecDepth 100000 in
set_option maxHeartbeats 1000000 in
theorem join_nil (s : ByteArray) (m now : Int) (a : Option Addr) (n c : Nat) (w : World) : Calls Tryz.prog 12 #[.pointer none, .string s, .int .i64 m, .slice a n c, .int .i64 now] w fun e w' => Same w e (.tuple #[.agg #[.int .i64 0, .int .i64 0, .int .i64 0], .int .i64 1]) w' := by
  have HB := Lib.hid (jw_facts w)
  go_enter Tryz.func12, Tryz.ntmps12
  go_wp2
  (try simp only [Exit.inBlock, Exit.then])
  refine bodyPost_ret (results_cell_row2 rfl _ _ _ _ _ _ _ rfl HB.out Tryz.underlying41 rfl (by kernel_rfl)) rfl ?_
  exact ⟨rfl, (Keeps.refl _ _).alloc _⟩
set_option maxRecDepth 100000 in
set_option maxHeartbeats 1000000 in
theorem sync_nil (s : ByteArray) (m gn : Int) (a : Option Addr) (n c : Nat) (rd : Bool) (now : Int) (w : World) : Calls Tryz.prog 13 #[.pointer none, .string s, .int .i64 m, .int .i64 gn, .slice a n c, .bool rd, .int .i64 now] w fun e w' => Same w e (.tuple #[.slice none 0 0, .int .i64 1]) w' := by
  go_enter Tryz.func13, Tryz.ntmps13
  go_wp2_with fail
  refine (group_nil s _).mono ?_
  rintro e w1 ⟨rfl, k1⟩
  go_wp2
  go_ret2
  exact ⟨rfl, k1⟩
set_option maxRecDepth 100000 in
set_option maxHeartbeats 1000000 in
theorem beat_nil (s : ByteArray) (m gn now : Int) (w : World) : Calls Tryz.prog 16 #[.pointer none, .string s, .int .i64 m, .int .i64 gn, .int .i64 now] w fun e w' => Same w e (.int .i64 1) w' := by
  go_enter Tryz.func16, Tryz.ntmps16
  go_wp2_with fail
  refine (group_nil s _).mono ?_
  rintro e w1 ⟨rfl, k1⟩
  go_wp2
  go_ret
  exact ⟨rfl, k1⟩
set_option maxRecDepth 100000 in
set_option maxHeartbeats 1000000 in
theorem leave_nil (s : ByteArray) (m now : Int) (w : World) : Calls Tryz.prog 17 #[.pointer none, .string s, .int .i64 m, .int .i64 now] w fun e w' => Same w e (.int .i64 1) w' := by
  go_enter Tryz.func17, Tryz.ntmps17
  go_wp2_with fail
  refine (group_nil s _).mono ?_
  rintro e w1 ⟨rfl, k1⟩
  go_wp2
  go_ret
  exact ⟨rfl, k1⟩
set_option maxRecDepth 100000 in
set_option maxHeartbeats 1000000 in
theorem may_nil (s : ByteArray) (m gn : Int) (w : World) : Calls Tryz.prog 18 #[.pointer none, .string s, .int .i64 m, .int .i64 gn] w fun e w' => Same w e (.int .i64 1) w' := by
  by_cases h1 : m = -1
  · by_cases h2 : gn = -1
    · subst h1 h2
      go_enter Tryz.func18, Tryz.ntmps18
      go_wp2_with fail
      refine (group_nil s _).mono ?_
      rintro e w1 ⟨rfl, k1⟩
      go_wp2
      go_ret
      exact ⟨rfl, k1⟩
    · subst h1
      go_enter Tryz.func18, Tryz.ntmps18
      go_wp2_with fail
      refine (group_nil s _).mono ?_
      rintro e w1 ⟨rfl, k1⟩
      go_wp2
      go_ret
      exact ⟨rfl, k1⟩
  · go_enter Tryz.func18, Tryz.ntmps18
    go_wp2_with fail
    refine (group_nil s _).mono ?_
    rintro e w1 ⟨rfl, k1⟩
    go_wp2
    go_ret
    exact ⟨rfl, k1⟩
set_option maxRecDepth 100000 in
set_option maxHeartbeats 1000000 in
theorem commit_nil (s t : ByteArray) (i at_ : Int) (w : World) : Calls Tryz.prog 19 #[.pointer none, .string s, .agg #[.string t, .int .i64 i], .int .i64 at_] w fun e w' => Same w e (.int .i64 1) w' := by
  go_enter Tryz.func19, Tryz.ntmps19
  go_wp2
  go_ret
  first | exact ⟨rfl, Keeps.refl _ _⟩ | exact ⟨rfl, (Keeps.refl _ _).alloc _⟩
set_option maxRecDepth 100000 in
set_option maxHeartbeats 1000000 in
theorem committed_nil (s t : ByteArray) (i : Int) (w : World) : Calls Tryz.prog 14 #[.pointer none, .string s, .agg #[.string t, .int .i64 i]] w fun e w' => Same w e (.tuple #[.int .i64 0, .bool false]) w' := by
  go_enter Tryz.func14, Tryz.ntmps14
  go_wp2
  go_ret2
  first | exact ⟨rfl, Keeps.refl _ _⟩ | exact ⟨rfl, (Keeps.refl _ _).alloc _⟩
set_option maxRecDepth 100000 in
set_option maxHeartbeats 1000000 in
theorem drop_nil (s : ByteArray) (w : World) : Calls Tryz.prog 20 #[.pointer none, .string s] w fun e w' => Same w e (.int .i64 0) w' := by
  go_enter Tryz.func20, Tryz.ntmps20
  go_wp2
  go_ret
  exact ⟨rfl, Keeps.refl _ _⟩
set_option maxRecDepth 100000 in
set_option maxHeartbeats 2000000 in
theorem cgroup_nil (s : ByteArray) (w : World) : Calls Tryz.prog 22 #[.pointer none, .string s] w fun e w' => Same w e (.agg #[.int .i64 0, .int .i64 0, .int .i64 0, .int .i64 0, .slice none 0 0]) w' := by
  have HB : Hid ((w.alloc (.cells #[.int .i64 0, .int .i64 0, .int .i64 0, .int .i64 0, .slice none 0 0] 57)).heap[w.heap.size]? = some (.cells #[.int .i64 0, .int .i64 0, .int .i64 0, .int .i64 0, .slice none 0 0] 57 (0, 0))) := heap_new _ _ _ rfl
  have HK := Lib.hid ((Keeps.refl (fun _ => False) w).alloc (.cells #[.int .i64 0, .int .i64 0, .int .i64 0, .int .i64 0, .slice none 0 0] 57))
  go_enter Tryz.func22, Tryz.ntmps22
  go_wp2_with fail
  refine (group_nil s _).mono ?_
  rintro e w1 ⟨rfl, k1⟩
  have K1 := Lib.hid k1
  clear k1
  go_wp2_with fail
  refine (view_nil _).mono ?_
  rintro e w2 ⟨rfl, k2⟩
  have k3 := K0.tr K1.out k2
  have b2 : w2.heap[w.heap.size]? = some (.cells #[.int .i64 0, .int .i64 0, .int .i64 0, .int .i64 0, .slice none 0 0] 57 (0, 0)) := (k3.block _ (block_lt HB.out) (fun e => e)).trans HB.out
  have q0 := block_cell b2 0
  have q1 := block_cell b2 1
  have q2 := block_cell b2 2
  have q3 := block_cell b2 3
  have q4 := block_cell b2 4
  have f0 := block_free b2 0
  have f1 := block_free b2 1
  have f2 := block_free b2 2
  have f3 := block_free b2 3
  have f4 := block_free b2 4
  have hlt := block_lt b2
  have hlt1 : w.heap.size < w1.heap.size := by have := K1.out.size; simp at this; omega
  have HF : Hid ((((((w2.setCell ⟨w.heap.size, 0, none⟩ (.int .i64 0)).setCell ⟨w.heap.size, 1, none⟩ (.int .i64 0)).setCell ⟨w.heap.size, 2, none⟩ (.int .i64 0)).setCell ⟨w.heap.size, 3, none⟩ (.int .i64 0)).setCell ⟨w.heap.size, 4, none⟩ (.slice none 0 0)).heap[w.heap.size]? = some (.cells #[.int .i64 0, .int .i64 0, .int .i64 0, .int .i64 0, .slice none 0 0] 57 (0, 0))) :=
    setCell_block (setCell_block (setCell_block (setCell_block (setCell_block b2 0 _) 1 _) 2 _) 3 _) 4 _
  have HP : Hid (Keeps (fun k => k = w.heap.size) w2 (((((w2.setCell ⟨w.heap.size, 0, none⟩ (.int .i64 0)).setCell ⟨w.heap.size, 1, none⟩ (.int .i64 0)).setCell ⟨w.heap.size, 2, none⟩ (.int .i64 0)).setCell ⟨w.heap.size, 3, none⟩ (.int .i64 0)).setCell ⟨w.heap.size, 4, none⟩ (.slice none 0 0))) :=
    (((((Keeps.refl (fun k => k = w.heap.size) w2).setC 0 _ (fun _ => rfl)).setC 1 _ (fun _ => rfl)).setC 2 _ (fun _ => rfl)).setC 3 _ (fun _ => rfl)).setC 4 _ (fun _ => rfl)
  have HK2 := Lib.hid (K0.tr HK.out k3)
  clear k2 k3 b2
  go_wp2
  (try simp only [Exit.inBlock, Exit.then])
  refine bodyPost_ret (results_cell_row rfl _ _ _ _ _ _ _ rfl HF.out Tryz.underlying57 rfl (by kernel_rfl)) rfl ?_
  exact ⟨rfl, HK2.out.trans HP.out (fun k hk e => by omega)⟩
set_option maxRecDepth 100000 in
set_option maxHeartbeats 2000000 in
theorem tick_nil (now : Int) (w : World) : Calls Tryz.prog 15 #[.pointer none, .int .i64 now] w fun e w' => Same w e (.tuple #[]) w' := by
  refine (callsIn_wide (n := 6)).1 ?_
  have h1 : 1 ≤ 6 := by omega
  have hA : Fence.wide.fn 44 := trivial
  refine callsIn_of_wp_marks Tryz.func15 rfl trivial ?_ rfl
  simp only [Tryz.ntmps15, List.size_toArray, List.length_cons, List.length_nil, Nat.reduceAdd, Nat.reduceSub, Array.replicate_succ, Array.replicate_zero, List.push_toArray, List.append_toArray, List.nil_append, List.cons_append]
  gi_wp2_with (gi_at_call 44; refine (callsIn_wide.2 (all_nil _)).mono ?_; rintro e w' ⟨rfl, rfl⟩)
  refine wpIn_rangeFunc_ownF rfl h1 (gf := 73) (lb := #[.pointer (some ⟨w.heap.size + 1, 0, none⟩)]) rfl trivial (enters_of Tryz.func73 (by kernel_rfl) rfl) (all_nil_stops Fence.wide _ trivial rfl _ (Below w.heap.size) (w.heap.size + 1) (by simp) (by simp)) belowK_t (belowK_b (by simp; omega)) (Below.refl _ _) (fun _ => rfl)
    (fun _ W => Below w.heap.size w W) (fun _ _ _ => False)
    (ownFrom_below (Nat.le_refl _) (by simp; omega))
    (fun _ _ _ _ _ hs _ _ => hs) (((Below.refl _ _).alloc (Nat.le_refl _) _).alloc (by simp) _)
    (fun _ => { tmps := #[.pointer none, .int .i64 now, undef, .pointer (some ⟨w.heap.size, 0, none⟩), undef, .pointer none, .pointer none, .func (.func 73) #[] #[.pointer (some ⟨w.heap.size + 1, 0, none⟩)], .string ⟨#[]⟩, .pointer none, undef, undef, undef], defers := [] }) ?assign ?body ?done ?stop
  case assign =>
    intro l x W K hK
    gi_wp2
    exact hK
  case body =>
    intro l pre x W _ hlt
    exact absurd hlt (Nat.not_lt_zero _)
  case done =>
    rintro D xs W hD rfl hB hK
    gi_wp2
    refine ⟨by simp, Or.inl ⟨_, _, rfl, run_takeDeferred hK, ?_⟩⟩
    exact ⟨_, results_none rfl _ _ _, rfl, K0.of_below (hB.trans (belowK_b (w := w) (Nat.le_refl _) W D _ _ (by simp at hD; omega) hK rfl rfl))⟩
  case stop =>
    rintro D c pre W _ h _ _
    exact h.elim
set_option maxRecDepth 100000 in
set_option maxHeartbeats 4000000 in
theorem cnil_any (dd m gn pi at_ now : Int) (s pt : ByteArray) (ta : Option Addr) (tl tc : Nat) (pa : Option Addr) (pl pc : Nat) (rd : Bool) (w : World) :
    Calls Tryz.prog 4 #[.agg #[.int .i64 dd, .string s, .int .i64 m, .slice ta tl tc, .int .i64 gn, .slice pa pl pc, .bool rd, .string pt, .int .i64 pi, .int .i64 at_, .int .i64 now]] w fun e w' => Same w e (.bool true) w' := by
  have HB : Hid ((w.alloc (.cells #[.int .i64 dd, .string s, .int .i64 m, .slice ta tl tc, .int .i64 gn, .slice pa pl pc, .bool rd, .string pt, .int .i64 pi, .int .i64 at_, .int .i64 now] 36)).heap[w.heap.size]? = some (.cells #[.int .i64 dd, .string s, .int .i64 m, .slice ta tl tc, .int .i64 gn, .slice pa pl pc, .bool rd, .string pt, .int .i64 pi, .int .i64 at_, .int .i64 now] 36)) := heap_new _ _ _ rfl
  have HK0 : Hid (K0 w (w.alloc (.cells #[.int .i64 dd, .string s, .int .i64 m, .slice ta tl tc, .int .i64 gn, .slice pa pl pc, .bool rd, .string pt, .int .i64 pi, .int .i64 at_, .int .i64 now] 36))) := (Keeps.refl (fun _ => False) w).alloc _
  have HNB := Lib.hid (fun (x : World) => cnew_bad 0 0 x (.inl (by omega)))
  have vf4 : ∀ (a b c d : Int) (x : Option Addr) (n k : Nat) (w : World), (Instr.field 57 (.agg #[.int .i64 a, .int .i64 b, .int .i64 c, .int .i64 d, .slice x n k]) 4).run Tryz.prog w = .ok (.slice x n k) w := fun a b c d x n k w => by kernel_rfl
  go_enter Tryz.func4, Tryz.ntmps4
  go_wp2_with fail
  refine (HNB.out _).mono ?_
  rintro e w0 ⟨rfl, k0⟩
  have KK0 := Lib.hid (K0.tr HK0.out k0)
  have B0 : Hid (w0.heap[w.heap.size]? = some (.cells #[.int .i64 dd, .string s, .int .i64 m, .slice ta tl tc, .int .i64 gn, .slice pa pl pc, .bool rd, .string pt, .int .i64 pi, .int .i64 at_, .int .i64 now] 36)) := (k0.block _ (block_lt HB.out) (fun e => e)).trans HB.out
  have q0_1 := block_cell B0.out 1
  have q0_2 := block_cell B0.out 2
  have q0_3 := block_cell B0.out 3
  have q0_4 := block_cell B0.out 4
  have q0_5 := block_cell B0.out 5
  have q0_6 := block_cell B0.out 6
  have q0_7 := block_cell B0.out 7
  have q0_8 := block_cell B0.out 8
  have q0_9 := block_cell B0.out 9
  have q0_10 := block_cell B0.out 10
  have lt0 := block_lt B0.out
  clear k0
  go_wp2_with fail
  refine (join_nil s m now ta tl tc _).mono ?_
  rintro e w1 ⟨rfl, k1⟩
  have KK1 := Lib.hid (K0.tr KK0.out k1)
  have B1 : Hid (w1.heap[w.heap.size]? = some (.cells #[.int .i64 dd, .string s, .int .i64 m, .slice ta tl tc, .int .i64 gn, .slice pa pl pc, .bool rd, .string pt, .int .i64 pi, .int .i64 at_, .int .i64 now] 36)) := (k1.block _ (block_lt B0.out) (fun e => e)).trans B0.out
  have q1_1 := block_cell B1.out 1
  have q1_2 := block_cell B1.out 2
  have q1_3 := block_cell B1.out 3
  have q1_4 := block_cell B1.out 4
  have q1_5 := block_cell B1.out 5
  have q1_6 := block_cell B1.out 6
  have q1_7 := block_cell B1.out 7
  have q1_8 := block_cell B1.out 8
  have q1_9 := block_cell B1.out 9
  have q1_10 := block_cell B1.out 10
  have lt1 := block_lt B1.out
  clear k1 q0_1 q0_2 q0_3 q0_4 q0_5 q0_6 q0_7 q0_8 q0_9 q0_10 lt0
  go_wp2_with fail
  refine (sync_nil s m gn pa pl pc rd now _).mono ?_
  rintro e w2 ⟨rfl, k2⟩
  have KK2 := Lib.hid (K0.tr (KK1.out.alloc _) k2)
  have B2 : Hid (w2.heap[w.heap.size]? = some (.cells #[.int .i64 dd, .string s, .int .i64 m, .slice ta tl tc, .int .i64 gn, .slice pa pl pc, .bool rd, .string pt, .int .i64 pi, .int .i64 at_, .int .i64 now] 36)) := (k2.block _ (block_lt (block_alloc B1.out _)) (fun e => e)).trans (block_alloc B1.out _)
  have q2_1 := block_cell B2.out 1
  have q2_2 := block_cell B2.out 2
  have q2_3 := block_cell B2.out 3
  have q2_4 := block_cell B2.out 4
  have q2_5 := block_cell B2.out 5
  have q2_6 := block_cell B2.out 6
  have q2_7 := block_cell B2.out 7
  have q2_8 := block_cell B2.out 8
  have q2_9 := block_cell B2.out 9
  have q2_10 := block_cell B2.out 10
  have lt2 := block_lt B2.out
  clear k2 q1_1 q1_2 q1_3 q1_4 q1_5 q1_6 q1_7 q1_8 q1_9 q1_10 lt1
  go_wp2_with fail
  refine (committed_nil s pt pi _).mono ?_
  rintro e w3 ⟨rfl, k3⟩
  have KK3 := Lib.hid (K0.tr KK2.out k3)
  have B3 : Hid (w3.heap[w.heap.size]? = some (.cells #[.int .i64 dd, .string s, .int .i64 m, .slice ta tl tc, .int .i64 gn, .slice pa pl pc, .bool rd, .string pt, .int .i64 pi, .int .i64 at_, .int .i64 now] 36)) := (k3.block _ (block_lt B2.out) (fun e => e)).trans B2.out
  have q3_1 := block_cell B3.out 1
  have q3_2 := block_cell B3.out 2
  have q3_3 := block_cell B3.out 3
  have q3_4 := block_cell B3.out 4
  have q3_5 := block_cell B3.out 5
  have q3_6 := block_cell B3.out 6
  have q3_7 := block_cell B3.out 7
  have q3_8 := block_cell B3.out 8
  have q3_9 := block_cell B3.out 9
  have q3_10 := block_cell B3.out 10
  have lt3 := block_lt B3.out
  clear k3 q2_1 q2_2 q2_3 q2_4 q2_5 q2_6 q2_7 q2_8 q2_9 q2_10 lt2
  go_wp2_with fail
  refine (tick_nil now _).mono ?_
  rintro e w4 ⟨rfl, k4⟩
  have KK4 := Lib.hid (K0.tr KK3.out k4)
  have B4 : Hid (w4.heap[w.heap.size]? = some (.cells #[.int .i64 dd, .string s, .int .i64 m, .slice ta tl tc, .int .i64 gn, .slice pa pl pc, .bool rd, .string pt, .int .i64 pi, .int .i64 at_, .int .i64 now] 36)) := (k4.block _ (block_lt B3.out) (fun e => e)).trans B3.out
  have q4_1 := block_cell B4.out 1
  have q4_2 := block_cell B4.out 2
  have q4_3 := block_cell B4.out 3
  have q4_4 := block_cell B4.out 4
  have q4_5 := block_cell B4.out 5
  have q4_6 := block_cell B4.out 6
  have q4_7 := block_cell B4.out 7
  have q4_8 := block_cell B4.out 8
  have q4_9 := block_cell B4.out 9
  have q4_10 := block_cell B4.out 10
  have lt4 := block_lt B4.out
  clear k4 q3_1 q3_2 q3_3 q3_4 q3_5 q3_6 q3_7 q3_8 q3_9 q3_10 lt3
  go_wp2_with fail
  refine (beat_nil s m gn now _).mono ?_
  rintro e w5 ⟨rfl, k5⟩
  have KK5 := Lib.hid (K0.tr KK4.out k5)
  have B5 : Hid (w5.heap[w.heap.size]? = some (.cells #[.int .i64 dd, .string s, .int .i64 m, .slice ta tl tc, .int .i64 gn, .slice pa pl pc, .bool rd, .string pt, .int .i64 pi, .int .i64 at_, .int .i64 now] 36)) := (k5.block _ (block_lt B4.out) (fun e => e)).trans B4.out
  have q5_1 := block_cell B5.out 1
  have q5_2 := block_cell B5.out 2
  have q5_3 := block_cell B5.out 3
  have q5_4 := block_cell B5.out 4
  have q5_5 := block_cell B5.out 5
  have q5_6 := block_cell B5.out 6
  have q5_7 := block_cell B5.out 7
  have q5_8 := block_cell B5.out 8
  have q5_9 := block_cell B5.out 9
  have q5_10 := block_cell B5.out 10
  have lt5 := block_lt B5.out
  clear k5 q4_1 q4_2 q4_3 q4_4 q4_5 q4_6 q4_7 q4_8 q4_9 q4_10 lt4
  go_wp2_with fail
  refine (leave_nil s m now _).mono ?_
  rintro e w6 ⟨rfl, k6⟩
  have KK6 := Lib.hid (K0.tr KK5.out k6)
  have B6 : Hid (w6.heap[w.heap.size]? = some (.cells #[.int .i64 dd, .string s, .int .i64 m, .slice ta tl tc, .int .i64 gn, .slice pa pl pc, .bool rd, .string pt, .int .i64 pi, .int .i64 at_, .int .i64 now] 36)) := (k6.block _ (block_lt B5.out) (fun e => e)).trans B5.out
  have q6_1 := block_cell B6.out 1
  have q6_2 := block_cell B6.out 2
  have q6_3 := block_cell B6.out 3
  have q6_4 := block_cell B6.out 4
  have q6_5 := block_cell B6.out 5
  have q6_6 := block_cell B6.out 6
  have q6_7 := block_cell B6.out 7
  have q6_8 := block_cell B6.out 8
  have q6_9 := block_cell B6.out 9
  have q6_10 := block_cell B6.out 10
  have lt6 := block_lt B6.out
  clear k6 q5_1 q5_2 q5_3 q5_4 q5_5 q5_6 q5_7 q5_8 q5_9 q5_10 lt5
  go_wp2_with fail
  refine (may_nil s m gn _).mono ?_
  rintro e w7 ⟨rfl, k7⟩
  have KK7 := Lib.hid (K0.tr KK6.out k7)
  have B7 : Hid (w7.heap[w.heap.size]? = some (.cells #[.int .i64 dd, .string s, .int .i64 m, .slice ta tl tc, .int .i64 gn, .slice pa pl pc, .bool rd, .string pt, .int .i64 pi, .int .i64 at_, .int .i64 now] 36)) := (k7.block _ (block_lt B6.out) (fun e => e)).trans B6.out
  have q7_1 := block_cell B7.out 1
  have q7_2 := block_cell B7.out 2
  have q7_3 := block_cell B7.out 3
  have q7_4 := block_cell B7.out 4
  have q7_5 := block_cell B7.out 5
  have q7_6 := block_cell B7.out 6
  have q7_7 := block_cell B7.out 7
  have q7_8 := block_cell B7.out 8
  have q7_9 := block_cell B7.out 9
  have q7_10 := block_cell B7.out 10
  have lt7 := block_lt B7.out
  clear k7 q6_1 q6_2 q6_3 q6_4 q6_5 q6_6 q6_7 q6_8 q6_9 q6_10 lt6
  go_wp2_with fail
  refine (commit_nil s pt pi at_ _).mono ?_
  rintro e w8 ⟨rfl, k8⟩
  have KK8 := Lib.hid (K0.tr KK7.out k8)
  have B8 : Hid (w8.heap[w.heap.size]? = some (.cells #[.int .i64 dd, .string s, .int .i64 m, .slice ta tl tc, .int .i64 gn, .slice pa pl pc, .bool rd, .string pt, .int .i64 pi, .int .i64 at_, .int .i64 now] 36)) := (k8.block _ (block_lt B7.out) (fun e => e)).trans B7.out
  have q8_1 := block_cell B8.out 1
  have q8_2 := block_cell B8.out 2
  have q8_3 := block_cell B8.out 3
  have q8_4 := block_cell B8.out 4
  have q8_5 := block_cell B8.out 5
  have q8_6 := block_cell B8.out 6
  have q8_7 := block_cell B8.out 7
  have q8_8 := block_cell B8.out 8
  have q8_9 := block_cell B8.out 9
  have q8_10 := block_cell B8.out 10
  have lt8 := block_lt B8.out
  clear k8 q7_1 q7_2 q7_3 q7_4 q7_5 q7_6 q7_7 q7_8 q7_9 q7_10 lt7
  go_wp2_with fail
  refine (drop_nil s _).mono ?_
  rintro e w9 ⟨rfl, k9⟩
  have KK9 := Lib.hid (K0.tr KK8.out k9)
  have B9 : Hid (w9.heap[w.heap.size]? = some (.cells #[.int .i64 dd, .string s, .int .i64 m, .slice ta tl tc, .int .i64 gn, .slice pa pl pc, .bool rd, .string pt, .int .i64 pi, .int .i64 at_, .int .i64 now] 36)) := (k9.block _ (block_lt B8.out) (fun e => e)).trans B8.out
  have q9_1 := block_cell B9.out 1
  have q9_2 := block_cell B9.out 2
  have q9_3 := block_cell B9.out 3
  have q9_4 := block_cell B9.out 4
  have q9_5 := block_cell B9.out 5
  have q9_6 := block_cell B9.out 6
  have q9_7 := block_cell B9.out 7
  have q9_8 := block_cell B9.out 8
  have q9_9 := block_cell B9.out 9
  have q9_10 := block_cell B9.out 10
  have lt9 := block_lt B9.out
  clear k9 q8_1 q8_2 q8_3 q8_4 q8_5 q8_6 q8_7 q8_8 q8_9 q8_10 lt8
  go_wp2_with fail
  refine (names_nil _).mono ?_
  rintro e w10 ⟨rfl, k10⟩
  have KK10 := Lib.hid (K0.tr KK9.out k10)
  have B10 : Hid (w10.heap[w.heap.size]? = some (.cells #[.int .i64 dd, .string s, .int .i64 m, .slice ta tl tc, .int .i64 gn, .slice pa pl pc, .bool rd, .string pt, .int .i64 pi, .int .i64 at_, .int .i64 now] 36)) := (k10.block _ (block_lt B9.out) (fun e => e)).trans B9.out
  have q10_1 := block_cell B10.out 1
  have q10_2 := block_cell B10.out 2
  have q10_3 := block_cell B10.out 3
  have q10_4 := block_cell B10.out 4
  have q10_5 := block_cell B10.out 5
  have q10_6 := block_cell B10.out 6
  have q10_7 := block_cell B10.out 7
  have q10_8 := block_cell B10.out 8
  have q10_9 := block_cell B10.out 9
  have q10_10 := block_cell B10.out 10
  have lt10 := block_lt B10.out
  clear k10 q9_1 q9_2 q9_3 q9_4 q9_5 q9_6 q9_7 q9_8 q9_9 q9_10 lt9
  go_wp2_with fail
  refine (cgroup_nil s _).mono ?_
  rintro e w11 ⟨rfl, k11⟩
  have KK11 := Lib.hid (K0.tr KK10.out k11)
  have B11 : Hid (w11.heap[w.heap.size]? = some (.cells #[.int .i64 dd, .string s, .int .i64 m, .slice ta tl tc, .int .i64 gn, .slice pa pl pc, .bool rd, .string pt, .int .i64 pi, .int .i64 at_, .int .i64 now] 36)) := (k11.block _ (block_lt B10.out) (fun e => e)).trans B10.out
  have q11_1 := block_cell B11.out 1
  have q11_2 := block_cell B11.out 2
  have q11_3 := block_cell B11.out 3
  have q11_4 := block_cell B11.out 4
  have q11_5 := block_cell B11.out 5
  have q11_6 := block_cell B11.out 6
  have q11_7 := block_cell B11.out 7
  have q11_8 := block_cell B11.out 8
  have q11_9 := block_cell B11.out 9
  have q11_10 := block_cell B11.out 10
  have lt11 := block_lt B11.out
  clear k11 q10_1 q10_2 q10_3 q10_4 q10_5 q10_6 q10_7 q10_8 q10_9 q10_10 lt10
  go_wp2_with fail
  refine (clive_any _).mono ?_
  rintro e wz ⟨rfl, kz⟩
  have HF := Lib.hid (K0.tr KK11.out kz)
  clear kz
  go_wp2
  go_ret
  exact ⟨rfl, HF.out⟩
end Go.Proofs.YtklhlffdpojkoaaGreat
