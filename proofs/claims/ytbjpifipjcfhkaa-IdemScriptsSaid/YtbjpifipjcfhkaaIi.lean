/-
  varint.Get at the places of live's text.
-/
import Derived.Test.YtbjpifipjcfhkaaIh
namespace Go.Proofs.Ytbjpifipjcfhkaa
open Go.RowKit Fx

def liveS : ByteArray := ⟨#[2, 14, 0, 4, 0, 80, 4, 4, 84, 2]⟩
set_option maxRecDepth 100000 in
set_option maxHeartbeats 1000000 in
theorem get_0 (w : World) : Calls Try.prog 38 #[.string liveS, .int .i64 0] w fun e w' => Same w e (.tuple #[.int .i64 1, .int .i64 1, .int .i64 0]) w' := by
  unfold liveS
  go_enter Try.func38, Try.ntmps38
  go_wp2
  refine wp_loop_once ?_
  go_wp2
  go_ret3
  exact ⟨by kernel_rfl, Keeps.refl _ _⟩
set_option maxRecDepth 100000 in
set_option maxHeartbeats 1000000 in
theorem get_1 (w : World) : Calls Try.prog 38 #[.string liveS, .int .i64 1] w fun e w' => Same w e (.tuple #[.int .i64 7, .int .i64 2, .int .i64 0]) w' := by
  unfold liveS
  go_enter Try.func38, Try.ntmps38
  go_wp2
  refine wp_loop_once ?_
  go_wp2
  go_ret3
  exact ⟨by kernel_rfl, Keeps.refl _ _⟩
set_option maxRecDepth 100000 in
set_option maxHeartbeats 1000000 in
theorem get_2 (w : World) : Calls Try.prog 38 #[.string liveS, .int .i64 2] w fun e w' => Same w e (.tuple #[.int .i64 0, .int .i64 3, .int .i64 0]) w' := by
  unfold liveS
  go_enter Try.func38, Try.ntmps38
  go_wp2
  refine wp_loop_once ?_
  go_wp2
  go_ret3
  exact ⟨by kernel_rfl, Keeps.refl _ _⟩
set_option maxRecDepth 100000 in
set_option maxHeartbeats 1000000 in
theorem get_3 (w : World) : Calls Try.prog 38 #[.string liveS, .int .i64 3] w fun e w' => Same w e (.tuple #[.int .i64 2, .int .i64 4, .int .i64 0]) w' := by
  unfold liveS
  go_enter Try.func38, Try.ntmps38
  go_wp2
  refine wp_loop_once ?_
  go_wp2
  go_ret3
  exact ⟨by kernel_rfl, Keeps.refl _ _⟩
set_option maxRecDepth 100000 in
set_option maxHeartbeats 1000000 in
theorem get_4 (w : World) : Calls Try.prog 38 #[.string liveS, .int .i64 4] w fun e w' => Same w e (.tuple #[.int .i64 0, .int .i64 5, .int .i64 0]) w' := by
  unfold liveS
  go_enter Try.func38, Try.ntmps38
  go_wp2
  refine wp_loop_once ?_
  go_wp2
  go_ret3
  exact ⟨by kernel_rfl, Keeps.refl _ _⟩
set_option maxRecDepth 100000 in
set_option maxHeartbeats 1000000 in
theorem get_5 (w : World) : Calls Try.prog 38 #[.string liveS, .int .i64 5] w fun e w' => Same w e (.tuple #[.int .i64 40, .int .i64 6, .int .i64 0]) w' := by
  unfold liveS
  go_enter Try.func38, Try.ntmps38
  go_wp2
  refine wp_loop_once ?_
  go_wp2
  go_ret3
  exact ⟨by kernel_rfl, Keeps.refl _ _⟩
set_option maxRecDepth 100000 in
set_option maxHeartbeats 1000000 in
theorem get_6 (w : World) : Calls Try.prog 38 #[.string liveS, .int .i64 6] w fun e w' => Same w e (.tuple #[.int .i64 2, .int .i64 7, .int .i64 0]) w' := by
  unfold liveS
  go_enter Try.func38, Try.ntmps38
  go_wp2
  refine wp_loop_once ?_
  go_wp2
  go_ret3
  exact ⟨by kernel_rfl, Keeps.refl _ _⟩
set_option maxRecDepth 100000 in
set_option maxHeartbeats 1000000 in
theorem get_7 (w : World) : Calls Try.prog 38 #[.string liveS, .int .i64 7] w fun e w' => Same w e (.tuple #[.int .i64 2, .int .i64 8, .int .i64 0]) w' := by
  unfold liveS
  go_enter Try.func38, Try.ntmps38
  go_wp2
  refine wp_loop_once ?_
  go_wp2
  go_ret3
  exact ⟨by kernel_rfl, Keeps.refl _ _⟩
set_option maxRecDepth 100000 in
set_option maxHeartbeats 1000000 in
theorem get_8 (w : World) : Calls Try.prog 38 #[.string liveS, .int .i64 8] w fun e w' => Same w e (.tuple #[.int .i64 42, .int .i64 9, .int .i64 0]) w' := by
  unfold liveS
  go_enter Try.func38, Try.ntmps38
  go_wp2
  refine wp_loop_once ?_
  go_wp2
  go_ret3
  exact ⟨by kernel_rfl, Keeps.refl _ _⟩
set_option maxRecDepth 100000 in
set_option maxHeartbeats 1000000 in
theorem get_9 (w : World) : Calls Try.prog 38 #[.string liveS, .int .i64 9] w fun e w' => Same w e (.tuple #[.int .i64 1, .int .i64 10, .int .i64 0]) w' := by
  unfold liveS
  go_enter Try.func38, Try.ntmps38
  go_wp2
  refine wp_loop_once ?_
  go_wp2
  go_ret3
  exact ⟨by kernel_rfl, Keeps.refl _ _⟩
end Go.Proofs.Ytbjpifipjcfhkaa
