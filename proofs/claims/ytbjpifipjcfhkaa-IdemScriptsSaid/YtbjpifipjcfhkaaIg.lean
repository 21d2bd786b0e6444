/-
  varint.Put at small numbers.
-/
import Derived.Test.YtbjpifipjcfhkaaIf
import Derived.Laws.BytesArg
import Derived.OwnWalk
import Derived.WalkMore
namespace Go.Proofs.Ytbjpifipjcfhkaa
open Go.RowKit Fx

def nb (n : Nat) : ByteArray := strOfNums [(n : Int)]
theorem infoU8 : (Try.prog.info? 5).map (fun i => (i.zero, i.size, i.bytes)) = some (some (.int .u8 0), 1, 1) := by kernel_rfl
theorem conv_one (n : Nat) (wx : World) (g cap : Nat) (hc : wx.cell? ⟨g, 0, none⟩ = some (.int .u8 n)) : (convert 94 9 (.slice (some ⟨g, 0, none⟩) 1 cap)).run Try.prog wx = .ok (.string (nb n)) wx :=
  run_convert_bytes_arg wx 94 5 Try.underlying94 Try.underlying5 g 0 1 cap [(n : Int)] rfl (fun j hj => by
    obtain rfl : j = 0 := by omega
    exact hc) 9 Try.underlying9
set_option maxRecDepth 100000 in
set_option maxHeartbeats 1000000 in
theorem put_0 (w : World) : Calls Try.prog 32 #[.int .i64 0] w fun e w' => Same w e (.string (nb 0)) w' := by
  have hown : w.ownsRow 0 5 1 (.slice none 0 0) 0 [] := World.ownsRow_nil _ _ _ _
  have hx : bits BinOp.xor IntKind.u64 0 0 = 0 := by kernel_rfl
  have hcv : ∀ (wx : World) (g cap : Nat), wx.cell? ⟨g, 0, none⟩ = some (.int .u8 0) → (convert 94 9 (.slice (some ⟨g, 0, none⟩) 1 cap)).run Try.prog wx = .ok (.string (nb 0)) wx := fun wx g cap hc => conv_one 0 wx g cap hc
  go_enter Try.func32, Try.ntmps32
  go_wp2
  go_step3
  go_wp2
  go_step3
  go_wp2_with (at_builtin; refine wpList_app1 rfl rfl Try.underlying94 infoU8 rfl (by decide) rfl (hown.alloc _) rfl (heap_new _ _ _ rfl) rfl rfl (by omega) (Nat.zero_le _) ?_; intro g1 cap1 w1 hA; have hc1 : w1.cell? ⟨g1, 0, none⟩ = some (.int .u8 0) := hA.own.cellAt 0 (by decide); have hc2 := hcv w1 g1 cap1 hc1)
  have HF : Hid (K0 w w1) := by
    have hg : w.grownBy w1 none := grown_alloc hA.grown
    exact ⟨hg.os, hg.tape, hg.output, hg.size, fun i hi _ => hg.block i hi (by simp)⟩
  clear hA
  rw [Exit.noGoto_ret]
  go_ret
  exact ⟨rfl, HF.out⟩
set_option maxRecDepth 100000 in
set_option maxHeartbeats 1000000 in
theorem put_1 (w : World) : Calls Try.prog 32 #[.int .i64 1] w fun e w' => Same w e (.string (nb 2)) w' := by
  have hown : w.ownsRow 0 5 1 (.slice none 0 0) 0 [] := World.ownsRow_nil _ _ _ _
  have hx : bits BinOp.xor IntKind.u64 2 0 = 2 := by kernel_rfl
  have hcv : ∀ (wx : World) (g cap : Nat), wx.cell? ⟨g, 0, none⟩ = some (.int .u8 2) → (convert 94 9 (.slice (some ⟨g, 0, none⟩) 1 cap)).run Try.prog wx = .ok (.string (nb 2)) wx := fun wx g cap hc => conv_one 2 wx g cap hc
  go_enter Try.func32, Try.ntmps32
  go_wp2
  go_step3
  go_wp2
  go_step3
  go_wp2_with (at_builtin; refine wpList_app1 rfl rfl Try.underlying94 infoU8 rfl (by decide) rfl (hown.alloc _) rfl (heap_new _ _ _ rfl) rfl rfl (by omega) (Nat.zero_le _) ?_; intro g1 cap1 w1 hA; have hc1 : w1.cell? ⟨g1, 0, none⟩ = some (.int .u8 2) := hA.own.cellAt 0 (by decide); have hc2 := hcv w1 g1 cap1 hc1)
  have HF : Hid (K0 w w1) := by
    have hg : w.grownBy w1 none := grown_alloc hA.grown
    exact ⟨hg.os, hg.tape, hg.output, hg.size, fun i hi _ => hg.block i hi (by simp)⟩
  clear hA
  rw [Exit.noGoto_ret]
  go_ret
  exact ⟨rfl, HF.out⟩
set_option maxRecDepth 100000 in
set_option maxHeartbeats 1000000 in
theorem put_2 (w : World) : Calls Try.prog 32 #[.int .i64 2] w fun e w' => Same w e (.string (nb 4)) w' := by
  have hown : w.ownsRow 0 5 1 (.slice none 0 0) 0 [] := World.ownsRow_nil _ _ _ _
  have hx : bits BinOp.xor IntKind.u64 4 0 = 4 := by kernel_rfl
  have hcv : ∀ (wx : World) (g cap : Nat), wx.cell? ⟨g, 0, none⟩ = some (.int .u8 4) → (convert 94 9 (.slice (some ⟨g, 0, none⟩) 1 cap)).run Try.prog wx = .ok (.string (nb 4)) wx := fun wx g cap hc => conv_one 4 wx g cap hc
  go_enter Try.func32, Try.ntmps32
  go_wp2
  go_step3
  go_wp2
  go_step3
  go_wp2_with (at_builtin; refine wpList_app1 rfl rfl Try.underlying94 infoU8 rfl (by decide) rfl (hown.alloc _) rfl (heap_new _ _ _ rfl) rfl rfl (by omega) (Nat.zero_le _) ?_; intro g1 cap1 w1 hA; have hc1 : w1.cell? ⟨g1, 0, none⟩ = some (.int .u8 4) := hA.own.cellAt 0 (by decide); have hc2 := hcv w1 g1 cap1 hc1)
  have HF : Hid (K0 w w1) := by
    have hg : w.grownBy w1 none := grown_alloc hA.grown
    exact ⟨hg.os, hg.tape, hg.output, hg.size, fun i hi _ => hg.block i hi (by simp)⟩
  clear hA
  rw [Exit.noGoto_ret]
  go_ret
  exact ⟨rfl, HF.out⟩
set_option maxRecDepth 100000 in
set_option maxHeartbeats 1000000 in
theorem put_7 (w : World) : Calls Try.prog 32 #[.int .i64 7] w fun e w' => Same w e (.string (nb 14)) w' := by
  have hown : w.ownsRow 0 5 1 (.slice none 0 0) 0 [] := World.ownsRow_nil _ _ _ _
  have hx : bits BinOp.xor IntKind.u64 14 0 = 14 := by kernel_rfl
  have hcv : ∀ (wx : World) (g cap : Nat), wx.cell? ⟨g, 0, none⟩ = some (.int .u8 14) → (convert 94 9 (.slice (some ⟨g, 0, none⟩) 1 cap)).run Try.prog wx = .ok (.string (nb 14)) wx := fun wx g cap hc => conv_one 14 wx g cap hc
  go_enter Try.func32, Try.ntmps32
  go_wp2
  go_step3
  go_wp2
  go_step3
  go_wp2_with (at_builtin; refine wpList_app1 rfl rfl Try.underlying94 infoU8 rfl (by decide) rfl (hown.alloc _) rfl (heap_new _ _ _ rfl) rfl rfl (by omega) (Nat.zero_le _) ?_; intro g1 cap1 w1 hA; have hc1 : w1.cell? ⟨g1, 0, none⟩ = some (.int .u8 14) := hA.own.cellAt 0 (by decide); have hc2 := hcv w1 g1 cap1 hc1)
  have HF : Hid (K0 w w1) := by
    have hg : w.grownBy w1 none := grown_alloc hA.grown
    exact ⟨hg.os, hg.tape, hg.output, hg.size, fun i hi _ => hg.block i hi (by simp)⟩
  clear hA
  rw [Exit.noGoto_ret]
  go_ret
  exact ⟨rfl, HF.out⟩
set_option maxRecDepth 100000 in
set_option maxHeartbeats 1000000 in
theorem put_40 (w : World) : Calls Try.prog 32 #[.int .i64 40] w fun e w' => Same w e (.string (nb 80)) w' := by
  have hown : w.ownsRow 0 5 1 (.slice none 0 0) 0 [] := World.ownsRow_nil _ _ _ _
  have hx : bits BinOp.xor IntKind.u64 80 0 = 80 := by kernel_rfl
  have hcv : ∀ (wx : World) (g cap : Nat), wx.cell? ⟨g, 0, none⟩ = some (.int .u8 80) → (convert 94 9 (.slice (some ⟨g, 0, none⟩) 1 cap)).run Try.prog wx = .ok (.string (nb 80)) wx := fun wx g cap hc => conv_one 80 wx g cap hc
  go_enter Try.func32, Try.ntmps32
  go_wp2
  go_step3
  go_wp2
  go_step3
  go_wp2_with (at_builtin; refine wpList_app1 rfl rfl Try.underlying94 infoU8 rfl (by decide) rfl (hown.alloc _) rfl (heap_new _ _ _ rfl) rfl rfl (by omega) (Nat.zero_le _) ?_; intro g1 cap1 w1 hA; have hc1 : w1.cell? ⟨g1, 0, none⟩ = some (.int .u8 80) := hA.own.cellAt 0 (by decide); have hc2 := hcv w1 g1 cap1 hc1)
  have HF : Hid (K0 w w1) := by
    have hg : w.grownBy w1 none := grown_alloc hA.grown
    exact ⟨hg.os, hg.tape, hg.output, hg.size, fun i hi _ => hg.block i hi (by simp)⟩
  clear hA
  rw [Exit.noGoto_ret]
  go_ret
  exact ⟨rfl, HF.out⟩
set_option maxRecDepth 100000 in
set_option maxHeartbeats 1000000 in
theorem put_42 (w : World) : Calls Try.prog 32 #[.int .i64 42] w fun e w' => Same w e (.string (nb 84)) w' := by
  have hown : w.ownsRow 0 5 1 (.slice none 0 0) 0 [] := World.ownsRow_nil _ _ _ _
  have hx : bits BinOp.xor IntKind.u64 84 0 = 84 := by kernel_rfl
  have hcv : ∀ (wx : World) (g cap : Nat), wx.cell? ⟨g, 0, none⟩ = some (.int .u8 84) → (convert 94 9 (.slice (some ⟨g, 0, none⟩) 1 cap)).run Try.prog wx = .ok (.string (nb 84)) wx := fun wx g cap hc => conv_one 84 wx g cap hc
  go_enter Try.func32, Try.ntmps32
  go_wp2
  go_step3
  go_wp2
  go_step3
  go_wp2_with (at_builtin; refine wpList_app1 rfl rfl Try.underlying94 infoU8 rfl (by decide) rfl (hown.alloc _) rfl (heap_new _ _ _ rfl) rfl rfl (by omega) (Nat.zero_le _) ?_; intro g1 cap1 w1 hA; have hc1 : w1.cell? ⟨g1, 0, none⟩ = some (.int .u8 84) := hA.own.cellAt 0 (by decide); have hc2 := hcv w1 g1 cap1 hc1)
  have HF : Hid (K0 w w1) := by
    have hg : w.grownBy w1 none := grown_alloc hA.grown
    exact ⟨hg.os, hg.tape, hg.output, hg.size, fun i hi _ => hg.block i hi (by simp)⟩
  clear hA
  rw [Exit.noGoto_ret]
  go_ret
  exact ⟨rfl, HF.out⟩
end Go.Proofs.Ytbjpifipjcfhkaa
