/-
  CoordMany, walked.
-/
import Derived.Test.YtklhlffdpojkoaaPe
namespace Go.Proofs.Ytklhlffdpojkoaa
open Go.RowKit Go.Shelf Fx

set_option maxRecDepth 100000 in
set_option maxHeartbeats 4000000 in
theorem many_any (n : Int) (w0 : World) : Calls Try.prog 4 #[.int .i64 n] w0 fun e w' => Same w0 e (.bool true) w' := by
  by_cases h1 : n < 0
  · go_enter Try.func4, Try.ntmps4
    go_wp2_with fail
    refine (clive_any _).mono ?_
    rintro e w2 ⟨rfl, k2⟩
    have HK2 := Lib.hid k2
    clear k2
    go_wp2
    go_ret
    exact ⟨rfl, HK2.out⟩
  · by_cases h2 : 30 < n
    · go_enter Try.func4, Try.ntmps4
      go_wp2_with fail
      refine (clive_any _).mono ?_
      rintro e w2 ⟨rfl, k2⟩
      have HK2 := Lib.hid k2
      clear k2
      go_wp2
      go_ret
      exact ⟨rfl, HK2.out⟩
    · obtain ⟨N, rfl⟩ : ∃ N : Nat, n = N := ⟨n.toNat, by omega⟩
      have HN : Hid (N ≤ 30) := by show N ≤ 30; omega
      have H0 := Lib.hid (cnew_any 10 10 w0 (by omega) (by omega))
      go_enter Try.func4, Try.ntmps4
      go_wp2_with fail
      refine H0.out.mono ?_
      rintro e w1 ⟨cb, rfl, s1⟩
      have HS1 : Hid (MSt w0 w1 cb 0) := s1
      clear s1 H0
      go_wp2
      go_loopw [5] (fun i wr => ∃ k : Nat, i = .int .i64 k ∧ k ≤ N ∧ MSt w0 wr cb k) (fun i _ => N - (intOf i).toNat)
      case atStart => exact ⟨0, rfl, by omega, HS1.out⟩
      case round =>
        obtain ⟨k, rfl, hk, hs⟩ := hrel
        by_cases hlt : k < N
        · have hk30 : k < 30 := by have := HN.out; omega
          have HB := Lib.hid (bytes_nm (w := wr.alloc (.cells #[.int .u8 103, .int .u8 k] 5)) (b := wr.heap.size) (k := k) (t := 5) (heap_new _ _ _ rfl))
          have J := Lib.hid (mst_join (CSt.keep hs ((Keeps.refl (fun _ => False) wr).alloc (.cells #[.int .u8 103, .int .u8 k] 5))) hk30)
          clear hs
          have hcv := HB.out
          have hk8 : (k : Int) % 256 = k := by omega
          go_wp2_with fail
          refine J.out.mono ?_
          rintro e w3 ⟨x, y, z, rfl, s3⟩
          have HS3 : Hid (MSt w0 (w3.alloc (.cells #[.int .i64 x, .int .i64 y, .int .i64 z] 29)) cb (k + 1)) := CSt.keep s3 ((Keeps.refl (fun _ => False) w3).alloc _)
          clear s3 hcv hk8
          by_cases h20 : k < 20
          · rw [if_pos h20]
            have h20i : (k : Int) < 20 := by omega
            go_wp2
            go_roundw
            case rel => exact ⟨k + 1, by go_num, by omega, HS3.out⟩
            case measure => simp [intOf]; omega
          · rw [if_neg h20]
            have h20i : ¬ (k : Int) < 20 := by omega
            go_wp2
            go_roundw
            case rel => exact ⟨k + 1, by go_num, by omega, HS3.out⟩
            case measure => simp [intOf]; omega
        · obtain rfl : k = N := by omega
          have M := Lib.hid (many_names hs (by omega))
          clear hs
          go_wp2_with fail
          refine M.out.mono ?_
          rintro e w3 ⟨a, c, rfl, k3⟩
          have HK3 := Lib.hid k3
          clear k3
          go_wp2_with fail
          refine (clive_any _).mono ?_
          rintro e w4 ⟨rfl, k4⟩
          have HK4 := Lib.hid (K0.tr HK3.out k4)
          clear k4
          go_wp2
          go_ret
          exact ⟨rfl, HK4.out⟩
end Go.Proofs.Ytklhlffdpojkoaa
