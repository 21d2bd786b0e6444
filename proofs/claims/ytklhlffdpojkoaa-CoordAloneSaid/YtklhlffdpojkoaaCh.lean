/-
  The law of nobody's commits, walked.
-/
import Derived.Test.YtklhlffdpojkoaaCg
namespace Go.Proofs.Ytklhlffdpojkoaa
open Go.RowKit Go.Shelf Fx

def sC : Nat → CoordC
  | 0 => newC 100 100
  | i + 1 => oneC (gA (i + 1))
theorem newC_ok (n : Nat) : COk n (newC 100 100) := fun s g e => by cases e
theorem sC_ok : ∀ i, i ≤ 10 → COk 900 (sC i)
  | 0, _ => newC_ok _
  | i + 1, h => oneC_ok ((gA_ok (i + 1) h).le (by omega))
theorem alone_join {w0 w : World} {cb k : Nat} (h : CSt w0 w cb (sC k)) (hk : k < 10) :
    Calls Try.prog 8 #[.pointer (some ⟨cb, 0, none⟩), .string gn, .int .i64 (-1), .slice none 0 0, .int .i64 1] w fun e w' => ∃ x y : Int, e = .returned (.tuple #[.agg #[.int .i64 k, .int .i64 x, .int .i64 y], .int .i64 0]) ∧ CSt w0 w' cb (sC (k + 1)) := by
  have hj := gA_join hk
  match k, h, hk, hj with
  | 0, h, hk, hj =>
    refine (cst_new_join h gn (-1) 1 _ [] (by kernel_rfl) (by decide) rfl (by simp [sC, newC]) ⟨by simp [sC, newC], by simp [sC, newC]⟩ (by simp) (by omega) (Out.nil _ _ _ _) hj.1).mono fun e w' hq => ?_
    obtain ⟨rfl, h2⟩ := hq
    exact ⟨_, _, by rw [show nextM (newG (sC 0).s (sC 0).r) (-1) = ((0 : Nat) : Int) from hj.2.1], h2⟩
  | k + 1, h, hk, hj =>
    refine (cst_found_nil h gn (-1) 1 (by kernel_rfl) (by decide) (oneC_get _) (n := 900) ((gA_ok (k + 1) (by omega)).le (by omega)) (by omega) hj.1).mono fun e w' hq => ?_
    obtain ⟨rfl, h2⟩ := hq
    refine ⟨_, _, by rw [show nextM (gA (k + 1)) (-1) = ((k + 1 : Nat) : Int) from hj.2.1], ?_⟩
    have := h2
    rw [show (⟨(sC (k + 1)).s, (sC (k + 1)).r, aput (sC (k + 1)).gs gn (joinG (gA (k + 1)) (-1) [] 1), (sC (k + 1)).off⟩ : CoordC) = oneC (gA (k + 2)) from oneC_put _ _] at this
    exact this
theorem alone_may {w0 w : World} {cb k : Nat} (h : CSt w0 w cb (sC (k + 1))) (hk : k < 10) :
    Calls Try.prog 7 #[.pointer (some ⟨cb, 0, none⟩), .string gn, .int .i64 (-1), .int .i64 (-1)] w fun e w' => e = .returned (.int .i64 11) ∧ CSt w0 w' cb (sC (k + 1)) := by
  have := cst_may h gn (-1) (-1) (sC_ok (k + 1) (by omega)) (by omega)
  rw [show cmayE (sC (k + 1)) gn (-1) (-1) = 11 from oneC_may (gA_join hk).2.2] at this
  exact this.mono fun e w' hq => ⟨hq.1, h.keep hq.2⟩
theorem alone_may2 {w0 w : World} {cb n k : Nat} (h : CSt w0 w cb (oneC (lA n k))) (hn : n ≤ 10) (hk : k < n) :
    Calls Try.prog 7 #[.pointer (some ⟨cb, 0, none⟩), .string gn, .int .i64 (-1), .int .i64 (-1)] w fun e w' => e = .returned (.int .i64 11) ∧ CSt w0 w' cb (oneC (lA n k)) := by
  have := cst_may h gn (-1) (-1) (oneC_ok (lA_ok hn k (by omega))) (by omega)
  rw [oneC_may (lA_leave (by omega) hk).2] at this
  exact this.mono fun e w' hq => ⟨hq.1, h.keep hq.2⟩
theorem alone_leave {w0 w : World} {cb n k : Nat} (h : CSt w0 w cb (oneC (lA n k))) (hn : n ≤ 10) (hk : k < n) :
    Calls Try.prog 9 #[.pointer (some ⟨cb, 0, none⟩), .string gn, .int .i64 k, .int .i64 2] w fun e w' => e = .returned (.int .i64 0) ∧ CSt w0 w' cb (oneC (lA n (k + 1))) := by
  obtain ⟨Y, h⟩ := h
  have := leave_at h gn k 2 (oneC_ok (lA_ok hn k (by omega))) (by omega)
  rw [oneC_leaveE, oneC_leave, (lA_leave (by omega) hk).1] at this
  exact this
theorem alone_end {w0 w : World} {cb n : Nat} (h : CSt w0 w cb (oneC (lA n n))) (hn : n ≤ 10) :
    Calls Try.prog 7 #[.pointer (some ⟨cb, 0, none⟩), .string gn, .int .i64 (-1), .int .i64 (-1)] w fun e w' => e = .returned (.int .i64 0) ∧ CSt w0 w' cb (oneC (lA n n)) := by
  have := cst_may h gn (-1) (-1) (oneC_ok (lA_ok hn n (by omega))) (by omega)
  rw [oneC_empty (lA_end (by omega))] at this
  exact this.mono fun e w' hq => ⟨hq.1, h.keep hq.2⟩
theorem alone_group {w0 w : World} {cb n : Nat} (h : CSt w0 w cb (oneC (lA n n))) (hn : n ≤ 10) :
    Calls Try.prog 10 #[.pointer (some ⟨cb, 0, none⟩), .string gn] w fun e w' => ∃ (x y z : Int) (a : Option Addr) (l c : Nat), e = .returned (.agg #[.int .i64 0, .int .i64 x, .int .i64 y, .int .i64 z, .slice a l c]) ∧ K0 w0 w' := by
  have hk := h.k0
  obtain ⟨Y, h⟩ := h
  refine (cgroup_some h gn (oneC_ok (lA_ok hn n (by omega))) (oneC_get _)).mono fun e w' hq => ?_
  obtain ⟨a, c, rfl, _, hk2⟩ := hq
  exact ⟨_, _, _, _, _, _, by rw [lA_end (by omega)], K0.tr hk hk2⟩
theorem alone_first {w0 w : World} {cb : Nat} (h : CSt w0 w cb (sC 0)) :
    Calls Try.prog 7 #[.pointer (some ⟨cb, 0, none⟩), .string gn, .int .i64 (-1), .int .i64 (-1)] w fun e w' => e = .returned (.int .i64 0) ∧ CSt w0 w' cb (sC 0) := by
  have := cst_may h gn (-1) (-1) (newC_ok 1) (by omega)
  rw [show cmayE (sC 0) gn (-1) (-1) = 0 by kernel_rfl] at this
  exact this.mono fun e w' hq => ⟨hq.1, h.keep hq.2⟩
set_option maxRecDepth 100000 in
set_option maxHeartbeats 4000000 in
theorem alone_any (n : Int) (w0 : World) : Calls Try.prog 3 #[.int .i64 n] w0 fun e w' => Same w0 e (.bool true) w' := by
  have vf0 := view_field0
  by_cases h1 : n < 1
  · go_enter Try.func3, Try.ntmps3
    go_wp2_with fail
    refine (clive_any _).mono ?_
    rintro e w2 ⟨rfl, k2⟩
    have HK2 := Lib.hid k2
    clear k2
    go_wp2
    go_ret
    exact ⟨rfl, HK2.out⟩
  · by_cases h2 : 10 < n
    · go_enter Try.func3, Try.ntmps3
      go_wp2_with fail
      refine (clive_any _).mono ?_
      rintro e w2 ⟨rfl, k2⟩
      have HK2 := Lib.hid k2
      clear k2
      go_wp2
      go_ret
      exact ⟨rfl, HK2.out⟩
    · obtain ⟨N, rfl⟩ : ∃ N : Nat, n = N := ⟨n.toNat, by omega⟩
      have HN : Hid (1 ≤ N ∧ N ≤ 10) := ⟨by omega, by omega⟩
      have H0 := Lib.hid (cnew_any 100 100 w0 (by omega) (by omega))
      go_enter Try.func3, Try.ntmps3
      go_wp2_with fail
      refine H0.out.mono ?_
      rintro e w1 ⟨cb, rfl, s1⟩
      have M1 := Lib.hid (alone_first s1)
      clear s1
      go_wp2_with fail
      refine M1.out.mono ?_
      rintro e w2 ⟨rfl, s2⟩
      have HS2 := Lib.hid s2
      clear s2 M1 H0
      go_wp2
      go_loopw [5] (fun i wr => ∃ k : Nat, i = .int .i64 k ∧ k ≤ N ∧ CSt w0 wr cb (sC k)) (fun i _ => N - (intOf i).toNat)
      case atStart => exact ⟨0, rfl, by omega, HS2.out⟩
      case round =>
        obtain ⟨k, rfl, hk, hs⟩ := hrel
        by_cases hlt : k < N
        · have hk10 : k < 10 := by have := HN.out; omega
          have J := Lib.hid (alone_join hs hk10)
          clear hs
          go_wp2_with fail
          refine J.out.mono ?_
          rintro e w3 ⟨x, y, rfl, s3⟩
          have s4 := s3.keep ((Keeps.refl (fun _ => False) w3).alloc (.cells #[.int .i64 k, .int .i64 x, .int .i64 y] 29))
          have M2 := Lib.hid (alone_may s4 hk10)
          have hne : ((k : Int) != (k : Int)) = false := by simp
          clear s3 s4
          go_wp2_with fail
          refine M2.out.mono ?_
          rintro e w4 ⟨rfl, s5⟩
          have HS5 := Lib.hid s5
          clear s5
          go_wp2
          go_roundw
          case rel => exact ⟨k + 1, by go_num, by omega, HS5.out⟩
          case measure => simp [intOf]; omega
        · obtain rfl : k = N := by omega
          have HSN : Hid (CSt w0 wr cb (oneC (lA k 0))) := by
            show CSt _ _ _ _
            match k, HN, hs with
            | 0, HN, _ => exact absurd HN.out.1 (by omega)
            | k + 1, _, hs => exact hs
          clear hs
          go_wp2
          go_loopw [8] (fun i wq => ∃ j : Nat, i = .int .i64 j ∧ j ≤ k ∧ CSt w0 wq cb (oneC (lA k j))) (fun i _ => k - (intOf i).toNat)
          case atStart => exact ⟨0, rfl, by omega, HSN.out⟩
          case round =>
            obtain ⟨wo, rfl⟩ : ∃ wo : World, wo = wr := ⟨_, rfl⟩
            obtain ⟨j, rfl, hj, hs⟩ := hrel
            by_cases hlt2 : j < k
            · have M3 := Lib.hid (alone_may2 hs HN.out.2 hlt2)
              clear hs
              go_wp2_with fail
              refine M3.out.mono ?_
              rintro e w5 ⟨rfl, s5⟩
              have L1 := Lib.hid (alone_leave s5 HN.out.2 hlt2)
              clear s5
              go_wp2_with fail
              refine L1.out.mono ?_
              rintro e w6 ⟨rfl, s6⟩
              have HS6 := Lib.hid s6
              clear s6
              go_wp2
              go_roundw
              case rel => exact ⟨j + 1, by go_num, by omega, HS6.out⟩
              case measure => simp [intOf]; omega
            · obtain rfl : j = k := by omega
              have M4 := Lib.hid (alone_end hs HN.out.2)
              clear hs
              go_wp2_with fail
              refine M4.out.mono ?_
              rintro e w5 ⟨rfl, s5⟩
              have G1 := Lib.hid (alone_group s5 HN.out.2)
              clear s5
              go_wp2_with fail
              refine G1.out.mono ?_
              rintro e w6 ⟨x, y, z, a, l, c, rfl, k6⟩
              have HK6 := Lib.hid k6
              clear k6
              go_wp2_with fail
              refine (clive_any _).mono ?_
              rintro e w7 ⟨rfl, k7⟩
              have HK7 := Lib.hid (K0.tr HK6.out k7)
              clear k7
              go_wp2
              go_ret
              exact ⟨rfl, HK7.out⟩
end Go.Proofs.Ytklhlffdpojkoaa
