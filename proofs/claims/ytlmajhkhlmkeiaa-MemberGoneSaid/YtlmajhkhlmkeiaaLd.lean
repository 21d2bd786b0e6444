/-
  MemberGone: the walk.
-/
import Derived.Test.YtlmajhkhlmkeiaaLb
namespace Go.Proofs.Ytlmajhkhlmkeiaa
open Go.RowKit Go.Shelf Fx

def goG (s t : Int) : GroupC := ⟨s, 100000, 3, 1, 1, 0, [⟨0, [], t, true, []⟩]⟩
def goE (s : Int) : GroupC := ⟨s, 100000, 0, 1, 1, 0, []⟩
theorem gone1 (s : Int) : joinE (newG s 100000) (-1) [] 0 = 0 := by kernel_rfl
theorem gone2 (s : Int) : syncE (joinG (newG s 100000) (-1) [] 0) 0 1 [] 0 = 0 := by kernel_rfl
theorem gone3 (s : Int) : syncG (joinG (newG s 100000) (-1) [] 0) 0 1 [] false 0 = goG s (0 + s) := by kernel_rfl
theorem goOk {s : Int} (hs : 2 ≤ s ∧ s ≤ 100) (t : Int) : Ok 1000 (goG s t) := by
  refine ⟨⟨fun i j hi hj hij => ?_, fun i hi => ?_, by simp [goG], ⟨by show 1 ≤ s; omega, by show s ≤ 100000; omega⟩, ⟨by show (1 : Int) ≤ 100000; omega, by show (100000 : Int) ≤ 100000; omega⟩, ⟨by show (0 : Int) ≤ 1; omega, by show (1 : Int) ≤ _; omega⟩, ⟨by show (0 : Int) ≤ 1; omega, by show (1 : Int) ≤ _; omega⟩⟩, fun e => by simp [goG] at e, fun o ho => ?_, by show (1 : Int) + 1000 ≤ _; omega, by show (1 : Int) + 1000 ≤ _; omega⟩
  · simp [goG] at hi hj
    omega
  · simp [goG] at hi
    subst hi
    simp [goG]
  · simp [goG] at ho
    subst ho
    simp
section
variable {s now t : Int} (hn : timeOk now = true)
include hn
theorem goStay (h : now < t) : tickG (goG s t) now = goG s t := by
  have d : ¬ t ≤ now := by omega
  have e : filG (goG s t) (fun o => decide (o.til ≤ now)) = goG s t := by simp [filG, goG, d]
  have e2 : dropG (goG s t) now (fun o => decide (o.til ≤ now)) = goG s t := by
    unfold dropG
    rw [e, if_pos rfl]
  have hp := (time_yes hn).1
  unfold tickG
  rw [if_pos hn, e2, if_neg (show ¬ now < (goG s t).til by show ¬ now < 0; omega), if_neg (show ¬ (goG s t).phase = 1 by show ¬ (3 : Int) = 1; omega), if_neg (show ¬ (goG s t).phase = 2 by show ¬ (3 : Int) = 2; omega)]
theorem goAway (h : t ≤ now) : tickG (goG s t) now = goE s := by
  have e : filG (goG s t) (fun o => decide (o.til ≤ now)) = ⟨s, 100000, 3, 1, 1, 0, []⟩ := by simp [filG, goG, h]
  have e2 : dropG (goG s t) now (fun o => decide (o.til ≤ now)) = goE s := by
    unfold dropG
    rw [e, if_neg (show ¬ ([] : List OneC).length = (goG s t).ones.length by simp [goG]), if_pos (.inr rfl)]
    rfl
  have hp := (time_yes hn).1
  unfold tickG
  rw [if_pos hn, e2, if_neg (show ¬ now < (goE s).til by show ¬ now < 0; omega), if_neg (show ¬ (goE s).phase = 1 by show ¬ (0 : Int) = 1; omega), if_neg (show ¬ (goE s).phase = 2 by show ¬ (0 : Int) = 2; omega)]
theorem goBeat : beatE (goG s t) 0 1 now = 0 ∧ beatG (goG s t) 0 1 now = goG s (now + s) := by
  have k : knownE (goG s t) 0 1 = 0 := rfl
  refine ⟨?_, ?_⟩
  · unfold beatE
    rw [if_pos hn, if_pos k]
    rfl
  · unfold beatG
    rw [if_pos hn, if_pos k]
    rfl
end
theorem time_in {n : Int} (h : 0 ≤ n ∧ n ≤ 1000) : timeOk n = true := by
  unfold timeOk
  simp
  omega
set_option maxRecDepth 100000 in
set_option maxHeartbeats 4000000 in
theorem gone_any (s : Int) (w : World) : Calls Try.prog 5 #[.int .i64 s] w fun e w' => Same w e (.bool true) w' := by
  by_cases h1 : s < 2
  · go_enter Try.func5, Try.ntmps5
    go_wp2_with fail
    refine (live_any _).mono ?_
    rintro e w2 ⟨rfl, k2⟩
    go_wp2
    go_ret
    exact ⟨rfl, k2⟩
  · by_cases h2 : 100 < s
    · go_enter Try.func5, Try.ntmps5
      go_wp2_with fail
      refine (live_any _).mono ?_
      rintro e w2 ⟨rfl, k2⟩
      go_wp2
      go_ret
      exact ⟨rfl, k2⟩
    · have hs : 2 ≤ s ∧ s ≤ 100 := by omega
      have H0 := Lib.hid (st_new (w := w) s 100000 (by omega) (by omega))
      have HO0 : Hid (Ok 1000 (newG s 100000)) := Ok.new (by omega) (by omega)
      have vf4 : ∀ (a b c d : Int) (x : Option Addr) (n k : Nat) (w : World), (Instr.field 35 (.agg #[.int .i64 a, .int .i64 b, .int .i64 c, .int .i64 d, .slice x n k]) 4).run Try.prog w = .ok (.slice x n k) w := fun a b c d x n k w => by kernel_rfl
      go_enter Try.func5, Try.ntmps5
      go_wp2_with fail
      refine H0.out.mono ?_
      rintro e w1 ⟨rfl, s1⟩
      have J1 := st_join (n := 900) (-1) 0 (.slice none 0 0) [] s1 (HO0.out.le (by omega)) (rng _ (.inl rfl)) (Out.nil _ _ _ _)
      rw [gone1, if_pos rfl, if_pos rfl] at J1
      have J1 := Lib.hid J1
      have HO1 : Hid (Ok 900 (joinG (newG s 100000) (-1) [] 0)) := (HO0.out.le (m := 901) (by omega)).join (rng _ (.inl rfl)) (by simp) (gone1 s)
      clear s1
      go_wp2_with fail
      refine J1.out.mono ?_
      rintro e w2 ⟨rfl, s2⟩
      have S1 := st_sync (n := 900) 0 1 0 (.slice none 0 0) [] false s2 HO1.out (rng _ (.inr (.inl rfl))) (Out.nil _ _ _ _)
      rw [gone2, gone3] at S1
      have S1 := Lib.hid S1
      clear s2
      go_wp2_with fail
      refine S1.out.mono ?_
      rintro e w3 ⟨pv, rfl, s3, _, _⟩
      have hst : ∃ t, t = (1 : Int) - 1 + s ∧ St w w3 w.heap.size (goG s t) := ⟨0 + s, by omega, s3⟩
      clear s3
      go_wp2
      go_loopw [5] (fun i wr => ∃ (k : Nat) (t : Int), i = .int .i64 k ∧ 1 ≤ k ∧ (k : Int) ≤ 3 * s ∧ t = (k : Int) - 1 + s ∧ St w wr w.heap.size (goG s t)) (fun i _ => (3 * s).toNat - (intOf i).toNat)
      case atStart =>
        obtain ⟨t, ht, h3⟩ := hst
        exact ⟨1, t, by go_num, by omega, by omega, by omega, h3⟩
      case round =>
        clear hst
        obtain ⟨k, t, rfl, hk1, hk2, ht, hs4⟩ := hrel
        by_cases hlt : (k : Int) < 3 * s
        · have htm : timeOk (k : Int) = true := time_in (by omega)
          have T1 := st_tick (n := 900) (k : Int) hs4 ((goOk hs t).le (by omega))
          rw [goStay htm (by omega)] at T1
          have T1 := Lib.hid T1
          have HTM := Lib.hid htm
          clear hs4 htm
          go_wp2_with fail
          refine T1.out.mono ?_
          rintro e w5 ⟨rfl, s5⟩
          have B1 := st_beat (n := 1000) 0 1 (k : Int) s5 (goOk hs t) (rng _ (.inr (.inl rfl)))
          rw [(goBeat HTM.out).1, (goBeat HTM.out).2] at B1
          have B1 := Lib.hid B1
          clear s5
          go_wp2_with fail
          refine B1.out.mono ?_
          rintro e w6 ⟨rfl, s6⟩
          have HS6 := Lib.hid s6
          clear s6
          go_wp2
          go_roundw
          case rel => exact ⟨k + 1, k + s, by go_num, by omega, by omega, by omega, HS6.out⟩
          case measure => simp [intOf]; omega
        · have hke : (k : Int) = 3 * s := by omega
          have T1 := st_tick (n := 900) (3 * s - 1 + s - 1) hs4 ((goOk hs t).le (by omega))
          rw [goStay (time_in (by omega)) (by omega)] at T1
          have T1 := Lib.hid T1
          have HT2 := Lib.hid (goAway (s := s) (time_in (n := 3 * s - 1 + s) (by omega)) (show t ≤ 3 * s - 1 + s by omega))
          clear hs4
          go_wp2_with fail
          refine T1.out.mono ?_
          rintro e w5 ⟨rfl, s5⟩
          have V1 := Lib.hid (st_view s5 (goOk hs t))
          clear s5
          go_wp2_with fail
          refine V1.out.mono ?_
          rintro e w6 ⟨⟨va, vc, rfl, _, _⟩, s6⟩
          have e1 : (goG s t).phase = 3 := rfl
          have e2 : (goG s t).gen = 1 := rfl
          have e3 : (goG s t).ones.length = 1 := rfl
          have e4 : (goG s t).next = 1 := rfl
          have e5 : (goG s t).til = 0 := rfl
          rw [e1, e2, e3, e4, e5]
          have T2 := st_tick (n := 900) (3 * s - 1 + s) s6 ((goOk hs t).le (by omega))
          rw [HT2.out] at T2
          have HOE := (goOk hs t).le (m := 902) (by omega) |>.tick (3 * s - 1 + s)
          rw [HT2.out] at HOE
          have HOE := Lib.hid HOE
          have T2 := Lib.hid T2
          clear s6 e1 e2 e3 e4 e5
          go_wp2_with fail
          refine T2.out.mono ?_
          rintro e w7 ⟨rfl, s7⟩
          have V2 := Lib.hid (st_view s7 HOE.out)
          clear s7
          go_wp2_with fail
          refine V2.out.mono ?_
          rintro e w8 ⟨⟨vb, vd, rfl, _, _⟩, s8⟩
          have e1 : (goE s).phase = 0 := rfl
          have e2 : (goE s).gen = 1 := rfl
          have e3 : (goE s).ones.length = 0 := rfl
          have e4 : (goE s).next = 1 := rfl
          have e5 : (goE s).til = 0 := rfl
          rw [e1, e2, e3, e4, e5]
          have HF := Lib.hid s8.k0
          clear s8 e1 e2 e3 e4 e5
          go_wp2_with fail
          refine (live_any _).mono ?_
          rintro e w9 ⟨rfl, k9⟩
          have HK9 := Lib.hid (K0.tr (HF.out.alloc _) k9)
          clear k9
          go_wp2
          go_ret
          exact ⟨rfl, HK9.out⟩
end Go.Proofs.Ytlmajhkhlmkeiaa
