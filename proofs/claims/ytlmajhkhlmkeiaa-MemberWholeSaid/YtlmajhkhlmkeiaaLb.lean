/-
  MemberLate: the walk.
-/
import Derived.Test.YtlmajhkhlmkeiaaLa
namespace Go.Proofs.Ytlmajhkhlmkeiaa
open Go.RowKit Go.Shelf Fx

def ltG (r : Int) : GroupC := ⟨1000, r, 1, 1, 2, 6 + r, [⟨0, [], 1005, false, []⟩, ⟨1, [], 1006, true, []⟩]⟩
def ltE (r : Int) : GroupC := ⟨1000, r, 2, 2, 2, 5 + r + r, [⟨0, [], 5 + r + 1000, true, []⟩, ⟨1, [], 1006, true, []⟩]⟩
def ltL (r : Int) : GroupC := ⟨1000, r, 2, 2, 2, 6 + r + r, [⟨1, [], 1006, true, []⟩]⟩
theorem late1 (r : Int) : joinE (newG 1000 r) (-1) [] 5 = 0 := by kernel_rfl
theorem late2 (r : Int) : joinE (joinG (newG 1000 r) (-1) [] 5) (-1) [] 6 = 0 := by kernel_rfl
theorem late2g (r : Int) : joinG (joinG (newG 1000 r) (-1) [] 5) (-1) [] 6 = ltG r := by kernel_rfl
theorem late4g (r : Int) : joinG (ltG r) 0 [] (5 + r) = ltE r := by
  simp [joinG, finG, setG, setO, startG, addG, nextM, ltG, closeG, filG, enterG, ltE]
section
variable {r : Int} (h : 1 ≤ r ∧ r ≤ 100)
include h
theorem late_time (k : Int) (hk : 0 ≤ k ∧ k ≤ 100) : timeOk (k + r) = true := by
  unfold timeOk
  simp
  omega
theorem late_none (k : Int) (hk : 0 ≤ k ∧ k ≤ 100) : dropG (ltG r) (k + r) (fun o => decide (o.til ≤ k + r)) = ltG r := by
  have d1 : ¬ (1005 : Int) ≤ k + r := by omega
  have d2 : ¬ (1006 : Int) ≤ k + r := by omega
  have e : filG (ltG r) (fun o => decide (o.til ≤ k + r)) = ltG r := by simp [filG, ltG, d1, d2]
  unfold dropG
  rw [e, if_pos rfl]
theorem late3 : tickG (ltG r) (5 + r) = ltG r := by
  unfold tickG
  rw [if_pos (late_time h 5 (by omega)), late_none h 5 (by omega), if_pos (by show 5 + r < 6 + r; omega)]
theorem late4 : joinE (ltG r) 0 [] (5 + r) = 0 := by
  have t := late_time h 5 (by omega)
  have c : chk [⟨0, []⟩] [] = 0 := by kernel_rfl
  simp [joinE, joinBad, t, c, hasM, ltG]
theorem late5 : tickG (ltG r) (6 + r) = ltL r := by
  unfold tickG
  rw [if_pos (late_time h 6 (by omega)), late_none h 6 (by omega), if_neg (by show ¬ 6 + r < 6 + r; omega), if_pos (show (ltG r).phase = 1 from rfl)]
  simp [closeG, filG, ltG, enterG, ltL]
theorem late6 : beatE (ltL r) 0 2 (7 + r) = 11 := by
  unfold beatE
  rw [if_pos (late_time h 7 (by omega))]
  rfl
end
/-- The first member shown. -/
theorem SeenPost.first {w w' : World} {g : GroupC} {a : Option Addr} {c : Nat} (h : ViewAt w' w.heap.size (.slice a g.ones.length c) g.ones) {o : OneC} {l : List OneC} (e : g.ones = o :: l) : ∃ r, a = some ⟨r, 0, none⟩ ∧ w'.cell? ⟨r, 0, none⟩ = some (.int .i64 o.member) := by
  obtain ⟨C, e1, h2, _⟩ := h
  have hl : C.length = g.ones.length := by rw [← e1]; simp
  have hp : 0 < C.length := by rw [hl, e]; simp
  rcases h2.2 with ⟨h3, h4⟩ | ⟨r, cap, cur, h3, _⟩
  · omega
  · simp only [Value.slice.injEq] at h3
    obtain ⟨rfl, h4, rfl⟩ := h3
    rw [h4] at h2
    refine ⟨r, rfl, ?_⟩
    have h5 := h2.cellAt 0 (by omega)
    have h6 := flatMap_get oneEnc 5 oneEnc_len C 0 0 hp (by omega)
    rw [Nat.zero_mul, Nat.add_zero] at h6
    rw [h5, h6]
    have h7 : C[0].core = o := by
      have : (C.map OneV.core)[0]'(by simpa using hp) = o := by simp only [e1, e, List.getElem_cons_zero]
      simpa using this
    rw [← h7]
    rfl
set_option maxRecDepth 100000 in
set_option maxHeartbeats 4000000 in
theorem late_any (r early : Int) (w : World) : Calls Try.prog 4 #[.int .i64 r, .int .i64 early] w fun e w' => Same w e (.bool true) w' := by
  by_cases h1 : r < 1
  · go_enter Try.func4, Try.ntmps4
    go_wp2_with fail
    refine (live_any _).mono ?_
    rintro e w2 ⟨rfl, k2⟩
    go_wp2
    go_ret
    exact ⟨rfl, k2⟩
  · by_cases h2 : 100 < r
    · go_enter Try.func4, Try.ntmps4
      go_wp2_with fail
      refine (live_any _).mono ?_
      rintro e w2 ⟨rfl, k2⟩
      go_wp2
      go_ret
      exact ⟨rfl, k2⟩
    · have hr : 1 ≤ r ∧ r ≤ 100 := by omega
      have H0 := Lib.hid (st_new (w := w) 1000 r (by omega) (by omega))
      have HO0 : Hid (Ok 1000 (newG 1000 r)) := Ok.new (by omega) (by omega)
      go_enter Try.func4, Try.ntmps4
      go_wp2_with fail
      refine H0.out.mono ?_
      rintro e w1 ⟨rfl, s1⟩
      have J1 := st_join (n := 900) (-1) 5 (.slice none 0 0) [] s1 (HO0.out.le (by omega)) (rng _ (.inl rfl)) (Out.nil _ _ _ _)
      rw [late1, if_pos rfl, if_pos rfl] at J1
      have J1 := Lib.hid J1
      have HO1 : Hid (Ok 900 (joinG (newG 1000 r) (-1) [] 5)) := (HO0.out.le (m := 901) (by omega)).join (rng _ (.inl rfl)) (by simp) (late1 r)
      clear s1
      go_wp2_with fail
      refine J1.out.mono ?_
      rintro e w2 ⟨rfl, s2⟩
      have J2 := st_join (n := 800) (-1) 6 (.slice none 0 0) [] s2 (HO1.out.le (by omega)) (rng _ (.inl rfl)) (Out.nil _ _ _ _)
      rw [late2, if_pos rfl, if_pos rfl, late2g] at J2
      have J2 := Lib.hid J2
      have HO2 : Hid (Ok 800 (ltG r)) := by have := (HO1.out.le (m := 801) (by omega)).join (m := -1) (now := 6) (topics := []) (rng _ (.inl rfl)) (by simp) (late2 r); rw [late2g] at this; exact this
      clear s2
      go_wp2_with fail
      refine J2.out.mono ?_
      rintro e w3 ⟨rfl, s3⟩
      have T1 := st_tick (n := 700) (5 + r) s3 (HO2.out.le (by omega))
      rw [late3 hr] at T1
      have T1 := Lib.hid T1
      clear s3
      go_wp2_with fail
      refine T1.out.mono ?_
      rintro e w4 ⟨rfl, s4⟩
      have V1 := Lib.hid (st_view s4 HO2.out)
      clear s4
      go_wp2_with fail
      refine V1.out.mono ?_
      rintro e w5 ⟨⟨va, vc, rfl, _, _⟩, s5⟩
      have e1 : (ltG r).phase = 1 := rfl
      have e2 : (ltG r).gen = 1 := rfl
      have e3 : (ltG r).ones.length = 2 := rfl
      have e4 : (ltG r).next = 2 := rfl
      have e5 : (ltG r).til = 6 + r := rfl
      rw [e1, e2, e3, e4, e5]
      have s6 := s5.keep ((Keeps.refl (fun _ => False) w5).alloc (.cells #[.int .i64 1, .int .i64 1, .int .i64 2, .int .i64 (6 + r), .slice va 2 vc] 35))
      clear e1 e2 e3 e4 e5 s5
      have J3 := st_join (n := 700) 0 (5 + r) (.slice none 0 0) [] s6 (HO2.out.le (by omega)) (rng _ (.inr (.inl rfl))) (Out.nil _ _ _ _)
      rw [late4 hr, if_pos rfl, if_pos rfl, late4g r] at J3
      have J3 := Lib.hid J3
      have HO3 : Hid (Ok 700 (ltE r)) := by have := (HO2.out.le (m := 701) (by omega)).join (m := 0) (now := 5 + r) (topics := []) (rng _ (.inr (.inl rfl))) (by simp) (late4 hr); rw [late4g r] at this; exact this
      have T2 := st_tick (n := 600) (6 + r) s6 (HO2.out.le (by omega))
      rw [late5 hr] at T2
      have T2 := Lib.hid T2
      have HO4 : Hid (Ok 600 (ltL r)) := by have := (HO2.out.le (m := 602) (by omega)).tick (6 + r); rw [late5 hr] at this; exact this
      clear s6
      by_cases he : early.tmod 2 = 0
      · go_wp2_with fail
        refine J3.out.mono ?_
        rintro e w7 ⟨rfl, s7⟩
        have V2 := Lib.hid (st_view s7 HO3.out)
        clear s7
        go_wp2_with fail
        refine V2.out.mono ?_
        rintro e w8 ⟨⟨vb, vd, rfl, _, _⟩, s8⟩
        have e1 : (ltE r).phase = 2 := rfl
        have e2 : (ltE r).gen = 2 := rfl
        have e3 : (ltE r).ones.length = 2 := rfl
        have e4 : (ltE r).next = 2 := rfl
        have e5 : (ltE r).til = 5 + r + r := rfl
        rw [e1, e2, e3, e4, e5]
        have HF := Lib.hid s8.k0
        clear e1 e2 e3 e4 e5 s8
        go_wp2_with fail
        refine (live_any _).mono ?_
        rintro e w9 ⟨rfl, k9⟩
        have HK9 := Lib.hid (K0.tr (HF.out.alloc _) k9)
        clear k9
        go_wp2
        go_ret
        exact ⟨rfl, HK9.out⟩
      · go_wp2_with fail
        refine T2.out.mono ?_
        rintro e w7 ⟨rfl, s7⟩
        have V2 := Lib.hid (st_view s7 HO4.out)
        clear s7
        go_wp2_with fail
        refine V2.out.mono ?_
        rintro e w8 ⟨⟨vb, vd, rfl, hva, _⟩, s8⟩
        obtain ⟨rb, rfl, hc⟩ := SeenPost.first hva (o := ⟨1, [], 1006, true, []⟩) (l := []) rfl
        have e1 : (ltL r).phase = 2 := rfl
        have e2 : (ltL r).gen = 2 := rfl
        have e3 : (ltL r).ones.length = 1 := rfl
        have e4 : (ltL r).next = 2 := rfl
        have e5 : (ltL r).til = 6 + r + r := rfl
        rw [e1, e2, e3, e4, e5]
        have hcl := cell_block1 hc
        have s9 := s8.keep ((Keeps.refl (fun _ => False) w8).alloc (.cells #[.int .i64 2, .int .i64 2, .int .i64 2, .int .i64 (6 + r + r), .slice (some ⟨rb, 0, none⟩) 1 vd] 35))
        have B1 := st_beat (n := 500) 0 2 (7 + r) s9 (HO4.out.le (by omega)) (rng _ (.inr (.inl rfl)))
        rw [late6 hr] at B1
        have B1 := Lib.hid B1
        clear e1 e2 e3 e4 e5 s8 s9 hva
        go_wp2_with fail
        refine B1.out.mono ?_
        rintro e w10 ⟨rfl, s10⟩
        have HF := Lib.hid s10.k0
        clear s10
        go_wp2_with fail
        refine (live_any _).mono ?_
        rintro e w11 ⟨rfl, k11⟩
        have HK9 := Lib.hid (K0.tr HF.out k11)
        clear k11
        go_wp2
        go_ret
        exact ⟨rfl, HK9.out⟩
end Go.Proofs.Ytlmajhkhlmkeiaa
