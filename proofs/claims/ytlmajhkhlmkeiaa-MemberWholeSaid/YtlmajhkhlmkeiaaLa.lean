/-
  The few answers that each law of the package member asks for itself.
-/
import Derived.Test.YtlmajhkhlmkeiaaGu
namespace Go.Proofs.Ytlmajhkhlmkeiaa
open Go.RowKit Go.Shelf Fx

def mT : ByteArray := ⟨#[116]⟩
def lg1 : GroupC := joinG (newG 10 20) (-1) [mT] 1
def lg2 : GroupC := joinG lg1 (-1) [mT] 2
def lg3 : GroupC := beatG lg2 0 1 3
def lg4 : GroupC := joinG lg3 0 [mT] 3
def lg5 : GroupC := syncG lg4 0 2 [⟨mT, 3⟩] false 4
theorem le1 : joinE (newG 10 20) (-1) [mT] 1 = 0 := by kernel_rfl
theorem le1m : nextM (newG 10 20) (-1) = 0 := by kernel_rfl
theorem le1g : lg1.gen = 1 := by kernel_rfl
theorem le2 : joinE lg1 (-1) [mT] 2 = 0 := by kernel_rfl
theorem le2m : nextM lg1 (-1) = 1 := by kernel_rfl
theorem le3 : beatE lg2 0 1 3 = 13 := by kernel_rfl
theorem le4 : joinE lg3 0 [mT] 3 = 0 := by kernel_rfl
theorem le5 : syncE lg4 0 2 [⟨mT, 3⟩] 4 = 0 := by kernel_rfl
theorem le5p : (partsOf lg5 0).length = 2 := by kernel_rfl
theorem le6 : lg5.phase = 3 := by kernel_rfl
theorem le7 : knowsE lg5 1 1 = 10 := by kernel_rfl
theorem mT_le : mT.size ≤ maxLen := by unfold maxLen; decide
theorem wf3 : (Lit.int .i64 3).wf = true := by decide
theorem rng (m : Int) (h : m = -1 ∨ m = 0 ∨ m = 1) : -9223372036854775808 ≤ m ∧ m ≤ 9223372036854775807 := by omega
theorem lo0 : Ok 1000 (newG 10 20) := Ok.new (by omega) (by omega)
theorem lo1 : Ok 900 lg1 := ((lo0.le (m := 901) (by omega)).join (rng _ (.inl rfl)) (by simp) le1)
theorem lo2 : Ok 800 lg2 := ((lo1.le (m := 801) (by omega)).join (rng _ (.inl rfl)) (by simp) le2)
theorem lo3 : Ok 800 lg3 := lo2.beat _ _ _
theorem lo4 : Ok 700 lg4 := ((lo3.le (m := 701) (by omega)).join (rng _ (.inr (.inl rfl))) (by simp) le4)
theorem lo5 : Ok 700 lg5 := lo4.sync _ _ _ _ _
set_option maxRecDepth 100000 in
set_option maxHeartbeats 2000000 in
theorem live_any (w : World) : Calls Try.prog 9 #[] w fun e w' => Same w e (.bool true) w' := by
  have H0 := Lib.hid (st_new (w := w) 10 20 (by omega) (by omega))
  have HB := Lib.hid (fun (x : World) => new_bad 0 20 x (.inl (by omega)))
  have vf0 := view_field0
  have vf1 := view_field1
  go_enter Try.func9, Try.ntmps9
  go_wp2_with fail
  refine H0.out.mono ?_
  rintro e w1 ⟨rfl, h1⟩
  go_wp2_with fail
  refine (HB.out w1).mono ?_
  rintro e w2 ⟨rfl, k2⟩
  have h2 := h1.keep k2
  have J1 := st_join1 (n := 900) (-1) 1 mT h2 (lo0.le (by omega)) (rng _ (.inl rfl)) mT_le
  rw [le1, if_pos rfl, if_pos rfl, le1m] at J1
  have J1 := Lib.hid J1
  clear h1 h2 k2
  go_wp2_with fail
  refine J1.out.mono ?_
  rintro e w3 ⟨rfl, h3⟩
  have V1 := Lib.hid (st_view h3 (show Ok 900 lg1 from lo1))
  have hg1 := le1g
  clear h3
  go_wp2_with fail
  refine V1.out.mono ?_
  rintro e w4 ⟨⟨va, vc, rfl, _, _⟩, h4⟩
  have hge : (joinG (newG 10 20) (-1) [mT] 1).gen = 1 := hg1
  rw [hge]
  have J2 := st_join1 (n := 800) (-1) 2 mT h4 (show Ok 801 lg1 from lo1.le (by omega)) (rng _ (.inl rfl)) mT_le
  rw [show joinE (joinG (newG 10 20) (-1) [mT] 1) (-1) [mT] 2 = 0 from le2, if_pos rfl, if_pos rfl, show nextM (joinG (newG 10 20) (-1) [mT] 1) (-1) = 1 from le2m] at J2
  have J2 := Lib.hid J2
  clear h4
  generalize (joinG (newG 10 20) (-1) [mT] 1).phase = ph1
  generalize (joinG (newG 10 20) (-1) [mT] 1).next = nx1
  generalize (joinG (newG 10 20) (-1) [mT] 1).til = tl1
  generalize (joinG (newG 10 20) (-1) [mT] 1).ones.length = ln1
  go_wp2_with fail
  refine J2.out.mono ?_
  rintro e w5 ⟨rfl, h5⟩
  have B1 := st_beat (n := 800) 0 1 3 h5 (show Ok 800 lg2 from lo2) (rng _ (.inr (.inl rfl)))
  rw [show beatE (joinG (joinG (newG 10 20) (-1) [mT] 1) (-1) [mT] 2) 0 1 3 = 13 from le3] at B1
  have B1 := Lib.hid B1
  clear h5
  go_wp2_with fail
  refine B1.out.mono ?_
  rintro e w6 ⟨rfl, h6⟩
  have J3 := st_join1 (n := 700) 0 3 mT h6 (show Ok 701 lg3 from lo3.le (by omega)) (rng _ (.inr (.inl rfl))) mT_le
  rw [show joinE (beatG (joinG (joinG (newG 10 20) (-1) [mT] 1) (-1) [mT] 2) 0 1 3) 0 [mT] 3 = 0 from le4, if_pos rfl, if_pos rfl] at J3
  have J3 := Lib.hid J3
  clear h6
  go_wp2_with fail
  refine J3.out.mono ?_
  rintro e w7 ⟨rfl, h7⟩
  have S1 := st_sync1 (n := 700) 0 2 4 mT 3 false h7 (show Ok 700 lg4 from lo4) (rng _ (.inr (.inl rfl))) wf3
  rw [show syncE (joinG (beatG (joinG (joinG (newG 10 20) (-1) [mT] 1) (-1) [mT] 2) 0 1 3) 0 [mT] 3) 0 2 [⟨mT, 3⟩] 4 = 0 from le5] at S1
  have S1 := Lib.hid S1
  clear h7
  go_wp2_with fail
  refine S1.out.mono ?_
  rintro e w8 ⟨pv, rfl, h8, hp, _⟩
  obtain ⟨pa, pc, rfl⟩ := hp trivial
  have hpl : (partsOf (syncG (joinG (beatG (joinG (joinG (newG 10 20) (-1) [mT] 1) (-1) [mT] 2) 0 1 3) 0 [mT] 3) 0 2 [⟨mT, 3⟩] false 4) 0).length = 2 := le5p
  rw [hpl]
  have V2 := Lib.hid (st_view h8 (show Ok 700 lg5 from lo5))
  clear h8 hp hpl
  go_wp2_with fail
  refine V2.out.mono ?_
  rintro e w9 ⟨⟨va2, vc2, rfl, _, _⟩, h9⟩
  have hph : (syncG (joinG (beatG (joinG (joinG (newG 10 20) (-1) [mT] 1) (-1) [mT] 2) 0 1 3) 0 [mT] 3) 0 2 [⟨mT, 3⟩] false 4).phase = 3 := le6
  rw [hph]
  have K1 := st_knows (n := 700) 1 1 h9 (show Ok 700 lg5 from lo5) (rng _ (.inr (.inr rfl)))
  rw [show knowsE (syncG (joinG (beatG (joinG (joinG (newG 10 20) (-1) [mT] 1) (-1) [mT] 2) 0 1 3) 0 [mT] 3) 0 2 [⟨mT, 3⟩] false 4) 1 1 = 10 from le7] at K1
  have K1 := Lib.hid K1
  clear h9 hph
  generalize (syncG (joinG (beatG (joinG (joinG (newG 10 20) (-1) [mT] 1) (-1) [mT] 2) 0 1 3) 0 [mT] 3) 0 2 [⟨mT, 3⟩] false 4) = g5 at *
  go_wp2_with fail
  refine K1.out.mono ?_
  rintro e w10 ⟨rfl, h10⟩
  have HF := Lib.hid h10.k0
  clear h10
  go_wp2
  go_ret
  exact ⟨rfl, HF.out⟩
end Go.Proofs.Ytlmajhkhlmkeiaa
