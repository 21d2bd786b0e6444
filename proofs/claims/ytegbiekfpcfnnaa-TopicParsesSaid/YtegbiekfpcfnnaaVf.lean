/-
  Text and Take: the program's and the document's.
-/
import Derived.Test.YtegbiekfpcfnnaaVe
namespace Go.Proofs.Ytegbiekfpcfnnaa
open Go.RowKit Fx

theorem vget_ok {s : ByteArray} {a : Int} (h : vgetE s a = 0) : 0 ≤ a ∧ a < vgetT s a ∧ vgetT s a ≤ s.size ∧ -9223372036854775808 ≤ vgetN s a ∧ vgetN s a ≤ 9223372036854775807 := by
  unfold vgetE at h
  split at h
  · cases h
  · rename_i hb
    unfold vgetT vgetN
    rw [if_neg hb, if_neg hb]
    obtain ⟨h1, h2, h3⟩ := decE_ok h
    unfold decT decN
    rw [if_pos h, if_pos h]
    have hl := tailN_len s a.toNat
    have hv := dz_in (canon_value (tailN_byte s a.toNat) h1 h2 h3)
    omega
theorem vget_bad {s : ByteArray} {a : Int} (h : ¬ vgetE s a = 0) : vgetN s a = 0 ∧ vgetT s a = 0 := by
  unfold vgetE at h
  unfold vgetN vgetT
  split at h
  · rename_i hb; rw [if_pos hb, if_pos hb]; exact ⟨rfl, rfl⟩
  · rename_i hb
    rw [if_neg hb, if_neg hb]
    unfold decN decT
    rw [if_neg h, if_neg h]
    exact ⟨rfl, rfl⟩
def tkE (s : ByteArray) (a m : Int) : Int := if vgetE s a = 0 then (if vgetN s a < 0 ∨ m < vgetN s a then 3 else if s.size - vgetT s a < vgetN s a then 2 else 0) else vgetE s a
def tkT (s : ByteArray) (a m : Int) : Int := if tkE s a m = 0 then vgetT s a + vgetN s a else 0
def tkS (s : ByteArray) (a m : Int) : ByteArray := if tkE s a m = 0 then s.extract (vgetT s a).toNat (vgetT s a + vgetN s a).toNat else ⟨#[]⟩
theorem tk_ok {s : ByteArray} {a m : Int} (h : tkE s a m = 0) : 0 ≤ a ∧ a < tkT s a m ∧ tkT s a m ≤ s.size ∧ vgetE s a = 0 ∧ 0 ≤ vgetN s a ∧ vgetN s a ≤ m := by
  unfold tkT
  rw [if_pos h]
  unfold tkE at h
  split at h
  · rename_i h1
    have := vget_ok h1
    split at h
    · cases h
    · split at h
      · cases h
      · omega
  · rename_i h1; exact absurd h h1
theorem putB_size {n : Int} (h : -9223372036854775808 ≤ n ∧ n ≤ 9223372036854775807) : (putB n).size ≤ 10 := by
  unfold putB bytesN
  rw [strOfNums_size, List.length_map]
  exact enc_len (zz_lt h)
def TakePost (w : World) (s : ByteArray) (a m : Int) (e : Ending) (w' : World) : Prop := e = .returned (.tuple #[.string (tkS s a m), .int .i64 (tkT s a m), .int .i64 (tkE s a m)]) ∧ K0 w w'
set_option maxRecDepth 100000 in
set_option maxHeartbeats 4000000 in
theorem take_any (s : ByteArray) (a m : Int) (w : World) (hs : s.size ≤ 9223372036854775807) (ha : a ≤ 9223372036854775807) :
    Calls Try.prog 36 #[.string s, .int .i64 a, .int .i64 m] w (TakePost w s a m) := by
  have HG := Lib.hid (vget_any s a w hs ha)
  have HP : Hid (∀ r t x w', tkS s a m = r → tkT s a m = t → tkE s a m = x → K0 w w' → TakePost w s a m (.returned (.tuple #[.string r, .int .i64 t, .int .i64 x])) w') := by
    show ∀ _ _ _ _, _ → _ → _ → _ → _
    rintro r t x w' rfl rfl rfl hk
    exact ⟨rfl, hk⟩
  have HB : Hid (∀ x w', ¬ x = 0 → tkE s a m = x → K0 w w' → TakePost w s a m (.returned (.tuple #[.string ⟨#[]⟩, .int .i64 0, .int .i64 x])) w') := by
    show ∀ _ _, _ → _ → _ → _
    intro x w' hx hx2 hk
    exact HP.out _ _ _ w' (by unfold tkS; rw [hx2, if_neg hx]) (by unfold tkT; rw [hx2, if_neg hx]) hx2 hk
  unfold GetPost at HG
  by_cases he : vgetE s a = 0
  · have hok := vget_ok he
    have hE : tkE s a m = if vgetN s a < 0 ∨ m < vgetN s a then 3 else if s.size - vgetT s a < vgetN s a then 2 else 0 := by unfold tkE; rw [if_pos he]
    have hS : tkE s a m = 0 → tkS s a m = s.extract (vgetT s a).toNat (vgetT s a + vgetN s a).toNat := fun h => by unfold tkS; rw [if_pos h]
    have hT : tkE s a m = 0 → tkT s a m = vgetT s a + vgetN s a := fun h => by unfold tkT; rw [if_pos h]
    rw [he] at HG
    generalize vgetN s a = n at HG hok hE hS hT
    generalize vgetT s a = t at HG hok hE hS hT
    obtain ⟨p, rfl⟩ : ∃ p : Nat, t = p := ⟨t.toNat, by omega⟩
    obtain ⟨k1, k2, k3, k4, k5⟩ := hok
    clear he
    by_cases h1 : n < 0
    · have HX := Lib.hid (HB.out 3)
      have HE : Hid (tkE s a m = 3) := by show _ = _; rw [hE, if_pos (.inl h1)]
      clear hE hS hT
      go_enter Try.func36, Try.ntmps36
      go_wp2_with fail
      refine HG.out.mono ?_
      rintro e w1 ⟨rfl, rfl⟩
      go_wp2
      go_ret3
      exact HX.out _ (by decide) HE.out (Keeps.refl _ _)
    · by_cases h2 : m < n
      · have HX := Lib.hid (HB.out 3)
        have HE : Hid (tkE s a m = 3) := by show _ = _; rw [hE, if_pos (.inr h2)]
        clear hE hS hT
        go_enter Try.func36, Try.ntmps36
        go_wp2_with fail
        refine HG.out.mono ?_
        rintro e w1 ⟨rfl, rfl⟩
        go_wp2
        go_ret3
        exact HX.out _ (by decide) HE.out (Keeps.refl _ _)
      · rw [if_neg (by omega)] at hE
        by_cases h3 : (s.size : Int) - p < n
        · have HX := Lib.hid (HB.out 2)
          have HE : Hid (tkE s a m = 2) := by show _ = _; rw [hE, if_pos h3]
          clear hE hS hT
          go_enter Try.func36, Try.ntmps36
          go_wp2_with fail
          refine HG.out.mono ?_
          rintro e w1 ⟨rfl, rfl⟩
          go_wp2
          go_ret3
          exact HX.out _ (by decide) HE.out (Keeps.refl _ _)
        · rw [if_neg h3] at hE
          obtain ⟨q, rfl⟩ : ∃ q : Nat, n = q := ⟨n.toNat, by omega⟩
          have HE := Lib.hid hE
          have HS := Lib.hid (hS hE)
          have HT := Lib.hid (hT hE)
          have g1 : (p : Int) + q ≤ s.size := by omega
          have g2 : (p : Int) ≤ p + q := by omega
          clear hE hS hT
          go_enter Try.func36, Try.ntmps36
          go_wp2_with fail
          refine HG.out.mono ?_
          rintro e w1 ⟨rfl, rfl⟩
          go_wp2
          go_ret3
          exact HP.out _ _ _ _ (by rw [HS.out]; congr 1) HT.out HE.out (Keeps.refl _ _)
  · have HE : Hid (tkE s a m = vgetE s a) := by show _ = _; unfold tkE; rw [if_neg he]
    have q0 : (vgetE s a == 0) = false := by rw [beq_eq_false_iff_ne]; exact he
    have HNE := Lib.hid he
    generalize vgetE s a = x at HG HE q0 HNE
    clear he
    go_enter Try.func36, Try.ntmps36
    go_wp2_with fail
    refine HG.out.mono ?_
    rintro e w1 ⟨rfl, rfl⟩
    go_wp2
    go_ret3
    exact HB.out _ _ HNE.out HE.out (Keeps.refl _ _)
set_option maxRecDepth 100000 in
set_option maxHeartbeats 4000000 in
theorem rtake_any (s : ByteArray) (a m : Int) (w : World) (hs : s.size ≤ 9223372036854775807) (ha : a ≤ 9223372036854775807) :
    Calls Try.prog 38 #[.string s, .int .i64 a, .int .i64 m] w (TakePost w s a m) := by
  have HG := Lib.hid (rvget_any s a w hs ha)
  have HP : Hid (∀ r t x w', tkS s a m = r → tkT s a m = t → tkE s a m = x → K0 w w' → TakePost w s a m (.returned (.tuple #[.string r, .int .i64 t, .int .i64 x])) w') := by
    show ∀ _ _ _ _, _ → _ → _ → _ → _
    rintro r t x w' rfl rfl rfl hk
    exact ⟨rfl, hk⟩
  have HB : Hid (∀ x w', ¬ x = 0 → tkE s a m = x → K0 w w' → TakePost w s a m (.returned (.tuple #[.string ⟨#[]⟩, .int .i64 0, .int .i64 x])) w') := by
    show ∀ _ _, _ → _ → _ → _
    intro x w' hx hx2 hk
    exact HP.out _ _ _ w' (by unfold tkS; rw [hx2, if_neg hx]) (by unfold tkT; rw [hx2, if_neg hx]) hx2 hk
  unfold RGetPost at HG
  by_cases he : vgetE s a = 0
  · have hok := vget_ok he
    have hE : tkE s a m = if vgetN s a < 0 ∨ m < vgetN s a then 3 else if s.size - vgetT s a < vgetN s a then 2 else 0 := by unfold tkE; rw [if_pos he]
    have hS : tkE s a m = 0 → tkS s a m = s.extract (vgetT s a).toNat (vgetT s a + vgetN s a).toNat := fun h => by unfold tkS; rw [if_pos h]
    have hT : tkE s a m = 0 → tkT s a m = vgetT s a + vgetN s a := fun h => by unfold tkT; rw [if_pos h]
    rw [he] at HG
    generalize vgetN s a = n at HG hok hE hS hT
    generalize vgetT s a = t at HG hok hE hS hT
    obtain ⟨p, rfl⟩ : ∃ p : Nat, t = p := ⟨t.toNat, by omega⟩
    obtain ⟨k1, k2, k3, k4, k5⟩ := hok
    clear he
    by_cases h1 : n < 0
    · have HX := Lib.hid (HB.out 3)
      have HE : Hid (tkE s a m = 3) := by show _ = _; rw [hE, if_pos (.inl h1)]
      clear hE hS hT
      go_enter Try.func38, Try.ntmps38
      go_wp2_with fail
      refine HG.out.mono ?_
      rintro e w1 ⟨rfl, hk⟩
      go_wp2
      go_ret3
      exact HX.out _ (by decide) HE.out (by first | exact hk | (rw [hk]; exact Keeps.refl _ _))
    · by_cases h2 : m < n
      · have HX := Lib.hid (HB.out 3)
        have HE : Hid (tkE s a m = 3) := by show _ = _; rw [hE, if_pos (.inr h2)]
        clear hE hS hT
        go_enter Try.func38, Try.ntmps38
        go_wp2_with fail
        refine HG.out.mono ?_
        rintro e w1 ⟨rfl, hk⟩
        go_wp2
        go_ret3
        exact HX.out _ (by decide) HE.out (by first | exact hk | (rw [hk]; exact Keeps.refl _ _))
      · rw [if_neg (by omega)] at hE
        by_cases h3 : (s.size : Int) - p < n
        · have HX := Lib.hid (HB.out 2)
          have HE : Hid (tkE s a m = 2) := by show _ = _; rw [hE, if_pos h3]
          clear hE hS hT
          go_enter Try.func38, Try.ntmps38
          go_wp2_with fail
          refine HG.out.mono ?_
          rintro e w1 ⟨rfl, hk⟩
          go_wp2
          go_ret3
          exact HX.out _ (by decide) HE.out (by first | exact hk | (rw [hk]; exact Keeps.refl _ _))
        · rw [if_neg h3] at hE
          obtain ⟨q, rfl⟩ : ∃ q : Nat, n = q := ⟨n.toNat, by omega⟩
          have HE := Lib.hid hE
          have HS := Lib.hid (hS hE)
          have HT := Lib.hid (hT hE)
          have g1 : (p : Int) + q ≤ s.size := by omega
          have g2 : (p : Int) ≤ p + q := by omega
          clear hE hS hT
          go_enter Try.func38, Try.ntmps38
          go_wp2_with fail
          refine HG.out.mono ?_
          rintro e w1 ⟨rfl, hk⟩
          go_wp2
          go_ret3
          exact HP.out _ _ _ _ (by rw [HS.out]; congr 1) HT.out HE.out (by first | exact hk | (rw [hk]; exact Keeps.refl _ _))
  · have HE : Hid (tkE s a m = vgetE s a) := by show _ = _; unfold tkE; rw [if_neg he]
    have q0 : (vgetE s a == 0) = false := by rw [beq_eq_false_iff_ne]; exact he
    have HNE := Lib.hid he
    generalize vgetE s a = x at HG HE q0 HNE
    clear he
    go_enter Try.func38, Try.ntmps38
    go_wp2_with fail
    refine HG.out.mono ?_
    rintro e w1 ⟨rfl, hk⟩
    go_wp2
    go_ret3
    exact HB.out _ _ HNE.out HE.out (by first | exact hk | (rw [hk]; exact Keeps.refl _ _))
set_option maxRecDepth 100000 in
set_option maxHeartbeats 1000000 in
theorem text_any (s : ByteArray) (w : World) (hs : s.size ≤ 1000000000000) : Calls Try.prog 28 #[.string s] w fun e w' => e = .returned (.string (putB s.size ++ s)) ∧ K0 w w' := by
  have HP : Hid (∀ wx, Calls Try.prog 27 #[.int .i64 s.size] wx fun e w' => e = .returned (.string (putB s.size)) ∧ K0 wx w') := by
    show ∀ _, _
    intro wx
    exact vput_any s.size wx (by omega) (by omega)
  have hcc : ¬ 9223372036854775807 < (putB (s.size : Int)).size + s.size := by
    have := putB_size (n := (s.size : Int)) ⟨by omega, by omega⟩
    omega
  go_enter Try.func28, Try.ntmps28
  go_wp2_with fail
  refine (HP.out _).mono ?_
  rintro e w1 ⟨rfl, hk⟩
  have HK := Lib.hid hk
  clear hk
  go_wp2
  go_ret
  exact ⟨rfl, HK.out⟩
set_option maxRecDepth 100000 in
set_option maxHeartbeats 1000000 in
theorem rtext_any (s : ByteArray) (w : World) (hs : s.size ≤ 1000000000000) : Calls Try.prog 30 #[.string s] w fun e w' => e = .returned (.string (putB s.size ++ s)) ∧ K0 w w' := by
  have HP : Hid (∀ wx, Calls Try.prog 29 #[.int .i64 s.size] wx fun e w' => e = .returned (.string (putB s.size)) ∧ K0 wx w') := by
    show ∀ _, _
    intro wx
    exact rvput_any s.size wx (by omega)
  have hcc : ¬ 9223372036854775807 < (putB (s.size : Int)).size + s.size := by
    have := putB_size (n := (s.size : Int)) ⟨by omega, by omega⟩
    omega
  go_enter Try.func30, Try.ntmps30
  go_wp2_with fail
  refine (HP.out _).mono ?_
  rintro e w1 ⟨rfl, hk⟩
  have HK := Lib.hid hk
  clear hk
  go_wp2
  go_ret
  exact ⟨rfl, HK.out⟩
end Go.Proofs.Ytegbiekfpcfnnaa
