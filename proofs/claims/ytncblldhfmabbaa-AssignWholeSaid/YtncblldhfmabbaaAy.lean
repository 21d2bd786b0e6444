/-
  AssignWhole: each partition that somebody wants is given to just one member, that wants it.
-/
import Derived.Test.YtncblldhfmabbaaAt
import Derived.Test.YtncblldhfmabbaaAv
import Derived.Test.YtncblldhfmabbaaAx
namespace Go.Proofs.Ytncblldhfmabbaa
open Go.ChangeShapes Go.WideShapes Go.ChangeAt Go.RowKit Fx

theorem stable_sub : Stable rSub := fun _ _ _ _ hk ⟨a, cap, h1, h2, h3⟩ => ⟨a, cap, h1, h2.keep0 stable_str hk, h3⟩
theorem stable_top : Stable rTop := fun _ _ _ _ _ h => h
set_option maxRecDepth 100000 in
set_option maxHeartbeats 2000000 in
theorem whole_any (w : World) (sa ta : Option Addr) (sc tc : Nat) (subs : List SubC) (tops : List TopC) (hs : SlAt 2 rSub w sa sc subs) (ht : SlAt 2 rTop w ta tc tops) :
    Calls Try.prog 4 #[.slice sa subs.length sc, .slice ta tops.length tc] w fun e w' => Same w e (.bool true) w' := by
  have HFW := Lib.hid (few_any w w sa ta sc tc subs tops hs ht (Below.refl _ _))
  have C8 := Lib.hid (fun (x : World) (h : K0 w x) => check14 w x sa ta sc tc subs tops hs ht h.below)
  have C9 := Lib.hid (fun (x : World) (h : K0 w x) => range9 w x sa ta sc tc subs tops hs ht h.below)
  have C11 := Lib.hid (fun (x : World) (h : K0 w x) => round11 w x sa ta sc tc subs tops hs ht h.below)
  have HC : Hid (chk subs tops = 0 → subs.length ≤ 20 ∧ tops.length ≤ 20 ∧ ∀ j (h : j < tops.length), 1 ≤ tops[j].parts ∧ tops[j].parts ≤ 16) := fun h => chk_ok h
  have CW := Lib.hid (fun (x : World) (h : K0 w x) (la : Option Addr) (lc : Nat) (l : List ShareC) (hl : SlAt 2 rShare x la lc l) (hc : chk subs tops = 0) (hq : WholeL subs tops l) =>
    whole16 x x sa ta la sc tc lc subs tops l (hs.keep0 stable_sub h) (ht.keep0 stable_top h) hl (Below.refl _ _) (chk_ok hc).1 (chk_ok hc).2.1 (chk_ok hc).2.2 hq)
  have HR := Lib.hid (fun (hc : chk subs tops = 0) => range_whole (subs := subs) (chk_names hc))
  have HO := Lib.hid (fun (hc : chk subs tops = 0) => round_whole (subs := subs) (chk_names hc))
  have HCC := Lib.hid (chk_cases subs tops)
  clear hs ht HC
  generalize subs.length = n1 at *
  generalize tops.length = n2 at *
  generalize rangeL subs tops = lr at *
  generalize roundL subs tops = lo at *
  generalize WholeL subs tops = WL at *
  generalize chk subs tops = er at *
  cases hw : fewB subs tops with
  | false =>
    rw [hw] at HFW
    go_enter Try.func4, Try.ntmps4
    go_wp2_with fail
    refine HFW.out.mono ?_
    rintro e w1 ⟨rfl, k1⟩
    go_wp2_with fail
    refine (live8 _).mono ?_
    rintro e w2 ⟨rfl, k2⟩
    go_wp2
    go_ret
    exact ⟨rfl, K0.tr k1 k2⟩
  | true =>
    rw [hw] at HFW
    have hcc := HCC.out
    rcases hcc with rfl | rfl
    · go_enter Try.func4, Try.ntmps4
      go_wp2_with fail
      refine HFW.out.mono ?_
      rintro e w1 ⟨rfl, k1⟩
      go_wp2_with fail
      refine (C8.out _ k1).mono ?_
      rintro e w2 ⟨rfl, k2⟩
      have t2 := K0.tr k1 k2
      clear k1 k2
      go_wp2_with fail
      refine (C9.out _ t2).mono ?_
      intro e w3 hq
      obtain ⟨a1, c1, rfl, s1, k3⟩ := hq.list
      have t3 := K0.tr t2 k3
      clear hq t2 k3
      go_wp2_with fail
      refine (C11.out _ t3).mono ?_
      intro e w4 hq
      obtain ⟨a2, c2, rfl, s2, k4⟩ := hq.list
      have t4 := K0.tr t3 k4
      have s1 := s1.keep0 stable_share k4
      clear hq t3
      have e1 : orNil 0 lr = lr := rfl
      have e2 : orNil 0 lo = lo := rfl
      rw [e1] at *
      rw [e2] at *
      have D1 := Lib.hid (CW.out w4 t4 a1 c1 lr s1 trivial (HR.out trivial))
      have D2 := Lib.hid (fun (x : World) (h : K0 w4 x) => CW.out x (K0.tr t4 h) a2 c2 lo (s2.keep0 stable_share h) trivial (HO.out trivial))
      have T4 := Lib.hid t4
      clear s1 s2 t4 k4 CW HR HO C8 C9 C11 HFW HCC
      generalize lr.length = m1 at *
      generalize lo.length = m2 at *
      go_wp2_with fail
      refine D1.out.mono ?_
      rintro e w5 ⟨rfl, k5⟩
      go_wp2_with fail
      refine (D2.out _ k5).mono ?_
      rintro e w6 ⟨rfl, k6⟩
      have t6 := K0.tr T4.out (K0.tr k5 k6)
      go_wp2_with fail
      refine (live8 _).mono ?_
      rintro e w7 ⟨rfl, k7⟩
      go_wp2
      go_ret
      exact ⟨by simp, K0.tr t6 k7⟩
    · go_enter Try.func4, Try.ntmps4
      go_wp2_with fail
      refine HFW.out.mono ?_
      rintro e w1 ⟨rfl, k1⟩
      go_wp2_with fail
      refine (C8.out _ k1).mono ?_
      rintro e w2 ⟨rfl, k2⟩
      have t2 := K0.tr k1 k2
      go_wp2_with fail
      refine (live8 _).mono ?_
      rintro e w3 ⟨rfl, k3⟩
      go_wp2
      go_ret
      exact ⟨rfl, K0.tr t2 k3⟩

theorem law4 : Law 4 := fun w sa ta sc tc subs tops hs ht => whole_any w sa ta sc tc subs tops hs ht
set_option maxRecDepth 100000 in
theorem whole_lifted (os : Os) (started : os.Started) (H : Type) (enc : TypeId × Value → H) :
    ReturnsInHanded {} Try.checked os 4 .any (Rows.assignWholeSpec.pre6 enc Try.prog Try.f4 Rows.assignWholeRow.domain false) (Rows.assignWholeSpec.post enc Try.prog Try.f4 false true false false) := by
  refine returnsInHanded_of_change (C := Try.checked) own started (by kernel_rfl) Try.func4
    (ChangeSpec.witness6 (enc := enc) (C := Try.checked) false ⟨#[], #[.slice none 0 0, .slice none 0 0], []⟩ 8 (by kernel_rfl) (by kernel_rfl) (by kernel_rfl) (by kernel_rfl)) ?_
  intro W base args ds gs before hval0 hW hcnd _
  have hval : ∀ (j : Nat) t v, Try.f4.params[j]? = some t → args[j]? = some v → Value.okWide Try.prog W .any base t v := hval0
  have hW' := hW
  obtain ⟨p, q, hA0, hV, rfl, hfz, hnd⟩ := hW
  have hA : DataW.TrodAll enc Try.prog W 0 (fun _ => true) true Try.f4.params.toList args.toList ds p := hA0
  rw [Try.params4] at hA hval
  obtain ⟨rfl, rfl⟩ := trodVars_none hV
  obtain ⟨⟨d1, d2, rfl⟩, hC⟩ := law_reads law4 hA hval
  clear hA0 hval0
  refine hC.mono fun e W' ⟨he, bel⟩ => ?_
  subst he
  exact ⟨_, rfl, _, _, _, [], _, [], hW', trodAll_mk1 (shut_bool Try.underlying4 _), by rw [Try.params4]; exact trodAll_below laidOut bel read2 hA, rfl, bel.frame _, fun h => by cases h⟩

theorem whole_over : Rows.assignWholeRow.holds Try.pinned (OpenSpec.ofChange Rows.assignWholeSpec) :=
  OpenClaim.holds_of_wide 4 Try.f4 rfl rfl rfl rfl rfl rfl rfl ⟨rfl, rfl, rfl, rfl, rfl⟩ rfl rfl rfl rfl rfl (by kernel_rfl) Try.func4 (by kernel_rfl)
    (of_decide_eq_true (by kernel_rfl)) (by unfold Func.isWrapper; first | (rw [if_pos (by decide +kernel)]; kernel_rfl) | (rw [if_neg (by decide +kernel)]; exact ⟨rfl, rfl⟩))
    (fun os started H enc _ => whole_lifted os started H enc)

/-- THE STATEMENT. -/
theorem whole_proved : Rows.AssignWholeSaid := whole_over
end Go.Proofs.Ytncblldhfmabbaa
