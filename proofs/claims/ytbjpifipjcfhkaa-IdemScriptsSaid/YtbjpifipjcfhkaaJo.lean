/-
  IdemParses, walked.
-/
import Derived.Test.YtbjpifipjcfhkaaJn
namespace Go.Proofs.Ytbjpifipjcfhkaa
open Go.RowKit Fx

theorem SimI.self {R : List (Int × HeardC)} (h : SortI R) : SimI R R := ⟨h.kd, fun _ => rfl, h⟩
set_option maxRecDepth 100000 in
set_option maxHeartbeats 8000000 in
theorem parses_any (s : ByteArray) (w : World) (hs : s.size ≤ 9223372036854775807) :
    Calls Try.prog 4 #[.string s] w fun e w' => Same w e (.bool true) w' := by
  by_cases g0 : 3000 < (s.size : Int)
  · go_enter Try.func4, Try.ntmps4
    go_wp2_with fail
    refine (live_any _).mono ?_
    rintro e w2 ⟨rfl, k2⟩
    go_wp2
    go_ret
    exact ⟨rfl, k2⟩
  go_enter Try.func4, Try.ntmps4
  go_wp2_with fail
  refine (parse_any s w hs).mono ?_
  intro e w1 hp
  rcases hp with ⟨hne, rfl, hk⟩ | ⟨hz, pb, rfl, hst⟩
  · have HNE := Lib.hid hne
    have HK := Lib.hid hk
    clear hk hne
    go_wp2_with fail
    refine (rparse_any s w1 hs).mono ?_
    intro e w2 hq
    rcases hq with ⟨_, rfl, hk2⟩ | ⟨hz, _⟩
    · have HK2 := Lib.hid (K0.tr HK.out hk2)
      clear hk2
      generalize pzE s = x
      have i1 : (x != x) = false := by simp
      go_wp2_with fail
      refine (live_any _).mono ?_
      rintro e w3 ⟨rfl, k3⟩
      have HK3 := Lib.hid k3
      clear k3
      go_wp2
      go_ret
      exact ⟨rfl, K0.tr HK2.out HK3.out⟩
    · exact absurd hz HNE.out
  · have HZ := Lib.hid hz
    have HST := Lib.hid hst
    clear hz hst
    go_wp2_with fail
    refine (rparse_any s w1 hs).mono ?_
    intro e w2 hq
    rcases hq with ⟨hne, _⟩ | ⟨_, b, F, rfl, hR, hF, hk2⟩
    · exact absurd HZ.out hne
    obtain ⟨g1, g2, g3, g4, g5⟩ := parse_goodI HZ.out
    rw [g1] at HST
    have HS2 := Lib.hid (HST.out.keep hk2)
    have HSM := Lib.hid (SimI.self g2)
    have HWF := Lib.hid g3
    have HPR := Lib.hid g4
    have HLN := Lib.hid g5
    have HR := Lib.hid hR
    obtain ⟨mb, L, hpa⟩ := HS2.out
    have HPA := Lib.hid hpa
    clear g1 g2 g3 g4 g5 hR hF hk2 hpa
    generalize (pzF s).l = R at HPA HSM HWF HPR HLN HR
    go_wp2_with fail
    refine (print_any HPA.out HSM.out HWF.out HLN.out).mono ?_
    rintro e w3 ⟨rfl, hk3⟩
    have HR3 := Lib.hid (HR.out.keep hk3 (fun _ _ e => e))
    have HK3 := Lib.hid (K0.tr HPA.out.k0 hk3)
    rw [HPR.out]
    clear hk3
    have hss : (s.toList == s.toList) = true := beq_self_eq_true _
    go_wp2_with fail
    refine (rprint_any HR3.out HWF.out HSM.out.ord HLN.out).mono ?_
    rintro e w4 ⟨rfl, hk4⟩
    have HK4 := Lib.hid (K0.tr HK3.out hk4)
    rw [HPR.out]
    clear hk4
    go_wp2_with fail
    refine (live_any _).mono ?_
    rintro e w7 ⟨rfl, k7⟩
    have HK7 := Lib.hid (K0.tr HK4.out k7)
    clear k7
    go_wp2
    go_ret
    exact ⟨rfl, HK7.out⟩
end Go.Proofs.Ytbjpifipjcfhkaa
