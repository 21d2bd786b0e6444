/-
  TopicParses, walked.
-/
import Derived.Test.YtegbiekfpcfnnaaUs
import Derived.Test.YtegbiekfpcfnnaaUo
namespace Go.Proofs.Ytegbiekfpcfnnaa
open Go.RowKit Fx

theorem TSt.ofParse {w0 w1 w2 : World} {s : ByteArray} {tb m b : Nat} {F : Nat → Prop} (hz : paE s = 0) (hT : TblAt w1 tb m ⟨paX s, mapO (paF s).l⟩) (h1 : w0.heap.size ≤ tb) (h2 : w0.heap.size ≤ m) (hk1 : K0 w0 w1) (hR : RTst w2 F b ⟨paX s, (paF s).l⟩) (hF : ∀ k, F k → w1.heap.size ≤ k) (hk2 : K0 w1 w2) :
    TSt w0 w2 tb m b F ⟨paX s, (paF s).l⟩ ⟨paX s, (paF s).l⟩ := by
  obtain ⟨g1, g2, g3, _⟩ := parse_good hz
  rw [g1] at hT
  have lt := hT.lt
  have lm := hT.map.lt
  exact ⟨hT.keep hk2 (fun e => e) (fun e => e), hR, ⟨rfl, fun _ => rfl, g2⟩, g3, fun k e => by have := hF k e; omega, h1, h2, fun k e => Nat.le_trans hk1.size (hF k e), K0.tr hk1 hk2⟩
set_option maxRecDepth 100000 in
set_option maxHeartbeats 16000000 in
theorem tparses_any (s : ByteArray) (w : World) (hs : s.size ≤ 9223372036854775807) : Calls Try.prog 6 #[.string s] w fun e w' => Same w e (.bool true) w' := by
  have HS := Lib.hid hs
  go_enter Try.func6, Try.ntmps6
  go_wp2_with fail
  refine (parse_any s w hs).mono ?_
  intro e w1 hp
  rcases hp with ⟨hne, rfl, hk⟩ | ⟨hz, tb, m, rfl, hT, b1, b2, hk⟩
  · have HNE := Lib.hid hne
    have HK := Lib.hid hk
    clear hk hne
    go_wp2_with fail
    refine (rparse_any s w1 hs).mono ?_
    intro e w2 hq
    rcases hq with ⟨_, rfl, hk2⟩ | ⟨hz, _⟩
    · have HK2 := Lib.hid (K0.tr HK.out hk2)
      clear hk2
      generalize paE s = x
      have i1 : (x != x) = false := by simp
      go_wp2_with fail
      refine (live_any _).mono ?_
      rintro e w3 ⟨rfl, k3⟩
      have HK3 := Lib.hid k3
      clear k3
      go_wp2
      go_ret
      exact ⟨rfl, K0.tr HK2.out HK3.out⟩
    · exact absurd hz HNE.out
  · have HZ := Lib.hid hz
    have HT0 := Lib.hid hT
    have HK := Lib.hid hk
    have HB1 := Lib.hid b1
    have HB2 := Lib.hid b2
    clear hk hz hT b1 b2
    go_wp2_with fail
    refine (rparse_any s w1 hs).mono ?_
    intro e w2 hq
    rcases hq with ⟨hne, _⟩ | ⟨_, b, F, rfl, hR, hF, hk2⟩
    · exact absurd HZ.out hne
    have HT2 := Lib.hid (TSt.ofParse HZ.out HT0.out HB1.out HB2.out HK.out hR hF hk2)
    have HPR := Lib.hid (parse_good HZ.out).2.2.2
    clear hR hF hk2
    generalize (⟨paX s, (paF s).l⟩ : Tbl) = R at HT2 HPR
    go_wp2_with fail
    refine (tprint_any HT2.out.tt HT2.out.sim HT2.out.wf).mono ?_
    rintro e w3 ⟨rfl, hk3⟩
    have HT3 := Lib.hid (HT2.out.keep hk3)
    rw [HPR.out]
    clear hk3
    have hss : (s.toList == s.toList) = true := beq_self_eq_true _
    go_wp2_with fail
    refine HT3.out.list.mono ?_
    rintro e w4 ⟨a3, c3, rfl, hS3, hk4⟩
    have HS3 := Lib.hid hS3
    have HT4 := Lib.hid (HT3.out.keep hk4)
    clear hS3 hk4
    go_wp2_with fail
    refine HT4.out.rlist.mono ?_
    rintro e w5 ⟨a4, c4, rfl, hS4, hk5⟩
    have HS4 := Lib.hid hS4
    have HS34 := Lib.hid (HS3.out.keep0 stable_T hk5)
    have HT5 := Lib.hid (HT4.out.keep hk5)
    clear hS4 hk5
    go_wp2_with fail
    refine (sameTopics_any w5 a3 a4 c3 c4 (pairsT R) HS34.out HS4.out).mono ?_
    rintro e w6 ⟨rfl, hk6⟩
    have HT6 := Lib.hid (HT5.out.keep hk6)
    clear hk6
    go_wp2_with fail
    refine (live_any _).mono ?_
    rintro e w7 ⟨rfl, k7⟩
    have HK7 := Lib.hid (K0.tr HT6.out.k0 k7)
    clear k7
    go_wp2
    go_ret
    exact ⟨rfl, HK7.out⟩
end Go.Proofs.Ytegbiekfpcfnnaa
