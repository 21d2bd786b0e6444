/-
  AssignOne: the walk.
-/
import Derived.Test.YtncblldhfmabbaaAr
import Derived.Test.YtncblldhfmabbaaAm
namespace Go.Proofs.Ytncblldhfmabbaa
open Go.RowKit Fx

set_option maxRecDepth 100000 in
set_option maxHeartbeats 2000000 in
theorem one_any (w : World) (sa ta : Option Addr) (sc tc : Nat) (subs : List SubC) (tops : List TopC) (hs : SlAt 2 rSub w sa sc subs) (ht : SlAt 2 rTop w ta tc tops) :
    Calls Try.prog 3 #[.slice sa subs.length sc, .slice ta tops.length tc] w fun e w' => Same w e (.bool true) w' := by
  have HFW := Lib.hid (few_any w w sa ta sc tc subs tops hs ht (Below.refl _ _))
  have C9 := Lib.hid (fun (x : World) (h : K0 w x) => range9 w x sa ta sc tc subs tops hs ht h.below)
  have C10 := Lib.hid (fun (x : World) (h : K0 w x) => range10 w x sa ta sc tc subs tops hs ht h.below)
  have C11 := Lib.hid (fun (x : World) (h : K0 w x) => round11 w x sa ta sc tc subs tops hs ht h.below)
  have C12 := Lib.hid (fun (x : World) (h : K0 w x) => round12 w x sa ta sc tc subs tops hs ht h.below)
  have C14 := Lib.hid (fun (x : World) (h : K0 w x) => check14 w x sa ta sc tc subs tops hs ht h.below)
  have C15 := Lib.hid (fun (x : World) (h : K0 w x) => check15 w x sa ta sc tc subs tops hs ht h.below)
  clear hs ht
  generalize subs.length = n1 at *
  generalize tops.length = n2 at *
  generalize rangeL subs tops = lr at *
  generalize roundL subs tops = lo at *
  generalize chk subs tops = er at *
  cases hw : fewB subs tops with
  | false =>
    rw [hw] at HFW
    go_enter Try.func3, Try.ntmps3
    go_wp2_with fail
    refine HFW.out.mono ?_
    rintro e w1 ⟨rfl, k1⟩
    go_wp2_with fail
    refine (live8 _).mono ?_
    rintro e w2 ⟨rfl, k2⟩
    go_wp2
    go_ret
    exact ⟨rfl, K0.tr k1 k2⟩
  | true =>
    rw [hw] at HFW
    go_enter Try.func3, Try.ntmps3
    go_wp2_with fail
    refine HFW.out.mono ?_
    rintro e w1 ⟨rfl, k1⟩
    go_wp2_with fail
    refine (C9.out _ k1).mono ?_
    intro e w2 hq
    obtain ⟨a1, c1, rfl, s1, k2⟩ := hq.list
    have t2 := K0.tr k1 k2
    clear hq k1
    go_wp2_with fail
    refine (C10.out _ t2).mono ?_
    intro e w3 hq
    obtain ⟨a2, c2, rfl, s2, k3⟩ := hq.list
    have t3 := K0.tr t2 k3
    have s1 := s1.keep0 stable_share k3
    clear hq k2 t2 k3
    go_wp2_with fail
    refine (C11.out _ t3).mono ?_
    intro e w4 hq
    obtain ⟨a3, c3, rfl, s3, k4⟩ := hq.list
    have t4 := K0.tr t3 k4
    have s1 := s1.keep0 stable_share k4
    have s2 := s2.keep0 stable_share k4
    clear hq t3 k4
    go_wp2_with fail
    refine (C12.out _ t4).mono ?_
    intro e w5 hq
    obtain ⟨a4, c4, rfl, s4, k5⟩ := hq.list
    have t5 := K0.tr t4 k5
    have s1 := s1.keep0 stable_share k5
    have s2 := s2.keep0 stable_share k5
    have s3 := s3.keep0 stable_share k5
    clear hq t4 k5
    have D1 := Lib.hid (same13 w5 w5 a1 a2 c1 c2 _ s1 s2 (Below.refl _ _))
    have D2 := Lib.hid (fun (x : World) (h : K0 w5 x) => same13 w5 x a3 a4 c3 c4 _ s3 s4 h.below)
    clear s1 s2 s3 s4
    generalize (orNil er lr).length = m1 at *
    generalize (orNil er lo).length = m2 at *
    go_wp2_with fail
    refine D1.out.mono ?_
    rintro e w6 ⟨rfl, n6, h6⟩
    have k6 : K0 w5 w6 := by rw [h6]; exact (Keeps.refl _ _).drewN _
    clear h6
    go_wp2_with fail
    refine (D2.out _ k6).mono ?_
    rintro e w7 ⟨rfl, n7, h7⟩
    have t7 : K0 w w7 := by rw [h7]; exact (K0.tr t5 k6).drewN _
    clear h7
    clear D2 D1
    go_wp2_with fail
    refine (C14.out _ t7).mono ?_
    rintro e w8 ⟨rfl, k8⟩
    have t8 := K0.tr t7 k8
    go_wp2_with fail
    refine (C15.out _ t8).mono ?_
    rintro e w9 ⟨rfl, k9⟩
    have t9 := K0.tr t8 k9
    go_wp2_with fail
    refine (live8 _).mono ?_
    rintro e w10 ⟨rfl, k10⟩
    go_wp2
    go_ret
    exact ⟨by simp, K0.tr t9 k10⟩
end Go.Proofs.Ytncblldhfmabbaa
