/-
  AssignFair: the walk.
-/
import Derived.Test.YtncblldhfmabbaaAm
import Derived.Test.YtncblldhfmabbaaAv
import Derived.Test.YtncblldhfmabbaaAz
namespace Go.Proofs.Ytncblldhfmabbaa
open Go.ChangeShapes Go.WideShapes Go.ChangeAt Go.RowKit Fx

theorem min_val (a b : Nat) : (Value.int .i64 (if b < a then (b : Int) else a)) = .int .i64 ((min a b : Nat) : Int) := by
  congr 1; split <;> omega
theorem max_val (a b : Nat) : (Value.int .i64 (if a < b then (b : Int) else a)) = .int .i64 ((max a b : Nat) : Int) := by
  congr 1; split <;> omega
/-- What dealing in rows gives each taker of a topic. -/
theorem rows_even {subs : List SubC} {tops : List TopC} (hc : chk subs tops = 0) {t : Nat} (ht : t < tops.length) : ∃ q : Nat, q ≤ 16 ∧ ∀ k (hk : k < (takersL subs tops[t].name).length),
    ∃ hm : (takersL subs tops[t].name)[k] < (rangeL subs tops).length, q ≤ (rangeL subs tops)[(takersL subs tops[t].name)[k]].parts.countP (ofName tops[t].name) ∧ (rangeL subs tops)[(takersL subs tops[t].name)[k]].parts.countP (ofName tops[t].name) ≤ q + 1 := by
  refine ⟨tops[t].parts.toNat / (takersL subs tops[t].name).length, ?_, fun k hk => ?_⟩
  · have h1 := (chk_ok hc).2.2 t ht
    have h2 := Nat.div_le_self tops[t].parts.toNat (takersL subs tops[t].name).length
    omega
  · have hm : (takersL subs tops[t].name)[k] < (rangeL subs tops).length := by rw [rangeL_len]; exact takers_lt hk
    exact ⟨hm, by rw [range_fair (chk_names hc) ht hk hm]; exact (cnt_fair _ _ _ hk).1, by rw [range_fair (chk_names hc) ht hk hm]; exact (cnt_fair _ _ _ hk).2⟩
theorem all_even {subs : List SubC} {tops : List TopC} (hc : chk subs tops = 0) : ∃ q : Nat, q ≤ 320 ∧ (wantAll subs tops tops.length = true → ∀ k (hk : k < (roundL subs tops).length), q ≤ (roundL subs tops)[k].parts.length ∧ (roundL subs tops)[k].parts.length ≤ q + 1) := by
  refine ⟨partsTo tops tops.length / subs.length, ?_, fun h k hk => round_fair h hk⟩
  have h1 := chk_ok hc
  have h2 := partsTo_le h1.2.2 tops.length (Nat.le_refl _)
  have h3 := Nat.div_le_self (partsTo tops tops.length) subs.length
  omega
set_option maxRecDepth 100000 in
set_option maxHeartbeats 4000000 in
theorem fair_any (w : World) (sa ta : Option Addr) (sc tc : Nat) (subs : List SubC) (tops : List TopC) (hs : SlAt 2 rSub w sa sc subs) (ht : SlAt 2 rTop w ta tc tops) :
    Calls Try.prog 5 #[.slice sa subs.length sc, .slice ta tops.length tc] w fun e w' => Same w e (.bool true) w' := by
  have HFW := Lib.hid (few_any w w sa ta sc tc subs tops hs ht (Below.refl _ _))
  have C8 := Lib.hid (fun (x : World) (h : K0 w x) => check14 w x sa ta sc tc subs tops hs ht h.below)
  have C9 := Lib.hid (fun (x : World) (h : K0 w x) => range9 w x sa ta sc tc subs tops hs ht h.below)
  have C11 := Lib.hid (fun (x : World) (h : K0 w x) => round11 w x sa ta sc tc subs tops hs ht h.below)
  have HCC := Lib.hid (chk_cases subs tops)
  have hms := hs.len
  have hmt := ht.len
  have HS := Lib.hid hs
  have HT := Lib.hid ht
  have LR := Lib.hid (rangeL_len subs tops)
  have LO := Lib.hid (roundL_len subs tops)
  have HL : Hid (chk subs tops = 0 → subs.length ≤ 20 ∧ tops.length ≤ 20) := fun h => ⟨(chk_ok h).1, (chk_ok h).2.1⟩
  have FR := Lib.hid (fun (hc : chk subs tops = 0) (t : Nat) (ht : t < tops.length) => rows_even hc ht)
  have FO := Lib.hid (fun (hc : chk subs tops = 0) => all_even hc)
  clear hs ht
  generalize rangeL subs tops = lr at *
  generalize roundL subs tops = lo at *
  generalize chk subs tops = er at *
  cases hw : fewB subs tops with
  | false =>
    rw [hw] at HFW
    go_enter Try.func5, Try.ntmps5
    go_wp2_with fail
    refine HFW.out.mono ?_
    rintro e w1 ⟨rfl, k1⟩
    go_wp2_with fail
    refine (live8 _).mono ?_
    rintro e w2 ⟨rfl, k2⟩
    go_wp2
    go_ret
    exact ⟨rfl, K0.tr k1 k2⟩
  | true =>
    rw [hw] at HFW
    have hcc := HCC.out
    rcases hcc with rfl | rfl
    · obtain ⟨l1, l2⟩ := HL.out rfl
      have FRZ := Lib.hid (FR.out rfl)
      have FOZ := Lib.hid (FO.out rfl)
      clear FR FO HL
      have hne : ((subs.length : Int) != subs.length) = false := by simp
      go_enter Try.func5, Try.ntmps5
      go_wp2_with fail
      refine HFW.out.mono ?_
      rintro e w1 ⟨rfl, k1⟩
      go_wp2_with fail
      refine (C8.out _ k1).mono ?_
      rintro e w2 ⟨rfl, k2⟩
      have t2 := K0.tr k1 k2
      clear k1 k2
      go_wp2_with fail
      refine (C9.out _ t2).mono ?_
      intro e w3 hq
      obtain ⟨a1, c1, rfl, s1, k3⟩ := hq.list
      have t3 := K0.tr t2 k3
      have s1 : SlAt 2 rShare w3 a1 c1 lr := s1
      have el : (orNil 0 lr).length = subs.length := LR.out
      rw [el]
      clear hq t2 k3 el
      go_wp2_with fail
      refine (C11.out _ t3).mono ?_
      intro e w4 hq
      obtain ⟨a2, c2, rfl, s2, k4⟩ := hq.list
      have s1 := s1.keep0 stable_share k4
      have s2 : SlAt 2 rShare w4 a2 c2 lo := s2
      have el : (orNil 0 lo).length = subs.length := LO.out
      rw [el]
      have T4 := Lib.hid (K0.tr t3 k4)
      have S1 := Lib.hid s1
      have S2 := Lib.hid s2
      clear hq t3 k4 el s1 s2 C8 C9 C11 HFW HCC
      go_wp2
      go_loopw [9, 10] (fun al i wr => ∃ t : Nat, i = .int .i64 t ∧ t ≤ tops.length ∧ al = .bool (wantAll subs tops t) ∧ K0 w4 wr) (fun _ i _ => tops.length - (intOf i).toNat)
      case atStart => exact ⟨0, rfl, by omega, by simp [wantAll], Keeps.refl _ _⟩
      case round =>
        clear hne
        obtain ⟨wo, rfl⟩ : ∃ wo : World, wo = wr := ⟨_, rfl⟩
        obtain ⟨t, rfl, ht, rfl, hk⟩ := hrel
        have hbr := (K0.tr T4.out hk).below
        have HK := Lib.hid hk
        clear hk
        by_cases hlt : t < tops.length
        · obtain ⟨b, off, rfl, hr'⟩ := HT.out.row hlt
          obtain ⟨c0, _, hbl⟩ := top_cells hr' hbr t hlt
          obtain ⟨q, hq16, hfr⟩ := FRZ.out t hlt
          have HFR := Lib.hid hfr
          have HWA := Lib.hid (wantAll_succ (subs := subs) hlt)
          clear hfr
          generalize tops[t].name = s at c0 HFR HWA
          have HTK := Lib.hid (takers17 w wo sa sc subs s HS.out hbr (by omega))
          have hnl : (takersL subs s).length ≤ 20 := Nat.le_trans (takeTo_len _ _ _) l1
          generalize takersL subs s = tk at HTK HFR HWA hnl
          clear hbr hr'
          go_wp2_with fail
          refine HTK.out.mono ?_
          rintro e wt ⟨ta', cap', rfl, hsl, hkt, _⟩
          have hx0 := hkt.cell' c0 (fun e => e)
          have HSL := Lib.hid hsl
          have HKT := Lib.hid (K0.tr HK.out hkt)
          clear hsl hkt HTK c0 HK
          go_upto_region 12 with fail
          go_cut [9] (fun al wq => al = .bool (wantAll subs tops (t + 1)) ∧ wq = wt)
          case first =>
            cases hA : wantAll subs tops t with
            | false =>
              go_wp2
              go_meet
              case rel => exact ⟨by rw [HWA.out, hA]; simp, rfl⟩
            | true =>
              go_wp2
              go_meet
              case rel => exact ⟨by rw [HWA.out, hA]; simp, rfl⟩
          case rest =>
            obtain ⟨rfl, e2⟩ := hcut
            subst e2
            go_wp2
            go_loopw [12, 13, 14] (fun a m i wq => ∃ k a' m' : Nat, i = .int .i64 k ∧ k ≤ tk.length ∧ a = .int .i64 a' ∧ m = .int .i64 m' ∧ q ≤ a' ∧ a' ≤ 100 ∧ m' ≤ q + 1 ∧ K0 wc wq) (fun _ _ i _ => tk.length - (intOf i).toNat)
            case atStart => exact ⟨0, 100, 0, rfl, by omega, rfl, rfl, by omega, by omega, by omega, Keeps.refl _ _⟩
            case round =>
              obtain ⟨k, a', m', rfl, hk, rfl, rfl, ha1, ha2, hm1, hk1⟩ := hrel
              have HK1 := Lib.hid hk1
              by_cases hlt2 : k < tk.length
              · obtain ⟨b5, off5, rfl, r5⟩ := HSL.out.row hlt2
                obtain ⟨d0, hbl6⟩ := nat_cells r5 hk1 (fun e => e) k hlt2
                obtain ⟨hm, q1, q2⟩ := HFR.out k hlt2
                clear r5
                generalize tk[k] = m at d0 hm q1 q2
                obtain ⟨b3, off3, rfl, r3⟩ := S1.out.row hm
                obtain ⟨pa, pc, x0, x1, hbl3, ps⟩ := share_cells r3 (K0.tr HKT.out hk1).below m hm
                have HPS := Lib.hid ps
                have hpm := ps.len
                clear ps r3 x0 hk1
                have hms' : m < subs.length := by have := LR.out; omega
                generalize lr[m].parts = ps at x1 q1 q2 HPS hpm
                clear hm
                have i0 : (0 : Int) ≤ k := by omega
                have i1 : (k : Int) < tk.length := by omega
                have i2 : (0 : Int) ≤ m := by omega
                have i3 : (m : Int) < subs.length := by omega
                go_wp2
                go_loopw [15, 17] (fun n i wq => ∃ j : Nat, i = .int .i64 j ∧ j ≤ ps.length ∧ n = .int .i64 ((ps.take j).countP (ofName s) : Nat) ∧ K0 wc wq) (fun _ i _ => ps.length - (intOf i).toNat)
                case atStart => exact ⟨0, rfl, by omega, by simp, HK1.out⟩
                case round =>
                  obtain ⟨j, rfl, hj, rfl, hk2⟩ := hrel
                  have HK2 := Lib.hid hk2
                  by_cases hlt3 : j < ps.length
                  · obtain ⟨b4, off4, rfl, r4⟩ := HPS.out.row hlt3
                    obtain ⟨v0, _, hbl4⟩ := part_cells r4 (K0.tr HKT.out hk2).below j hlt3
                    have z0 := hk2.cell' hx0 (fun e => e)
                    have hbl5 := cell_block z0
                    have HCT := Lib.hid (count_take (ofName s) ps j hlt3)
                    have hle := count_take_le (ofName s) ps j
                    generalize (ps.take j).countP (ofName s) = c at HCT hle ⊢
                    have j0 : (0 : Int) ≤ j := by omega
                    have j1 : (j : Int) < ps.length := by omega
                    have j2 : (0 : Int) ≤ t := by omega
                    have j3 : (t : Int) < tops.length := by omega
                    clear r4 hk2
                    cases hh : ofName s ps[j] with
                    | false =>
                      rw [hh] at HCT
                      unfold ofName at hh
                      generalize ps[j].topic = x at v0 hh
                      go_wp2_with fail
                      go_quiet (fail)
                      go_wp2
                      go_roundw
                      case rel => exact ⟨j + 1, by go_num, by omega, by rw [HCT.out]; simp, HK2.out.drewN _⟩
                      case measure => simp [intOf]; omega
                    | true =>
                      rw [hh] at HCT
                      unfold ofName at hh
                      generalize ps[j].topic = x at v0 hh
                      go_wp2_with fail
                      go_quiet (fail)
                      go_wp2
                      go_roundw
                      case rel => exact ⟨j + 1, by go_num, by omega, by rw [HCT.out]; go_num, HK2.out.drewN _⟩
                      case measure => simp [intOf]; omega
                  · obtain rfl : j = ps.length := by omega
                    rw [List.take_length]
                    generalize ps.countP (ofName s) = c at q1 q2 ⊢
                    clear hk2
                    go_wp2
                    go_roundw
                    case rel => exact ⟨k + 1, min a' c, max m' c, by go_num, by omega, min_val _ _, max_val _ _, by omega, by omega, by omega, HK2.out⟩
                    case measure => simp [intOf]; omega
              · obtain rfl : k = tk.length := by omega
                clear hk1
                go_wp2
                go_roundw
                case rel => exact ⟨t + 1, by go_num, by omega, rfl, K0.tr HKT.out HK1.out⟩
                case measure => simp [intOf]; omega
        · obtain rfl : t = tops.length := by omega
          obtain ⟨q, hq320, hfo⟩ := FOZ.out
          have HFO := Lib.hid hfo
          clear hfo hbr
          generalize wantAll subs tops tops.length = al at HFO ⊢
          go_wp2
          go_loopw [18, 19, 20] (fun a m i wq => ∃ k a' m' : Nat, i = .int .i64 k ∧ k ≤ subs.length ∧ a = .int .i64 a' ∧ m = .int .i64 m' ∧ a' ≤ 1000 ∧ m' ≤ 9223372036854775807 ∧ (al = true → q ≤ a' ∧ m' ≤ q + 1) ∧ K0 w4 wq) (fun _ _ i _ => subs.length - (intOf i).toNat)
          case atStart => exact ⟨0, 1000, 0, rfl, by omega, rfl, rfl, by omega, by omega, fun _ => ⟨by omega, by omega⟩, HK.out⟩
          case round =>
            obtain ⟨k, a', m', rfl, hk, rfl, rfl, ha, hm, hq, hk1⟩ := hrel
            have HK1 := Lib.hid hk1
            have HQ := Lib.hid hq
            clear hq
            by_cases hlt2 : k < subs.length
            · have hkl : k < lo.length := by have := LO.out; omega
              obtain ⟨b3, off3, rfl, r3⟩ := S2.out.row hkl
              obtain ⟨pa, pc, x0, x1, hbl3, ps⟩ := share_cells r3 hk1.below k hkl
              have hpm := ps.len
              have HF5 := Lib.hid (fun h => HFO.out h k hkl)
              clear ps r3 x0 hk1
              generalize lo[k].parts.length = c at x1 hpm HF5
              go_wp2
              go_roundw
              case rel => exact ⟨k + 1, min a' c, max m' c, by go_num, by omega, min_val _ _, max_val _ _, by omega, by omega, fun h => by have h1 := HQ.out h; have h2 := HF5.out h; omega, HK1.out⟩
              case measure => simp [intOf]; omega
            · obtain rfl : k = subs.length := by omega
              clear hk1
              cases hal : al with
              | false =>
                go_wp2_with fail
                refine (live8 _).mono ?_
                rintro e w10 ⟨rfl, k10⟩
                go_wp2
                go_ret
                exact ⟨by simp, K0.tr T4.out (K0.tr HK1.out k10)⟩
              | true =>
                have h5 := HQ.out hal
                have h6 : (m' : Int) ≤ a' + 1 := by omega
                go_wp2_with fail
                refine (live8 _).mono ?_
                rintro e w10 ⟨rfl, k10⟩
                go_wp2
                go_ret
                exact ⟨by simp, K0.tr T4.out (K0.tr HK1.out k10)⟩
    · go_enter Try.func5, Try.ntmps5
      go_wp2_with fail
      refine HFW.out.mono ?_
      rintro e w1 ⟨rfl, k1⟩
      go_wp2_with fail
      refine (C8.out _ k1).mono ?_
      rintro e w2 ⟨rfl, k2⟩
      have t2 := K0.tr k1 k2
      go_wp2_with fail
      refine (live8 _).mono ?_
      rintro e w3 ⟨rfl, k3⟩
      go_wp2
      go_ret
      exact ⟨rfl, K0.tr t2 k3⟩
end Go.Proofs.Ytncblldhfmabbaa
