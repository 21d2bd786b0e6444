/-
  The law's 'whole' answers true where each partition is given just once.
-/
import Derived.Test.YtncblldhfmabbaaAu
namespace Go.Proofs.Ytncblldhfmabbaa
open Go.RowKit Fx

theorem cell_block {w : World} {b o : Nat} {v : Value} (h : w.cell? ⟨b, o, none⟩ = some v) : b < w.heap.size := World.block_lt_of_cell? w _ h
set_option maxRecDepth 100000 in
set_option maxHeartbeats 4000000 in
theorem whole16 (w0 w : World) (sa ta la : Option Addr) (sc tc lc : Nat) (subs : List SubC) (tops : List TopC) (l : List ShareC) (hs : SlAt 2 rSub w0 sa sc subs) (ht : SlAt 2 rTop w0 ta tc tops) (hl : SlAt 2 rShare w0 la lc l) (hb : Below w0.heap.size w0 w)
    (l1 : subs.length ≤ 20) (l2 : tops.length ≤ 20) (l3 : ∀ j (h : j < tops.length), 1 ≤ tops[j].parts ∧ tops[j].parts ≤ 16) (hw : WholeL subs tops l) :
    Calls Try.prog 16 #[.slice sa subs.length sc, .slice ta tops.length tc, .slice la l.length lc] w fun e w' => Same w e (.bool true) w' := by
  have HS := Lib.hid hs
  have HT := Lib.hid ht
  have HL := Lib.hid hl
  have HB := Lib.hid hb
  have HW := Lib.hid hw
  have HL3 := Lib.hid l3
  have hlen := hw.len
  rw [hlen]
  have hne : ((subs.length : Int) != subs.length) = false := by simp
  clear hs ht hl hb hw l3
  go_enter Try.func16, Try.ntmps16
  go_wp2_with fail
  go_loopw [7, 8] (fun n i wr => ∃ t : Nat, i = .int .i64 t ∧ t ≤ tops.length ∧ n = .int .i64 (mustTo subs tops t : Nat) ∧ K0 w wr) (fun _ i _ => tops.length - (intOf i).toNat)
  case atStart => exact ⟨0, rfl, by omega, by simp [mustTo], Keeps.refl _ _⟩
  case round =>
    clear hne
    obtain ⟨t, rfl, ht, rfl, hk⟩ := hrel
    have hbr := K0.after hk HB.out
    have HK := Lib.hid hk
    have hmu := mustTo_le (subs := subs) HL3.out t ht
    clear hk
    by_cases hlt : t < tops.length
    · obtain ⟨b, off, rfl, hr'⟩ := HT.out.row hlt
      obtain ⟨c0, c1, hbl⟩ := top_cells hr' hbr t hlt
      obtain ⟨p, hp⟩ : ∃ p : Nat, tops[t].parts = p := ⟨tops[t].parts.toNat, by have := HL3.out t hlt; omega⟩
      have hp1 := HL3.out t hlt
      rw [hp] at c1 hp1
      have HMU : Hid (mustTo subs tops (t + 1) = mustTo subs tops t + p * oneIf (takersL subs tops[t].name)) := by show _ = _; rw [mustTo_succ hlt, hp]; rfl
      have HCN : Hid (∀ q : Nat, q < p → given tops[t].name q l = oneIf (takersL subs tops[t].name)) := fun q hq => HW.out.cnt t hlt q (by rw [hp]; omega)
      have HOW := Lib.hid (HW.out.own t hlt)
      generalize tops[t].name = s at c0 HMU HCN HOW
      have HTK := Lib.hid (takers17 w0 wr sa sc subs s HS.out hbr (by omega))
      have HBR := Lib.hid hbr
      have hnl : (takersL subs s).length ≤ 20 := Nat.le_trans (takeTo_len _ _ _) l1
      generalize takersL subs s = tk at HTK HMU HCN HOW hnl
      clear hbr hr' hp
      go_wp2_with fail
      refine HTK.out.mono ?_
      rintro e wt ⟨ta', cap', rfl, hsl, hkt, _⟩
      have hx0 := hkt.cell' c0 (fun e => e)
      have hx1 := hkt.cell' c1 (fun e => e)
      have HSL := Lib.hid hsl
      have HBT := Lib.hid (K0.after hkt HBR.out)
      have HKT := Lib.hid (K0.tr HK.out hkt)
      clear hsl hkt HTK c0 c1 HK HBR
      generalize mustTo subs tops t = n0 at HMU hmu ⊢
      have h1i := oneIf_le tk
      go_wp2
      go_loopw [7, 10] (fun n i wq => ∃ q : Nat, i = .int .i64 q ∧ q ≤ p ∧ n = .int .i64 (n0 + q * oneIf tk : Nat) ∧ Keeps (fun _ => False) wt wq) (fun _ i _ => p - (intOf i).toNat)
      case atStart => exact ⟨0, rfl, by omega, by simp, Keeps.refl _ _⟩
      case round =>
        obtain ⟨q, rfl, hq, rfl, hk2⟩ := hrel
        have y1 := hk2.cell' hx1 (fun e => e)
        have hbl1 := cell_block y1
        have HK2 := Lib.hid hk2
        clear hk2
        by_cases hlt2 : q < p
        · have hq2 : (q : Int) < p := by omega
          have HG := Lib.hid (HCN.out q hlt2)
          have hqm : q * oneIf tk ≤ 16 * 1 := Nat.mul_le_mul (by omega) h1i
          have hnn : n0 + q * oneIf tk ≤ 400 := by omega
          have HNN : Hid (n0 + (q + 1) * oneIf tk = n0 + q * oneIf tk + oneIf tk) := by show _ = _; rw [Nat.succ_mul]; omega
          generalize n0 + q * oneIf tk = nn at hnn HNN ⊢
          go_wp2
          go_loopw [11, 12] (fun gv k wq => ∃ k' : Nat, k = .int .i64 k' ∧ k' ≤ subs.length ∧ gv = .int .i64 (givenTo s q l k' : Nat) ∧ Keeps (fun _ => False) wt wq) (fun _ k _ => subs.length - (intOf k).toNat)
          case atStart => exact ⟨0, rfl, by omega, by simp [givenTo], HK2.out⟩
          case round =>
            obtain ⟨k, rfl, hk', rfl, hk3⟩ := hrel
            have HK3 := Lib.hid hk3
            clear hk3
            by_cases hlt3 : k < subs.length
            · have hkl : k < l.length := by omega
              have HGP : Hid (∀ j, givenTo s q l k + (l[k].parts.take j).countP (hit s q) ≤ 1) := fun j => by
                have h5 := given_part (s := s) (p := q) hkl j
                rw [HG.out] at h5
                omega
              have HGS := Lib.hid (givenTo_succ (s := s) (p := q) hkl)
              have HOK := Lib.hid (HOW.out k hkl)
              obtain ⟨b3, off3, rfl, r3⟩ := HL.out.row hkl
              have x1 : ∃ pa pc, wt.cell? ⟨b3, off3 + k * 2 + 1, none⟩ = some (.slice pa l[k].parts.length pc) ∧ SlAt 2 rPart w0 pa pc l[k].parts := by
                obtain ⟨pa, pc, _, x1, _, ps⟩ := share_cells r3 HBT.out k hkl
                exact ⟨pa, pc, x1, ps⟩
              obtain ⟨pa, pc, x1, ps⟩ := x1
              have HPS := Lib.hid ps
              clear ps r3
              generalize l[k].parts = ps at x1 HPS HGP HGS HOK
              generalize givenTo s q l k = g0 at HGP HGS ⊢
              have hpm := HPS.out.len
              go_wp2
              go_loopw [11, 13] (fun gv j wq => ∃ j' : Nat, j = .int .i64 j' ∧ j' ≤ ps.length ∧ gv = .int .i64 (g0 + (ps.take j').countP (hit s q) : Nat) ∧ Keeps (fun _ => False) wt wq) (fun _ j _ => ps.length - (intOf j).toNat)
              case atStart => exact ⟨0, rfl, by omega, by simp, HK3.out⟩
              case round =>
                obtain ⟨j, rfl, hj, rfl, hk4⟩ := hrel
                have z1 := hk4.cell' x1 (fun e => e)
                have hbl3 := cell_block z1
                by_cases hlt4 : j < ps.length
                · obtain ⟨b4, off4, rfl, r4⟩ := HPS.out.row hlt4
                  obtain ⟨v0, v1, hbl4⟩ := part_cells r4 (K0.after hk4 HBT.out) j hlt4
                  have z0 := hk4.cell' hx0 (fun e => e)
                  have hbl5 := cell_block z0
                  have HK4 := Lib.hid hk4
                  have HCT := Lib.hid (count_take (hit s q) ps j hlt4)
                  have hgj := HGP.out j
                  have HOJ := Lib.hid (HOK.out j hlt4)
                  generalize (ps.take j).countP (hit s q) = c at HCT hgj ⊢
                  have i0 : (0 : Int) ≤ j := by omega
                  have i1 : (j : Int) < ps.length := by omega
                  have i2 : (0 : Int) ≤ k := by omega
                  have i3 : (k : Int) < subs.length := by omega
                  have i4 : (0 : Int) ≤ t := by omega
                  have i5 : (t : Int) < tops.length := by omega
                  clear r4 hk4
                  cases hh : hit s q ps[j] with
                  | false =>
                    have q1 := eqlHit hh
                    rw [hh] at HCT
                    have q3 := h41c
                    clear hh
                    generalize ps[j].topic = x at v0 q1
                    generalize ps[j].index = xi at v1 q1
                    go_wp2_with fail
                    go_quiet (fail)
                    go_wp2
                    go_roundw
                    case rel => exact ⟨j + 1, by go_num, by omega, by rw [HCT.out]; simp, HK4.out.drewN _⟩
                    case measure => simp [intOf]; omega
                  | true =>
                    have q1 := eqlHit hh
                    rw [hh] at HCT
                    have q3 := h41c
                    have HIN : Hid (amongTo tk k tk.length = true) := amongTo_all (HOJ.out (by unfold hit at hh; rw [Bool.and_eq_true] at hh; exact hh.1))
                    clear hh
                    generalize ps[j].topic = x at v0 q1
                    generalize ps[j].index = xi at v1 q1
                    go_wp2_with fail
                    go_quiet (fail)
                    clear q1 q3 v0 v1 z0 z1 i0 i1 i2 i3 i4 i5
                    go_wp2
                    go_loopw [14, 15] (fun is m wq => ∃ m' : Nat, m = .int .i64 m' ∧ m' ≤ tk.length ∧ is = .bool (amongTo tk k m') ∧ Keeps (fun _ => False) wt wq) (fun _ m _ => tk.length - (intOf m).toNat)
                    case atStart => exact ⟨0, rfl, by omega, by simp [amongTo], HK4.out.drewN _⟩
                    case round =>
                      obtain ⟨m, rfl, hm, rfl, hk5⟩ := hrel
                      have HK5 := Lib.hid hk5
                      by_cases hlt5 : m < tk.length
                      · obtain ⟨b5, off5, rfl, r5⟩ := HSL.out.row hlt5
                        obtain ⟨d0, hbl6⟩ := nat_cells r5 hk5 (fun e => e) m hlt5
                        have HAM := Lib.hid (amongTo_succ (k := k) hlt5)
                        clear hk5 r5
                        generalize tk[m] = y at d0 HAM
                        cases hA : amongTo tk k m with
                        | true =>
                          have HA := Lib.hid hA
                          clear hA
                          go_wp2
                          go_roundw
                          case rel => exact ⟨m + 1, by go_num, by omega, by rw [HAM.out, HA.out]; rfl, HK5.out⟩
                          case measure => simp [intOf]; omega
                        | false =>
                          have HA := Lib.hid hA
                          clear hA
                          go_wp2
                          go_roundw
                          case rel => exact ⟨m + 1, by go_num, by omega, by rw [HAM.out, HA.out]; simp, HK5.out⟩
                          case measure => simp [intOf]; omega
                      · obtain rfl : m = tk.length := by omega
                        clear hk5
                        rw [HIN.out]
                        go_wp2
                        go_roundw
                        case rel => exact ⟨j + 1, by go_num, by omega, by rw [HCT.out]; go_num, HK5.out⟩
                        case measure => simp [intOf]; omega
                · obtain rfl : j = ps.length := by omega
                  have HK4 := Lib.hid hk4
                  clear hk4
                  go_wp2
                  go_roundw
                  case rel => exact ⟨k + 1, by go_num, by omega, by rw [HGS.out], HK4.out⟩
                  case measure => simp [intOf]; omega
            · obtain rfl : k = subs.length := by omega
              have HE : Hid (givenTo s q l subs.length = oneIf tk) := by
                show _ = _
                rw [← hlen, givenTo_all, HG.out]
              rw [HE.out]
              by_cases h0 : tk.length = 0
              · have o : oneIf tk = 0 := if_pos h0
                have HO := Lib.hid o
                rw [o]
                clear o
                have h0' : (tk.length : Int) = 0 := by omega
                go_wp2
                go_roundw
                case rel => exact ⟨q + 1, by go_num, by omega, by rw [HNN.out, HO.out]; go_num, HK3.out⟩
                case measure => simp [intOf]; omega
              · have o : oneIf tk = 1 := if_neg h0
                have HO := Lib.hid o
                rw [o]
                clear o
                have h0' : (0 : Int) < tk.length := by omega
                go_wp2
                go_roundw
                case rel => exact ⟨q + 1, by go_num, by omega, by rw [HNN.out, HO.out]; go_num, HK3.out⟩
                case measure => simp [intOf]; omega
        · obtain rfl : q = p := by omega
          go_wp2
          go_roundw
          case rel => exact ⟨t + 1, by go_num, by omega, by rw [HMU.out], K0.tr HKT.out HK2.out⟩
          case measure => simp [intOf]; omega
    · obtain rfl : t = tops.length := by omega
      have hsum : ∀ i, ((l.take i).map fun sh => sh.parts.length).sum ≤ mustTo subs tops tops.length := fun i => by
        have h5 := sum_take_le (fun sh : ShareC => sh.parts.length) l i
        have h6 := HW.out.sum
        unfold total at h6
        omega
      have HSM := Lib.hid hsum
      clear hbr hsum
      generalize hm0 : mustTo subs tops tops.length = m0 at hmu HSM ⊢
      have HM0 := Lib.hid hm0
      clear hm0
      go_wp2
      go_loopw [16, 17] (fun al i wq => ∃ i' : Nat, i = .int .i64 i' ∧ i' ≤ subs.length ∧ al = .int .i64 (((l.take i').map fun sh => sh.parts.length).sum : Nat) ∧ K0 w wq) (fun _ i _ => subs.length - (intOf i).toNat)
      case atStart => exact ⟨0, rfl, by omega, by simp, HK.out⟩
      case round =>
        obtain ⟨i, rfl, hi, rfl, hk6⟩ := hrel
        have HK6 := Lib.hid hk6
        by_cases hlt6 : i < subs.length
        · have hil : i < l.length := by omega
          have hb6 := K0.after hk6 HB.out
          obtain ⟨b3, off3, rfl, r3⟩ := HL.out.row hil
          obtain ⟨b1, off1, rfl, r1⟩ := HS.out.row hlt6
          obtain ⟨pa, pc, x0, x1, hbl3, _⟩ := share_cells r3 hb6 i hil
          obtain ⟨ta1, tc1, y0, y1, hbl4, _⟩ := sub_cells r1 hb6 i hlt6
          have hme := HW.out.mem i hil hlt6
          rw [← hme] at y0
          have HST := Lib.hid (sum_take (fun sh : ShareC => sh.parts.length) l i hil)
          have hle := HSM.out (i + 1)
          rw [HST.out] at hle
          clear hk6 hb6 r3 r1 hme y1
          generalize l[i].member = mm at x0 y0
          generalize l[i].parts.length = pl at x1 HST hle
          have hmm : (mm != mm) = false := by simp
          generalize ((l.take i).map fun sh => sh.parts.length).sum = a0 at HST hle ⊢
          have i0 : (0 : Int) ≤ i := by omega
          have i1 : (i : Int) < subs.length := by omega
          go_wp2_with fail
          go_quiet (fail)
          go_wp2
          go_roundw
          case rel => exact ⟨i + 1, by go_num, by omega, by rw [HST.out]; go_num, HK6.out.drewN _⟩
          case measure => simp [intOf]; omega
        · obtain rfl : i = subs.length := by omega
          have HTT : Hid (((l.take subs.length).map fun sh => sh.parts.length).sum = m0) := by
            show _ = _
            have h6 := HW.out.sum
            rw [← hlen, List.take_length, ← HM0.out]
            exact h6
          rw [HTT.out]
          clear hk6
          go_wp2
          go_ret
          exact ⟨by simp, HK6.out⟩
end Go.Proofs.Ytncblldhfmabbaa
