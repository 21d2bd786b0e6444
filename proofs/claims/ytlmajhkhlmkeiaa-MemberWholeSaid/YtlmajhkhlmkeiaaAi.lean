/-
  The package assign's Range: what it computes.
-/
import Derived.Test.YtlmajhkhlmkeiaaAh
namespace Go.Proofs.Ytlmajhkhlmkeiaa
open Go.RowKit Fx

/-- What Range and Round answer. -/
def DealPost (w : World) (er : Int) (l : List ShareC) (e : Ending) (w' : World) : Prop :=
  (er = 1 ∧ e = .returned (.tuple #[.slice none 0 0, .int .i64 1]) ∧ K0 w w') ∨
  (er = 0 ∧ ∃ v F vs, e = .returned (.tuple #[v, .int .i64 0]) ∧ SharesAt w' F v l vs ∧ (∀ k, F k → w.heap.size ≤ k) ∧ K0 w w')
def OutRel (w : World) (d : Nat) (sv : Value) (l : List ShareC) (wr : World) : Prop :=
  ∃ F, DealAt wr d sv F l ∧ (∀ j, F j → w.heap.size ≤ j) ∧ K0 w wr
theorem chk_ok {subs : List SubC} {tops : List TopC} (h : chk subs tops = 0) : subs.length ≤ 20 ∧ tops.length ≤ 20 ∧ ∀ j (h : j < tops.length), 1 ≤ tops[j].parts ∧ tops[j].parts ≤ 16 := by
  unfold chk at h
  split at h
  · rename_i hc
    simp only [checkB, Bool.and_eq_true, decide_eq_true_eq, List.all_eq_true] at hc
    exact ⟨hc.1.1.1.1.1, hc.1.1.1.1.2, fun j hj => topOk_parts _ (hc.2 _ (List.getElem_mem hj))⟩
  · cases h
theorem chk_cases (subs : List SubC) (tops : List TopC) : chk subs tops = 0 ∨ chk subs tops = 1 := by unfold chk; split <;> simp

theorem cnt_int (p n k : Nat) (hk : k < n) (hp : 1 ≤ (p : Int)) : ((p : Int) + n - 1 - k) / n = (cntOf p n k : Nat) := by
  unfold cntOf
  rw [Int.natCast_ediv]
  congr 1
  omega
set_option maxRecDepth 100000 in
set_option maxHeartbeats 2000000 in
theorem range9 (w0 w : World) (sa ta : Option Addr) (sc tc : Nat) (subs : List SubC) (tops : List TopC) (hs : SlAt 2 rSub w0 sa sc subs) (ht : SlAt 2 rTop w0 ta tc tops) (hb : Below w0.heap.size w0 w) :
    Calls Try.prog 55 #[.slice sa subs.length sc, .slice ta tops.length tc] w (DealPost w (chk subs tops) (rangeL subs tops)) := by
  have HC := Lib.hid (check14 w0 w sa ta sc tc subs tops hs ht hb)
  rcases chk_cases subs tops with hc | hc
  · rw [hc] at HC
    have hok := chk_ok hc
    obtain ⟨l1, l2, l3⟩ := hok
    have HCK := Lib.hid hc
    have HL3 := Lib.hid l3
    have hmt := ht.len
    have HS := Lib.hid hs
    have HT := Lib.hid ht
    have HB := Lib.hid hb
    clear hs ht hb hc l3
    go_enter Try.func55, Try.ntmps55
    go_wp2_with fail
    refine HC.out.mono ?_
    rintro e w1 ⟨rfl, k1⟩
    go_wp2_with fail
    refine (begin18 w0 w1 sa sc subs HS.out (K0.after k1 HB.out) (by omega)).mono ?_
    rintro e w2 ⟨rfl, F0, hD0, hF0, k2⟩
    have k12 := K0.tr k1 k2
    have hd0 : OutRel w w1.heap.size (.slice sa subs.length sc) (rangeTo subs tops 0) w2 := ⟨F0, by simpa [rangeTo, emptyTo_all] using hD0, fun j e => by have := hF0 j e; have := k1.size; omega, k12⟩
    clear k1 k2 k12 hF0 hD0 HC
    go_wp2
    generalize w1.heap.size = d at hd0 ⊢
    go_loopw [25] (fun i wr => ∃ (t : Nat), i = .int .i64 t ∧ t ≤ tops.length ∧ OutRel w d (.slice sa subs.length sc) (rangeTo subs tops t) wr) (fun i _ => tops.length - (intOf i).toNat)
    case atStart => exact ⟨0, rfl, by omega, hd0⟩
    case round =>
      clear hd0
      obtain ⟨t, rfl, ht, F, hD, hF, hkw⟩ := hrel
      have hbr := hkw.after HB.out
      have HK := Lib.hid hkw
      have HF := Lib.hid hF
      have HD := Lib.hid hD
      clear hF hkw
      by_cases hlt : t < tops.length
      · obtain ⟨b, off, rfl, hr'⟩ := HT.out.row hlt
        obtain ⟨c0, c1, hbl⟩ := top_cells hr' hbr t hlt
        obtain ⟨p, hp⟩ : ∃ p : Nat, tops[t].parts = p := ⟨tops[t].parts.toNat, by have := HL3.out t hlt; omega⟩
        have HG : Hid (tops.getD t ⟨⟨#[]⟩, 0⟩ = tops[t]) := by simp [Hid, List.getD, hlt]
        have hp1 := HL3.out t hlt
        rw [hp] at c1 hp1
        have HP := Lib.hid hp
        generalize hsn : tops[t].name = s at c0
        have HN := Lib.hid hsn
        clear hr' hp hsn
        have hdcell := DealAt.keep hD ((Keeps.refl (fun _ => False) wr).alloc (.cells #[.string s, .int .i64 p] 59))
        obtain ⟨v0, vs0, hd1, hS1, hF1⟩ := hdcell
        have hd2 := block_cell hd1 0
        simp only [List.getElem?_toArray, List.getElem?_cons_zero] at hd2
        have HTK := Lib.hid (takers19 w0 (wr.alloc (.cells #[.string s, .int .i64 p] 59)) d (.slice sa subs.length sc) sa sc subs s HS.out (hbr.alloc hbr.size _) (by omega) hd2)
        have HD1 := Lib.hid (DealAt.keep hD ((Keeps.refl (fun _ => False) wr).alloc (.cells #[.string s, .int .i64 p] 59)))
        have hbox : ¬ F wr.heap.size := fun e => by have := hD.lt e; omega
        have HBX := Lib.hid hbox
        clear hd1 hS1 hF1 hd2 hbr hD hbox
        go_wp2_with fail
        refine HTK.out.mono ?_
        rintro e wt ⟨ta', cap', rfl, hsl, hkt, hfr⟩
        have hx0 : wt.cell? ⟨wr.heap.size, 0, none⟩ = some (.string s) := hkt.cell' (by simp) (fun e => e)
        have hx1 : wt.cell? ⟨wr.heap.size, 1, none⟩ = some (.int .i64 p) := hkt.cell' (by simp) (fun e => e)
        have hMid : MidRel wt d (.slice sa subs.length sc) F (rangeTo subs tops t) wt := ⟨F, DealAt.keep HD1.out hkt, Keeps.refl _ _, fun j e => .inl e⟩
        have hsl' := Lib.hid hsl
        have HFR := Lib.hid hfr
        have HKT := Lib.hid hkt
        have hmid0 := Lib.hid hMid
        clear hsl hfr hkt hMid HD1 HTK
        have hnl : (takersL subs s).length ≤ 20 := Nat.le_trans (takeTo_len _ _ _) l1
        generalize htk : takersL subs s = tk at hsl' HFR hnl ⊢
        have HTKL := Lib.hid htk
        clear htk
        have hLO := Lib.hid (LOk.range l1 HL3.out t (by omega))
        generalize hL : rangeTo subs tops t = L at hmid0 hLO
        have HL := Lib.hid hL
        clear hL
        go_wp2
        go_loopw [11, 35] (fun nx i wq => ∃ (k : Nat), i = .int .i64 k ∧ k ≤ tk.length ∧ nx = .int .i64 (serveTo tk s p k L).2 ∧ MidRel wt d (.slice sa subs.length sc) F (serveTo tk s p k L).1 wq) (fun _ i _ => tk.length - (intOf i).toNat)
        case atStart => exact ⟨0, rfl, by omega, rfl, hmid0.out⟩
        case round =>
          obtain ⟨wo, rfl⟩ : ∃ wo : World, wo = wr := ⟨_, rfl⟩
          obtain ⟨k, rfl, hk, rfl, F1, hD1, hK1, hF1⟩ := hrel
          by_cases hlt2 : k < tk.length
          · obtain ⟨b2, off2, rfl, hr2⟩ := hsl'.out.row hlt2
            have hb2 : ¬ F b2 := fun e => by have := HFR.out b2 rfl; have := HD.out.lt e; simp at *; omega
            obtain ⟨d0, hbl2⟩ := nat_cells hr2 hK1 hb2 k hlt2
            have y0 := hK1.cell' hx0 HBX.out
            have y1 := hK1.cell' hx1 HBX.out
            have hm1 : tk[k] < subs.length := by have h5 := HTKL.out; subst h5; exact takers_lt hlt2
            clear hr2 hb2
            have HLk := Lib.hid (hLO.out.serve (p := p) tk s k)
            have hcl := serve_next tk s p L k
            have hcl2 : k * p ≤ 20 * 16 := Nat.mul_le_mul (by omega) (by omega)
            have hcl3 : (serveTo tk s p k L).2 ≤ 320 := by omega
            have HSU : Hid (serveTo tk s p (k + 1) L = (giveRun tk[k] s (cntOf p tk.length k) (serveTo tk s p k L).2 (serveTo tk s p k L).1, (serveTo tk s p k L).2 + cntOf p tk.length k)) := by
              show _ = _
              simp only [serveTo, List.getD, List.getElem?_eq_getElem hlt2, Option.getD_some]
            clear hcl hcl2
            generalize hsv : serveTo tk s p k L = sv at hD1 hcl3 HLk HSU ⊢
            obtain ⟨lk, nx⟩ := sv
            clear hsv
            dsimp only at hD1 hcl3 HLk HSU ⊢
            have hE := cnt_int p tk.length k hlt2 hp1.1
            have hq1 : 0 ≤ ((p : Int) + tk.length - 1 - k) / tk.length := by rw [hE]; omega
            have hq2 : ((p : Int) + tk.length - 1 - k) / tk.length ≤ 36 := by rw [hE]; have := cnt_le p tk.length k hlt2; have := Nat.div_le_self (p + tk.length - 1 - k) tk.length; unfold cntOf; omega
            have HE := Lib.hid hE
            clear hE
            generalize tk[k] = m at d0 hm1 HSU ⊢
            go_wp2_with fail
            generalize ((p : Int) + tk.length - 1 - k) / tk.length = E at HE hq1 hq2 ⊢
            have HKo := Lib.hid hK1
            have HFo := Lib.hid hF1
            have hMo : MidRel wt d (.slice sa subs.length sc) F (giveRun m s 0 nx lk) wo := ⟨F1, hD1, hK1, hF1⟩
            clear hK1 hF1 hD1
            go_loopw [11] (fun nn wq => ∃ (j : Nat), nn = .int .i64 ((nx : Int) + j) ∧ (j : Int) ≤ E ∧ MidRel wt d (.slice sa subs.length sc) F (giveRun m s j nx lk) wq) (fun nn _ => (nx + E - intOf nn).toNat)
            case atStart => exact ⟨0, by simp, hq1, hMo⟩
            case round =>
              clear hMo
              obtain ⟨j, rfl, hj, F2, hD2, hK2, hF2⟩ := hrel
              by_cases hlt3 : (j : Int) < E
              · have y2 := hK2.cell' hx0 HBX.out
                have hLj := HLk.out.run m s j nx
                have hG2 := give20 wr d _ F2 _ m s ((nx : Int) + j) hD2 (by rw [hLj.1]; exact hm1) (by rw [hLj.1]; omega) (Nat.le_trans (hLj.2 m (by rw [hLj.1]; exact hm1)) (by have := HE.out; omega))
                have HG2 := Lib.hid hG2
                have HK2 := Lib.hid hK2
                have HF2 := Lib.hid hF2
                clear hG2 hLj hK2 hF2 hD2 y0 y1
                have hlt4 : (nx : Int) + j < nx + E := by omega
                go_wp2_with fail
                refine HG2.out.mono ?_
                rintro e wz ⟨rfl, F3, hD3, hF3, hK3⟩
                have HM := Lib.hid (MidRel.give HK2.out HF2.out hD3 hF3 hK3)
                clear hD3 hF3 hK3
                go_wp2
                go_roundw
                case rel => exact ⟨j + 1, by go_num, by omega, by rw [giveRun_succ]; exact HM.out⟩
                case measure => simp [intOf]; omega
              · have hlt4 : ¬ (nx : Int) + j < nx + E := by omega
                have HM : Hid (MidRel wt d (.slice sa subs.length sc) F (serveTo tk s p (k + 1) L).1 wr) := by
                  rw [HSU.out]
                  obtain rfl : j = cntOf p tk.length k := by have := HE.out; omega
                  exact ⟨F2, hD2, hK2, hF2⟩
                have HN2 : Hid ((nx : Int) + j = (serveTo tk s p (k + 1) L).2) := by
                  rw [HSU.out]
                  have := HE.out
                  show (nx : Int) + j = (nx + cntOf p tk.length k : Nat)
                  omega
                clear hK2 hF2 hD2 y0 y1
                go_wp2
                go_roundw
                case rel => exact ⟨k + 1, by go_num, by omega, by rw [HN2.out], HM.out⟩
                case measure => simp [intOf]; omega
          · obtain rfl : k = tk.length := by omega
            have HM : Hid (OutRel w d (.slice sa subs.length sc) (rangeTo subs tops (t + 1)) wo) := by
              have hq : rangeTo subs tops (t + 1) = (serveTo tk s p tk.length L).1 := by
                simp only [rangeTo]
                rw [HG.out, HN.out, HTKL.out, HP.out, HL.out]
                rfl
              rw [hq]
              refine ⟨F1, hD1, fun j e => ?_, ?_⟩
              · rcases hF1 j e with e | e
                · exact HF.out j e
                · have := HK.out.size; have := HKT.out.size; simp at this; omega
              · exact (K0.tr (K0.tr HK.out ((Keeps.refl (fun _ => False) _).alloc _)) HKT.out).trans hK1 (fun j hj e => by have := HF.out j e; omega)
            clear hD1 hK1 hF1
            go_wp2
            go_roundw
            case rel => exact ⟨t + 1, by go_num, by omega, HM.out⟩
            case measure => simp [intOf]; omega
      · obtain rfl : t = tops.length := by omega
        obtain ⟨v, vs, hd1, hS1, hF1⟩ := HD.out
        have hc1 := block_cell hd1 1
        simp only [List.getElem?_toArray, List.getElem?_cons_succ, List.getElem?_cons_zero] at hc1
        have HS1 := Lib.hid hS1
        clear hd1 hS1 hF1 hbr hD
        go_wp2
        go_ret2
        exact .inr ⟨HCK.out, v, F, vs, rfl, HS1.out, HF.out, HK.out⟩
  · rw [hc] at HC
    clear hs ht hb
    go_enter Try.func55, Try.ntmps55
    go_wp2_with fail
    refine HC.out.mono ?_
    rintro e w1 ⟨rfl, k1⟩
    go_wp2
    go_ret2
    exact .inl ⟨hc, rfl, k1⟩
end Go.Proofs.Ytlmajhkhlmkeiaa
