/-
  The package assign's Round: what it computes.
-/
import Derived.Test.YtlmajhkhlmkeiaaAj
namespace Go.Proofs.Ytlmajhkhlmkeiaa
open Go.RowKit Fx

/-- Whom a partition goes to, behind the one that got the last one. -/
def nextOf (tk : List Nat) (last : Int) : Nat := tk.getD (below tk (last + 1) % tk.length) 0
/-- The first p partitions of a topic, dealt one by one. -/
def roundParts (tk : List Nat) (s : ByteArray) : (p : Nat) → List ShareC × Int → List ShareC × Int
  | 0, st => st
  | p + 1, st => (giveL (roundParts tk s p st).1 (nextOf tk (roundParts tk s p st).2) s p, nextOf tk (roundParts tk s p st).2)
/-- The first t topics, dealt one by one. -/
def roundTo (subs : List SubC) (tops : List TopC) : (t : Nat) → List ShareC × Int
  | 0 => (emptyL subs, -1)
  | t + 1 => if (takersL subs (tops.getD t ⟨⟨#[]⟩, 0⟩).name).length = 0 then roundTo subs tops t
    else roundParts (takersL subs (tops.getD t ⟨⟨#[]⟩, 0⟩).name) (tops.getD t ⟨⟨#[]⟩, 0⟩).name (tops.getD t ⟨⟨#[]⟩, 0⟩).parts.toNat (roundTo subs tops t)
def roundL (subs : List SubC) (tops : List TopC) : List ShareC := (roundTo subs tops tops.length).1

theorem LOk.parts {n c : Nat} (tk : List Nat) (s : ByteArray) {st : List ShareC × Int} (h : LOk n c st.1) : ∀ p, LOk n (c + p) (roundParts tk s p st).1
  | 0 => h
  | p + 1 => (LOk.parts tk s h p).give _ _ _
theorem LOk.round {subs : List SubC} {tops : List TopC} (ht : ∀ j (h : j < tops.length), 1 ≤ tops[j].parts ∧ tops[j].parts ≤ 16) : ∀ t, t ≤ tops.length → LOk subs.length (t * 16) (roundTo subs tops t).1
  | 0, _ => by simpa [roundTo] using LOk.empty subs
  | t + 1, h => by
    have h1 := LOk.round (subs := subs) ht t (by omega)
    have h5 : (tops.getD t ⟨⟨#[]⟩, 0⟩).parts.toNat ≤ 16 := by
      have := (ht t (by omega)).2
      simp only [List.getD, List.getElem?_eq_getElem (show t < tops.length by omega), Option.getD_some]
      omega
    simp only [roundTo]
    split
    · exact h1.mono (by omega)
    · exact (LOk.parts _ _ h1 _).mono (by omega)
theorem takers_rise (subs : List SubC) (s : ByteArray) : (takersL subs s).Pairwise (· < ·) := by
  unfold takersL takeTo
  exact List.Pairwise.filter _ List.pairwise_lt_range
theorem nextOf_lt {subs : List SubC} {s : ByteArray} (h : (takersL subs s).length ≠ 0) (last : Int) : nextOf (takersL subs s) last < subs.length := by
  have hm : below (takersL subs s) (last + 1) % (takersL subs s).length < (takersL subs s).length := Nat.mod_lt _ (by omega)
  unfold nextOf
  rw [List.getD, List.getElem?_eq_getElem hm, Option.getD_some]
  exact takers_lt hm
theorem roundTo_last {subs : List SubC} {tops : List TopC} : ∀ t, -1 ≤ (roundTo subs tops t).2 ∧ (roundTo subs tops t).2 < subs.length
  | 0 => by simp [roundTo]; omega
  | t + 1 => by
    simp only [roundTo]
    split
    · exact roundTo_last t
    · rename_i hne
      have : ∀ p, -1 ≤ (roundParts (takersL subs (tops.getD t ⟨⟨#[]⟩, 0⟩).name) (tops.getD t ⟨⟨#[]⟩, 0⟩).name p (roundTo subs tops t)).2 ∧ (roundParts (takersL subs (tops.getD t ⟨⟨#[]⟩, 0⟩).name) (tops.getD t ⟨⟨#[]⟩, 0⟩).name p (roundTo subs tops t)).2 < subs.length := by
        intro p
        cases p with
        | zero => exact roundTo_last t
        | succ p =>
          have := nextOf_lt hne (roundParts (takersL subs (tops.getD t ⟨⟨#[]⟩, 0⟩).name) (tops.getD t ⟨⟨#[]⟩, 0⟩).name p (roundTo subs tops t)).2
          simp only [roundParts]
          omega
      exact this _

theorem below_le (l : List Nat) (x : Int) : below l x ≤ l.length := List.length_filter_le _ _

set_option maxRecDepth 100000 in
set_option maxHeartbeats 2000000 in
theorem round11 (w0 w : World) (sa ta : Option Addr) (sc tc : Nat) (subs : List SubC) (tops : List TopC) (hs : SlAt 2 rSub w0 sa sc subs) (ht : SlAt 2 rTop w0 ta tc tops) (hb : Below w0.heap.size w0 w) :
    Calls Try.prog 56 #[.slice sa subs.length sc, .slice ta tops.length tc] w (DealPost w (chk subs tops) (roundL subs tops)) := by
  have HC := Lib.hid (check14 w0 w sa ta sc tc subs tops hs ht hb)
  rcases chk_cases subs tops with hc | hc
  · rw [hc] at HC
    have hok := chk_ok hc
    obtain ⟨l1, l2, l3⟩ := hok
    have HCK := Lib.hid hc
    have HL3 := Lib.hid l3
    have hmt := ht.len
    have HS := Lib.hid hs
    have HT := Lib.hid ht
    have HB := Lib.hid hb
    clear hs ht hb hc l3
    go_enter Try.func56, Try.ntmps56
    go_wp2_with fail
    refine HC.out.mono ?_
    rintro e w1 ⟨rfl, k1⟩
    go_wp2_with fail
    refine (begin18 w0 w1 sa sc subs HS.out (K0.after k1 HB.out) (by omega)).mono ?_
    rintro e w2 ⟨rfl, F0, hD0, hF0, k2⟩
    have k12 := K0.tr k1 k2
    have hd0 : OutRel w w1.heap.size (.slice sa subs.length sc) (roundTo subs tops 0).1 w2 := ⟨F0, by simpa [roundTo, emptyTo_all] using hD0, fun j e => by have := hF0 j e; have := k1.size; omega, k12⟩
    clear k1 k2 k12 hF0 hD0 HC
    go_wp2
    generalize w1.heap.size = d at hd0 ⊢
    go_loopw [8, 25] (fun la i wr => ∃ (t : Nat), i = .int .i64 t ∧ t ≤ tops.length ∧ la = .int .i64 (roundTo subs tops t).2 ∧ OutRel w d (.slice sa subs.length sc) (roundTo subs tops t).1 wr) (fun _ i _ => tops.length - (intOf i).toNat)
    case atStart => exact ⟨0, rfl, by omega, rfl, hd0⟩
    case round =>
      clear hd0
      obtain ⟨t, rfl, ht, rfl, F, hD, hF, hkw⟩ := hrel
      have hbr := hkw.after HB.out
      have HK := Lib.hid hkw
      have HF := Lib.hid hF
      have HD := Lib.hid hD
      clear hF hkw
      by_cases hlt : t < tops.length
      · obtain ⟨b, off, rfl, hr'⟩ := HT.out.row hlt
        obtain ⟨c0, c1, hbl⟩ := top_cells hr' hbr t hlt
        obtain ⟨p, hp⟩ : ∃ p : Nat, tops[t].parts = p := ⟨tops[t].parts.toNat, by have := HL3.out t hlt; omega⟩
        have HG : Hid (tops.getD t ⟨⟨#[]⟩, 0⟩ = tops[t]) := by simp [Hid, List.getD, hlt]
        have hp1 := HL3.out t hlt
        rw [hp] at c1 hp1
        have HP := Lib.hid hp
        generalize hsn : tops[t].name = s at c0
        have HN := Lib.hid hsn
        clear hr' hp hsn
        have hdcell := DealAt.keep hD ((Keeps.refl (fun _ => False) wr).alloc (.cells #[.string s, .int .i64 p] 59))
        obtain ⟨v0, vs0, hd1, hS1, hF1⟩ := hdcell
        have hd2 := block_cell hd1 0
        simp only [List.getElem?_toArray, List.getElem?_cons_zero] at hd2
        have HTK := Lib.hid (takers19 w0 (wr.alloc (.cells #[.string s, .int .i64 p] 59)) d (.slice sa subs.length sc) sa sc subs s HS.out (hbr.alloc hbr.size _) (by omega) hd2)
        have HD1 := Lib.hid (DealAt.keep hD ((Keeps.refl (fun _ => False) wr).alloc (.cells #[.string s, .int .i64 p] 59)))
        have hbox : ¬ F wr.heap.size := fun e => by have := hD.lt e; omega
        have HBX := Lib.hid hbox
        clear hd1 hS1 hF1 hd2 hbr hD hbox
        go_wp2_with fail
        refine HTK.out.mono ?_
        rintro e wt ⟨ta', cap', rfl, hsl, hkt, hfr⟩
        have hx0 : wt.cell? ⟨wr.heap.size, 0, none⟩ = some (.string s) := hkt.cell' (by simp) (fun e => e)
        have hx1 : wt.cell? ⟨wr.heap.size, 1, none⟩ = some (.int .i64 p) := hkt.cell' (by simp) (fun e => e)
        have hsl' := Lib.hid hsl
        have HFR := Lib.hid hfr
        have HKT := Lib.hid hkt
        have hmid0 : Hid (MidRel wt d (.slice sa subs.length sc) F (roundTo subs tops t).1 wt) := ⟨F, DealAt.keep HD1.out hkt, Keeps.refl _ _, fun j e => .inl e⟩
        clear hsl hfr hkt HD1 HTK
        have hnl : (takersL subs s).length ≤ 20 := Nat.le_trans (takeTo_len _ _ _) l1
        have HRI := Lib.hid (takers_rise subs s)
        have HNX := Lib.hid (fun (h : (takersL subs s).length ≠ 0) la => nextOf_lt (subs := subs) (s := s) h la)
        generalize htk : takersL subs s = tk at hsl' HFR hnl HRI HNX ⊢
        have HTKL := Lib.hid htk
        clear htk
        have hLO := Lib.hid (LOk.round (subs := subs) HL3.out t (by omega))
        have hla := roundTo_last (subs := subs) (tops := tops) t
        generalize hL : roundTo subs tops t = L at hmid0 hLO hla ⊢
        have HL := Lib.hid hL
        clear hL
        by_cases hn0 : tk.length = 0
        · have HM : Hid (roundTo subs tops (t + 1) = L) := by
            show _ = _
            simp only [roundTo]
            rw [HG.out, HN.out, HTKL.out, if_pos hn0, HL.out]
          have HO : Hid (OutRel w d (.slice sa subs.length sc) L.1 wt) := by
            obtain ⟨F1, hD1, hK1, hF1⟩ := hmid0.out
            exact ⟨F1, hD1, fun j e => (hF1 j e).elim (HF.out j) (fun e => by have := HK.out.size; have := HKT.out.size; simp at this; omega), K0.tr (K0.tr HK.out ((Keeps.refl (fun _ => False) _).alloc _)) HKT.out⟩
          rw [hn0]
          go_wp2
          go_roundw
          case rel => exact ⟨t + 1, by go_num, by omega, by rw [HM.out], by rw [HM.out]; exact HO.out⟩
          case measure => simp [intOf]; omega
        · have hn1 : ((tk.length : Int) == 0) = false := beq_eq_false_iff_ne.2 (by omega)
          go_wp2
          go_loopw [8, 38] (fun la i wq => ∃ (k : Nat), i = .int .i64 k ∧ k ≤ p ∧ la = .int .i64 (roundParts tk s k L).2 ∧ MidRel wt d (.slice sa subs.length sc) F (roundParts tk s k L).1 wq ∧ -1 ≤ (roundParts tk s k L).2 ∧ (roundParts tk s k L).2 < subs.length) (fun _ i _ => p - (intOf i).toNat)
          case atStart => exact ⟨0, rfl, by omega, rfl, hmid0.out, hla.1, hla.2⟩
          case round =>
            obtain ⟨wo, rfl⟩ : ∃ wo : World, wo = wr := ⟨_, rfl⟩
            obtain ⟨k, rfl, hk, rfl, ⟨F1, hD1, hK1, hF1⟩, hq1, hq2⟩ := hrel
            by_cases hlt2 : k < p
            · have hlt3 : (k : Int) < p := by omega
              have y0 := hK1.cell' hx0 HBX.out
              have HLk := Lib.hid (LOk.parts tk s hLO.out k)
              have HSU : Hid (roundParts tk s (k + 1) L = (giveL (roundParts tk s k L).1 (nextOf tk (roundParts tk s k L).2) s k, ((nextOf tk (roundParts tk s k L).2 : Nat) : Int))) := rfl
              generalize hsv : roundParts tk s k L = sv at hD1 HLk HSU hq1 hq2 ⊢
              obtain ⟨lk, la⟩ := sv
              clear hsv
              dsimp only at hD1 HLk HSU hq1 hq2 ⊢
              have hfb : ∀ b, (Value.slice ta' tk.length cap').ownBlock = some b → ¬ F b := fun b hb e => by have := HFR.out b hb; have := HD.out.lt e; simp at *; omega
              have HSE := Lib.hid (search22 wt wo F ta' cap' tk (la + 1) hsl'.out hK1 hfb HRI.out (by omega))
              have hmod : below tk (la + 1) % tk.length < tk.length := Nat.mod_lt _ (by omega)
              obtain ⟨b2, off2, rfl, hr2⟩ := hsl'.out.row hmod
              obtain ⟨d0, hbl2⟩ := nat_cells hr2 hK1 (hfb b2 rfl) _ hmod
              have hnx : Hid (tk[below tk (la + 1) % tk.length] = nextOf tk la) := by simp [Hid, nextOf, List.getD, List.getElem?_eq_getElem hmod]
              have hnl2 := HNX.out hn0 la
              rw [hnx.out] at d0
              have hbe := below_le tk (la + 1)
              generalize nextOf tk la = m at d0 HSU hnl2
              generalize below tk (la + 1) = bb at HSE d0 hmod hbe
              clear hr2 hfb hnx
              go_wp2_with fail
              refine HSE.out.mono ?_
              rintro e wz ⟨⟨f, rfl⟩, rfl⟩
              have i1 : (0 : Int) ≤ bb := by omega
              have i2 : (1 : Int) ≤ tk.length := by omega
              have i3 : (0 : Int) ≤ (bb : Int) % tk.length := by omega
              have i4 : (bb : Int) % tk.length < tk.length := by omega
              have hG2 := give20 wo d _ F1 _ m s k hD1 (by rw [HLk.out.1]; exact hnl2) (by rw [HLk.out.1]; omega) (Nat.le_trans (HLk.out.2 m (by rw [HLk.out.1]; exact hnl2)) (by omega))
              have HG2 := Lib.hid hG2
              have HK2 := Lib.hid hK1
              have HF2 := Lib.hid hF1
              clear hG2 hK1 hF1 hD1
              go_wp2_with fail
              refine HG2.out.mono ?_
              rintro e wz ⟨rfl, F3, hD3, hF3, hK3⟩
              have HM := Lib.hid (MidRel.give HK2.out HF2.out hD3 hF3 hK3)
              clear hD3 hF3 hK3
              go_wp2
              go_roundw
              case rel => exact ⟨k + 1, by go_num, by omega, by rw [HSU.out], by rw [HSU.out]; exact HM.out, by rw [HSU.out]; show -1 ≤ (m : Int); omega, by rw [HSU.out]; show (m : Int) < _; omega⟩
              case measure => simp [intOf]; omega
            · have hlt3 : ¬ (k : Int) < p := by omega
              obtain rfl : k = p := by omega
              have HM : Hid (roundTo subs tops (t + 1) = roundParts tk s k L) := by
                show _ = _
                simp only [roundTo]
                rw [HG.out, HN.out, HTKL.out, if_neg hn0, HP.out, HL.out]
                rfl
              have HO : Hid (OutRel w d (.slice sa subs.length sc) (roundParts tk s k L).1 wo) :=
                ⟨F1, hD1, fun j e => (hF1 j e).elim (HF.out j) (fun e => by have := HK.out.size; have := HKT.out.size; simp at this; omega),
                  (K0.tr (K0.tr HK.out ((Keeps.refl (fun _ => False) _).alloc _)) HKT.out).trans hK1 (fun j hj e => by have := HF.out j e; omega)⟩
              clear hD1 hK1 hF1
              go_wp2
              go_roundw
              case rel => exact ⟨t + 1, by go_num, by omega, by rw [HM.out], by rw [HM.out]; exact HO.out⟩
              case measure => simp [intOf]; omega
      · obtain rfl : t = tops.length := by omega
        obtain ⟨v, vs, hd1, hS1, hF1⟩ := HD.out
        have hc1 := block_cell hd1 1
        simp only [List.getElem?_toArray, List.getElem?_cons_succ, List.getElem?_cons_zero] at hc1
        have HS1 := Lib.hid hS1
        clear hd1 hS1 hF1 hbr hD
        go_wp2
        go_ret2
        exact .inr ⟨HCK.out, v, F, vs, rfl, HS1.out, HF.out, HK.out⟩
  · rw [hc] at HC
    clear hs ht hb
    go_enter Try.func56, Try.ntmps56
    go_wp2_with fail
    refine HC.out.mono ?_
    rintro e w1 ⟨rfl, k1⟩
    go_wp2
    go_ret2
    exact .inl ⟨hc, rfl, k1⟩
end Go.Proofs.Ytlmajhkhlmkeiaa
