/-
  The package assign's Round: what it computes.
-/
import Derived.Test.YtklhlffdpojkoaaGreatJ02
import Derived.Test.YtklhlffdpojkoaaGreatJ00
namespace Go.Proofs.YtklhlffdpojkoaaGreat
open Go.RowKit Fx

/-- Whom a partition goes to, behind the one that got the last one. -/
def nextOf (tk : List Nat) (last : Int) : Nat := tk.getD (below tk (last + 1) % tk.length) 0
/-- The first p partitions of a topic, dealt one by one. -/
def roundParts (tk : List Nat) (s : ByteArray) : (p : Nat) → List ShareC × Int → List ShareC × Int
  | 0, st => st
  | p + 1, st => (giveL (roundParts tk s p st).1 (nextOf tk (roundParts tk s p st).2) s p, nextOf tk (roundParts tk s p st).2)
/-- The first t topics, dealt one by one. -/
def roundTo (subs : List SubC) (tops : List TopC) : (t : Nat) → List ShareC × Int
  | 0 => (emptyL subs, -1)
  | t + 1 => if (takersL subs (tops.getD t ⟨⟨#[]⟩, 0⟩).name).length = 0 then roundTo subs tops t
    else roundParts (takersL subs (tops.getD t ⟨⟨#[]⟩, 0⟩).name) (tops.getD t ⟨⟨#[]⟩, 0⟩).name (tops.getD t ⟨⟨#[]⟩, 0⟩).parts.toNat (roundTo subs tops t)
def roundL (subs : List SubC) (tops : List TopC) : List ShareC := (roundTo subs tops tops.length).1

theorem LOk.parts {n c : Nat} (tk : List Nat) (s : ByteArray) {st : List ShareC × Int} (h : LOk n c st.1) : ∀ p, LOk n (c + p) (roundParts tk s p st).1
  | 0 => h
  | p + 1 => (LOk.parts tk s h p).give _ _ _
theorem LOk.round {subs : List SubC} {tops : List TopC} (ht : ∀ j (h : j < tops.length), 1 ≤ tops[j].parts ∧ tops[j].parts ≤ 16) : ∀ t, t ≤ tops.length → LOk subs.length (t * 16) (roundTo subs tops t).1
  | 0, _ => by simpa [roundTo] using LOk.empty subs
  | t + 1, h => by
    have h1 := LOk.round (subs := subs) ht t (by omega)
    have h5 : (tops.getD t ⟨⟨#[]⟩, 0⟩).parts.toNat ≤ 16 := by
      have := (ht t (by omega)).2
      simp only [List.getD, List.getElem?_eq_getElem (show t < tops.length by omega), Option.getD_some]
      omega
    simp only [roundTo]
    split
    · exact h1.mono (by omega)
    · exact (LOk.parts _ _ h1 _).mono (by omega)
theorem takers_rise (subs : List SubC) (s : ByteArray) : (takersL subs s).Pairwise (· < ·) := by
  unfold takersL takeTo
  exact List.Pairwise.filter _ List.pairwise_lt_range
theorem nextOf_lt {subs : List SubC} {s : ByteArray} (h : (takersL subs s).length ≠ 0) (last : Int) : nextOf (takersL subs s) last < subs.length := by
  have hm : below (takersL subs s) (last + 1) % (takersL subs s).length < (takersL subs s).length := Nat.mod_lt _ (by omega)
  unfold nextOf
  rw [List.getD, List.getElem?_eq_getElem hm, Option.getD_some]
  exact takers_lt hm
theorem roundTo_last {subs : List SubC} {tops : List TopC} : ∀ t, -1 ≤ (roundTo subs tops t).2 ∧ (roundTo subs tops t).2 < subs.length
  | 0 => by simp [roundTo]; omega
  | t + 1 => by
    simp only [roundTo]
    split
    · exact roundTo_last t
    · rename_i hne
      have : ∀ p, -1 ≤ (roundParts (takersL subs (tops.getD t ⟨⟨#[]⟩, 0⟩).name) (tops.getD t ⟨⟨#[]⟩, 0⟩).name p (roundTo subs tops t)).2 ∧ (roundParts (takersL subs (tops.getD t ⟨⟨#[]⟩, 0⟩).name) (tops.getD t ⟨⟨#[]⟩, 0⟩).name p (roundTo subs tops t)).2 < subs.length := by
        intro p
        cases p with
        | zero => exact roundTo_last t
        | succ p =>
          have := nextOf_lt hne (roundParts (takersL subs (tops.getD t ⟨⟨#[]⟩, 0⟩).name) (tops.getD t ⟨⟨#[]⟩, 0⟩).name p (roundTo subs tops t)).2
          simp only [roundParts]
          omega
      exact this _

theorem below_le (l : List Nat) (x : Int) : below l x ≤ l.length := List.length_filter_le _ _

set_option maxRecDepth 100000 in
set_option maxHeartbeats 2000000 in
theorem round11 (w0 w : World) (sa ta : Option Addr) (sc tc : Nat) (subs : List SubC) (tops : List TopC) (hs : SlAt 2 rSub w0 sa sc subs) (ht : SlAt 2 rTop w0 ta tc tops) (hb : Below w0.heap.size w0 w) :
    Calls Tryz.prog 108 #[.slice sa subs.length sc, .slice ta tops.length tc] w (DealPost w (chk subs tops) (roundL subs tops)) := by
  have HC := Lib.hid (check14 w0 w sa ta sc tc subs tops hs ht hb)
  rcases chk_cases subs tops with hc | hc
  · rw [hc] at HC
    have hok := chk_ok hc
    obtain ⟨l1, l2, l3⟩ := hok
    have HCK := Lib.hid hc
    have HL3 := Lib.hid l3
    have hmt := ht.len
    have HS := Lib.hid hs
    have HT := Lib.hid ht
    have HB := Lib.hid hb
    clear hs ht hb hc l3
    go_enter Tryz.func108, Tryz.ntmps108
    go_wp2_with fail
    refine HC.out.mono ?_
    rintro e w1 ⟨rfl, k1⟩
    go_wp2_with fail
    refine (begin18 w0 w1 sa sc subs HS.out (K0.after k1 HB.out) (by omega)).mono ?_
    rintro e w2 ⟨rfl, F0, hD0, hF0, k2⟩
    have k12 := K0.tr k1 k2
    have hd0 : OutRel w w1.heap.size (.slice sa subs.length sc) (roundTo subs tops 0).1 w2 := ⟨F0, by simpa [roundTo, emptyTo_all] using hD0, fun j e => by have := hF0 j e; have := k1.size; omega, k12⟩
    clear k1 k2 k12 hF0 hD0 HC
    go_wp2
    generalize w1.heap.size = d at hd0 ⊢
    go_loopw [8, 25] (fun la i wr => ∃ (t : Nat), i = .int .i64 t ∧ t ≤ tops.length ∧ la = .int .i64 (roundTo subs tops t).2 ∧ OutRel w d (.slice sa subs.length sc) (roundTo subs tops t).1 wr) (fun _ i _ => tops.length - (intOf i).toNat)
    case atStart => exact ⟨0, rfl, by omega, rfl, hd0⟩
    case round =>
      clear hd0
      obtain ⟨t, rfl, ht, rfl, F, hD, hF, hkw⟩ := hrel
      have hbr := hkw.after HB.out
      have HK := Lib.hid hkw
      have HF := Lib.hid hF
      have HD := Lib.hid hD
      clear hF hkw
      by_cases hlt : t < tops.length
      · obtain ⟨b, off, rfl, hr'⟩ := HT.out.row hlt
        obtain ⟨c0, c1, hbl⟩ := top_cells hr' hbr t hlt
        obtain ⟨p, hp⟩ : ∃ p : Nat, tops[t].parts = p := ⟨tops[t].parts.toNat, by have := HL3.out t hlt; omega⟩
        have HG : Hid (tops.getD t ⟨⟨#[]⟩, 0⟩ = tops[t]) := by simp [Hid, List.getD, hlt]
        have hp1 := HL3.out t hlt
        rw [hp] at c1 hp1
        have HP := Lib.hid hp
        generalize hsn : tops[t].name = s at c0
        have HN := Lib.hid hsn
        clear hr' hp hsn
        have hdcell := DealAt.keep hD ((Keeps.refl (fun _ => False) wr).alloc (.cells #[.string s, .int .i64 p] 152))
        obtain ⟨v0, vs0, hd1, hS1, hF1⟩ := hdcell
        have hd2 := block_cell hd1 0
        simp only [List.getElem?_toArray, List.getElem?_cons_zero] at hd2
        have HTK := Lib.hid (takers19 w0 (wr.alloc (.cells #[.string s, .int .i64 p] 152)) d (.slice sa subs.length sc) sa sc subs s HS.out (hbr.alloc hbr.size _) (by omega) hd2)
        have HD1 := Lib.hid (DealAt.keep hD ((Keeps.refl (fun _ => False) wr).alloc (.cells #[.string s, .int .i64 p] 152)))
        have hbox : ¬ F wr.heap.size := fun e => by have := hD.lt e; omega
        have HBX := Lib.hid hbox
        clear hd1 hS1 hF1 hd2 hbr hD hbox
        go_wp2_with fail
        refine HTK.out.mono ?_
        rintro e wt ⟨ta', cap', rfl, hsl, hkt, hfr⟩
        have hx0 : wt.cell? ⟨wr.heap.size, 0, none⟩ = some (.string s) := hkt.cell' (by simp) (fun e => e)
        have hx1 : wt.cell? ⟨wr.heap.size, 1, none⟩ = some (.int .i64 p) := hkt.cell' (by simp) (fun e => e)
        have hsl' := Lib.hid hsl
        have HFR := Lib.hid hfr
        have HKT := Lib.hid hkt
        have hmid0 : Hid (MidRel wt d (.slice sa subs.length sc) F (roundTo subs tops t).1 wt) := ⟨F, DealAt.keep HD1.out hkt, Keeps.refl _ _, fun j e => .inl e⟩
        clear hsl hfr hkt HD1 HTK
        have hnl : (takersL subs s).length ≤ 20 := Nat.le_trans (takeTo_len _ _ _) l1
        have HRI := Lib.hid (takers_rise subs s)
        have HNX := Lib.hid (fun (h : (takersL subs s).length ≠ 0) la => nextOf_lt (subs := subs) (s := s) h la)
        generalize htk : takersL subs s = tk at hsl' HFR hnl HRI HNX ⊢
        have HTKL := Lib.hid htk
        clear htk
        have hLO := Lib.hid (LOk.round (subs := subs) HL3.out t (by omega))
        have hla := roundTo_last (subs := subs) (tops := tops) t
        generalize hL : roundTo subs tops t = L at hmid0 hLO hla ⊢
        have HL := Lib.hid hL
        clear hL
        by_cases hn0 : tk.length = 0
        · have HM : Hid (roundTo subs tops (t + 1) = L) := by
            show _ = _
            simp only [roundTo]
            rw [HG.out, HN.out, HTKL.out, if_pos hn0, HL.out]
          have HO : Hid (OutRel w d (.slice sa subs.length sc) L.1 wt) := by
            obtain ⟨F1, hD1, hK1, hF1⟩ := hmid0.out
            exact ⟨F1, hD1, fun j e => (hF1 j e).elim (HF.out j) (fun e => by have := HK.out.size; have := HKT.out.size; simp at this; omega), K0.tr (K0.tr HK.out ((Keeps.refl (fun _ => False) _).alloc _)) HKT.out⟩
          rw [hn0]
          go_wp2
          go_roundw
          case rel => exact ⟨t + 1, by go_num, by omega, by rw [HM.out], by rw [HM.out]; exact HO.out⟩
          case measure => simp [intOf]; omega
        · have hn1 : ((tk.length : Int) == 0) = false := beq_eq_false_iff_ne.2 (by omega)
          go_wp2
          go_loopw [8, 38] (fun la i wq => ∃ (k : Nat), i = .int .i64 k ∧ k ≤ p ∧ la = .int .i64 (roundParts tk s k L).2 ∧ MidRel wt d (.slice sa subs.length sc) F (roundParts tk s k L).1 wq ∧ -1 ≤ (roundParts tk s k L).2 ∧ (roundParts tk s k L).2 < subs.length) (fun _ i _ => p - (intOf i).toNat)
          case atStart => exact ⟨0, rfl, by omega, rfl, hmid0.out, hla.1, hla.2⟩
          case round =>
            obtain ⟨wo, rfl⟩ : ∃ wo : World, wo = wr := ⟨_, rfl⟩
            obtain ⟨k, rfl, hk, rfl, ⟨F1, hD1, hK1, hF1⟩, hq1, hq2⟩ := hrel
            by_cases hlt2 : k < p
            · have hlt3 : (k : Int) < p := by omega
              have y0 := hK1.cell' hx0 HBX.out
              have HLk := Lib.hid (LOk.parts tk s hLO.out k)
              have HSU : Hid (roundParts tk s (k + 1) L = (giveL (roundParts tk s k L).1 (nextOf tk (roundParts tk s k L).2) s k, ((nextOf tk (roundParts tk s k L).2 : Nat) : Int))) := rfl
              generalize hsv : roundParts tk s k L = sv at hD1 HLk HSU hq1 hq2 ⊢
              obtain ⟨lk, la⟩ := sv
              clear hsv
              dsimp only at hD1 HLk HSU hq1 hq2 ⊢
              have hfb : ∀ b, (Value.slice ta' tk.length cap').ownBlock = some b → ¬ F b := fun b hb e => by have := HFR.out b hb; have := HD.out.lt e; simp at *; omega
              have HSE := Lib.hid (search22 wt wo F ta' cap' tk (la + 1) hsl'.out hK1 hfb HRI.out (by omega))
              have hmod : below tk (la + 1) % tk.length < tk.length := Nat.mod_lt _ (by omega)
              obtain ⟨b2, off2, rfl, hr2⟩ := hsl'.out.row hmod
              obtain ⟨d0, hbl2⟩ := nat_cells hr2 hK1 (hfb b2 rfl) _ hmod
              have hnx : Hid (tk[below tk (la + 1) % tk.length] = nextOf tk la) := by simp [Hid, nextOf, List.getD, List.getElem?_eq_getElem hmod]
              have hnl2 := HNX.out hn0 la
              rw [hnx.out] at d0
              have hbe := below_le tk (la + 1)
              generalize nextOf tk la = m at d0 HSU hnl2
              generalize below tk (la + 1) = bb at HSE d0 hmod hbe
              clear hr2 hfb hnx
              go_wp2_with fail
              refine HSE.out.mono ?_
              rintro e wz ⟨⟨f, rfl⟩, rfl⟩
              have i1 : (0 : Int) ≤ bb := by omega
              have i2 : (1 : Int) ≤ tk.length := by omega
              have i3 : (0 : Int) ≤ (bb : Int) % tk.length := by omega
              have i4 : (bb : Int) % tk.length < tk.length := by omega
              have hG2 := give20 wo d _ F1 _ m s k hD1 (by rw [HLk.out.1]; exact hnl2) (by rw [HLk.out.1]; omega) (Nat.le_trans (HLk.out.2 m (by rw [HLk.out.1]; exact hnl2)) (by omega))
              have HG2 := Lib.hid hG2
              have HK2 := Lib.hid hK1
              have HF2 := Lib.hid hF1
              clear hG2 hK1 hF1 hD1
              go_wp2_with fail
              refine HG2.out.mono ?_
              rintro e wz ⟨rfl, F3, hD3, hF3, hK3⟩
              have HM := Lib.hid (MidRel.give HK2.out HF2.out hD3 hF3 hK3)
              clear hD3 hF3 hK3
              go_wp2
              go_roundw
              case rel => exact ⟨k + 1, by go_num, by omega, by rw [HSU.out], by rw [HSU.out]; exact HM.out, by rw [HSU.out]; show -1 ≤ (m : Int); omega, by rw [HSU.out]; show (m : Int) < _; omega⟩
              case measure => simp [intOf]; omega
            · have hlt3 : ¬ (k : Int) < p := by omega
              obtain rfl : k = p := by omega
              have HM : Hid (roundTo subs tops (t + 1) = roundParts tk s k L) := by
                show _ = _
                simp only [roundTo]
                rw [HG.out, HN.out, HTKL.out, if_neg hn0, HP.out, HL.out]
                rfl
              have HO : Hid (OutRel w d (.slice sa subs.length sc) (roundParts tk s k L).1 wo) :=
                ⟨F1, hD1, fun j e => (hF1 j e).elim (HF.out j) (fun e => by have := HK.out.size; have := HKT.out.size; simp at this; omega),
                  (K0.tr (K0.tr HK.out ((Keeps.refl (fun _ => False) _).alloc _)) HKT.out).trans hK1 (fun j hj e => by have := HF.out j e; omega)⟩
              clear hD1 hK1 hF1
              go_wp2
              go_roundw
              case rel => exact ⟨t + 1, by go_num, by omega, by rw [HM.out], by rw [HM.out]; exact HO.out⟩
              case measure => simp [intOf]; omega
      · obtain rfl : t = tops.length := by omega
        obtain ⟨v, vs, hd1, hS1, hF1⟩ := HD.out
        have hc1 := block_cell hd1 1
        simp only [List.getElem?_toArray, List.getElem?_cons_succ, List.getElem?_cons_zero] at hc1
        have HS1 := Lib.hid hS1
        clear hd1 hS1 hF1 hbr hD
        go_wp2
        go_ret2
        exact .inr ⟨HCK.out, v, F, vs, rfl, HS1.out, HF.out, HK.out⟩
  · rw [hc] at HC
    clear hs ht hb
    go_enter Tryz.func108, Tryz.ntmps108
    go_wp2_with fail
    refine HC.out.mono ?_
    rintro e w1 ⟨rfl, k1⟩
    go_wp2
    go_ret2
    exact .inl ⟨hc, rfl, k1⟩
end Go.Proofs.YtklhlffdpojkoaaGreat

/-
  Shares as they read; whether two lists of shares are the same.
-/
namespace Go.Proofs.YtklhlffdpojkoaaGreat
open Go.RowKit Fx

def rPart : Rdr PartC := fun _ cs p => cs = [.string p.topic, .int .i64 p.index]
def rShare : Rdr ShareC := fun w cs s => ∃ a cap, cs = [.int .i64 s.member, .slice a s.parts.length cap] ∧ SlAt 2 rPart w a cap s.parts
theorem stable_part : Stable rPart := fun _ _ _ _ _ h => h
theorem stable_share : Stable rShare := fun _ _ _ _ hk ⟨a, cap, h1, h2⟩ => ⟨a, cap, h1, h2.keep0 stable_part hk⟩
theorem SharesAt.slAt {w : World} {F : Nat → Prop} {v : Value} {l : List ShareC} {vs : List Value} (h : SharesAt w F v l vs) : ∃ a cap, v = .slice a l.length cap ∧ SlAt 2 rShare w a cap l := by
  rcases h.row.2 with ⟨rfl, h0⟩ | ⟨g, cap, cur, rfl, hb, hg, hc, hm, hs, ht⟩
  · have : l = [] := List.eq_nil_of_length_eq_zero h0
    subst this
    exact ⟨none, 0, rfl, ⟨Nat.le_refl _, by unfold maxLen; omega, fun h => absurd rfl h⟩⟩
  · refine ⟨_, cap, rfl, hc, hm, fun _ => ⟨g, 0, rfl, fun i hi => ?_⟩⟩
    have hiv : i < vs.length := by rw [h.len]; exact hi
    obtain ⟨a, c, e1, e2, _⟩ := own_slAt (R := rPart) (fun p : PartC => [.string p.topic, .int .i64 p.index]) (fun _ => rfl) (fun _ => rfl) (h.parts i hi)
    refine ⟨[.int .i64 l[i].member, vs[i]], rfl, fun j hj => ?_, a, c, by rw [e1], e2⟩
    have hcell := h.row.cellAt (i * 2 + j) (by omega)
    rw [show 0 + i * 2 + j = i * 2 + j by omega, hcell]
    match j, hj with
    | 0, _ => exact shCells_member _ _ _ hi h.len
    | 1, _ => exact shCells_value _ _ _ hiv h.len

/-- What Range and Round answer, as it reads. -/
def ListPost (w : World) (er : Int) (l : List ShareC) (e : Ending) (w' : World) : Prop :=
  ∃ a cap, e = .returned (.tuple #[.slice a l.length cap, .int .i64 er]) ∧ SlAt 2 rShare w' a cap l ∧ K0 w w'
def orNil (er : Int) (l : List ShareC) : List ShareC := if er = 0 then l else []
theorem DealPost.list {w w' : World} {er : Int} {l : List ShareC} {e : Ending} (h : DealPost w er l e w') : ListPost w er (orNil er l) e w' := by
  rcases h with ⟨rfl, h1, h2⟩ | ⟨rfl, v, F, vs, h1, h2, h3, h4⟩
  · exact ⟨none, 0, h1, ⟨Nat.le_refl _, by unfold maxLen; omega, fun h => absurd rfl h⟩, h2⟩
  · obtain ⟨a, cap, rfl, h5⟩ := h2.slAt
    exact ⟨a, cap, h1, h5, h4⟩
theorem share_cells {w0 w : World} {b off : Nat} {l : List ShareC} (h : RowAt 2 rShare w0 b off l) (hb : Below w0.heap.size w0 w) (k : Nat) (hk : k < l.length) :
    ∃ a cap, w.cell? ⟨b, off + k * 2, none⟩ = some (.int .i64 l[k].member) ∧ w.cell? ⟨b, off + k * 2 + 1, none⟩ = some (.slice a l[k].parts.length cap) ∧ b < w.heap.size ∧ SlAt 2 rPart w0 a cap l[k].parts := by
  obtain ⟨cs, h1, h2, a, cap, rfl, h3⟩ := h k hk
  have e0 : w0.cell? ⟨b, off + k * 2, none⟩ = some (.int .i64 l[k].member) := h2 0 (by omega)
  exact ⟨a, cap, (below_cell hb e0).1, (below_cell hb (h2 1 (by omega))).1, (below_cell hb e0).2, h3⟩
theorem part_cells {w0 w : World} {b off : Nat} {l : List PartC} (h : RowAt 2 rPart w0 b off l) (hb : Below w0.heap.size w0 w) (k : Nat) (hk : k < l.length) :
    w.cell? ⟨b, off + k * 2, none⟩ = some (.string l[k].topic) ∧ w.cell? ⟨b, off + k * 2 + 1, none⟩ = some (.int .i64 l[k].index) ∧ b < w.heap.size := by
  obtain ⟨cs, h1, h2, rfl⟩ := h k hk
  have e0 : w0.cell? ⟨b, off + k * 2, none⟩ = some (.string l[k].topic) := h2 0 (by omega)
  exact ⟨(below_cell hb e0).1, (below_cell hb (h2 1 (by omega))).1, (below_cell hb e0).2⟩

theorem h41a : Tryz.prog.underlying 34 = some (.struct (Tryz.prog.fieldsOf 34)) := by kernel_rfl
theorem h41b : Tryz.prog.stoodInHeld 34 = false := by kernel_rfl
theorem h41c : Tryz.prog.eqGuardType Tryz.prog.depth 34 = false := by kernel_rfl

theorem fields_of {P : Program} {t : TypeId} {fs : Array Field} (h : P.underlying t = some (.struct fs)) : P.fieldsOf t = fs := by simp [Program.fieldsOf, h]
theorem eql41 (s1 s2 : ByteArray) (i1 i2 : Int) (w : World) : (binOp .eql 34 (.agg #[.string s1, .int .i64 i1]) (.agg #[.string s2, .int .i64 i2])).run Tryz.prog w = .ok (.bool (s1.toList == s2.toList && i1 == i2)) w := by
  rw [run_eql_struct, run_equalIn_struct w 9999 34 _ _ h41a h41b, fields_of Tryz.underlying34]
  simp [Op.eqFields, go_sem]
  by_cases h1 : s1.toList = s2.toList <;> by_cases h2 : i1 = i2 <;> simp [h1, h2]
theorem neq41 (s1 s2 : ByteArray) (i1 i2 : Int) (w : World) : (binOp .neq 34 (.agg #[.string s1, .int .i64 i1]) (.agg #[.string s2, .int .i64 i2])).run Tryz.prog w = .ok (.bool (!(s1.toList == s2.toList && i1 == i2))) w := by
  rw [run_neq_struct, run_equalIn_struct w 9999 34 _ _ h41a h41b, fields_of Tryz.underlying34]
  simp [Op.eqFields, go_sem]
  by_cases h1 : s1.toList = s2.toList <;> by_cases h2 : i1 = i2 <;> simp [h1, h2]
theorem neq41_same (s : ByteArray) (i : Int) (w : World) : (binOp .neq 34 (.agg #[.string s, .int .i64 i]) (.agg #[.string s, .int .i64 i])).run Tryz.prog w = .ok (.bool false) w := by
  rw [neq41]; simp
set_option maxRecDepth 100000 in
set_option maxHeartbeats 1000000 in
/-- Two lists that are equal are told the same. -/
theorem sameParts24 (w0 w : World) (a1 a2 : Option Addr) (c1 c2 : Nat) (l : List PartC) (h1 : SlAt 2 rPart w0 a1 c1 l) (h2 : SlAt 2 rPart w0 a2 c2 l) (hb : Below w0.heap.size w0 w) :
    Calls Tryz.prog 28 #[.slice a1 l.length c1, .slice a2 l.length c2] w fun e w' => e = .returned (.bool true) ∧ ∃ n, w' = w.drewN n := by
  have hm := h1.len
  have H1 := Lib.hid h1
  have H2 := Lib.hid h2
  have HB := Lib.hid hb
  clear h1 h2 hb
  have hne : ((l.length : Int) != l.length) = false := by simp
  go_enter Tryz.func28, Tryz.ntmps28
  go_wp2
  go_loopw [5] (fun i wr => ∃ k : Nat, i = .int .i64 k ∧ k ≤ l.length ∧ ∃ n, wr = w.drewN n) (fun i _ => l.length - (intOf i).toNat)
  case atStart => exact ⟨0, rfl, by omega, 0, rfl⟩
  case round =>
    obtain ⟨k, rfl, hk, n, rfl⟩ := hrel
    by_cases hlt : k < l.length
    · obtain ⟨b1, off1, rfl, r1⟩ := H1.out.row hlt
      obtain ⟨b2, off2, rfl, r2⟩ := H2.out.row hlt
      obtain ⟨x0, x1, hb1⟩ := part_cells r1 HB.out k hlt
      obtain ⟨y0, y1, hb2⟩ := part_cells r2 HB.out k hlt
      clear r1 r2
      have i0 : (0 : Int) ≤ k := by omega
      have i1 : (k : Int) < l.length := by omega
      have q1 := neq41_same
      have q3 := h41c
      generalize l[k].topic = s at x0 y0
      generalize l[k].index = i at x1 y1
      go_wp2_with fail
      go_quiet (fail)
      go_wp2
      go_roundw
      case rel => exact ⟨k + 1, by go_num, by omega, n + _, rfl⟩
      case measure => simp [intOf]; omega
    · clear hk
      go_wp2
      go_ret
      exact ⟨rfl, n, rfl⟩

end Go.Proofs.YtklhlffdpojkoaaGreat

/-
  A group of members as an object in memory: its own block, the row of its members, their topics and partitions.
-/
namespace Go.Proofs.YtklhlffdpojkoaaGreat
open Go.RowKit Fx

theorem cell_block1 {w : World} {b o : Nat} {v : Value} (h : w.cell? ⟨b, o, none⟩ = some v) : b < w.heap.size := World.block_lt_of_cell? w _ h
/-- A member, with the values that stand for its topics and partitions. -/
structure OneV where
  member : Int
  tv : Value
  til : Int
  joined : Bool
  pv : Value
  topics : List ByteArray
  parts : List PartC
structure OneC where
  member : Int
  topics : List ByteArray
  til : Int
  joined : Bool
  parts : List PartC
structure GroupC where
  session : Int
  rebalance : Int
  phase : Int
  gen : Int
  next : Int
  til : Int
  ones : List OneC
def OneV.core (x : OneV) : OneC := ⟨x.member, x.topics, x.til, x.joined, x.parts⟩
def oneEnc (x : OneV) : List Value := [.int .i64 x.member, x.tv, .int .i64 x.til, .bool x.joined, x.pv]
theorem oneEnc_len (x : OneV) : (oneEnc x).length = 5 := rfl
def gCells (g : GroupC) (v : Value) : Array Value := #[.int .i64 g.session, .int .i64 g.rebalance, .int .i64 g.phase, .int .i64 g.gen, .int .i64 g.next, .int .i64 g.til, v]

/-- A reading that does not lean on the world. -/
def Still {α : Type} (R : Rdr α) : Prop := ∀ (w w' : World) (cs : List Value) (x : α), R w cs x → R w' cs x
theorem still_str : Still rStr := fun _ _ _ _ h => h
theorem still_part : Still rPart := fun _ _ _ _ h => h
/-- A slice value that reads as l, out of a block of G. -/
def Out {α : Type} (n : Nat) (R : Rdr α) (w : World) (G : Nat → Prop) (v : Value) (l : List α) : Prop :=
  ∃ a cap, v = .slice a l.length cap ∧ SlAt n R w a cap l ∧ ∀ x, a = some x → l ≠ [] → x.block < w.heap.size ∧ G x.block
theorem Out.nil {α : Type} (n : Nat) (R : Rdr α) (w : World) (G : Nat → Prop) : Out n R w G (.slice none 0 0) ([] : List α) :=
  ⟨none, 0, rfl, ⟨Nat.le_refl _, by unfold maxLen; omega, fun h => absurd rfl h⟩, fun x e => by cases e⟩
theorem Out.keep {α : Type} {n : Nat} {R : Rdr α} (hR : Still R) {w w' : World} {G G' S : Nat → Prop} {v : Value} {l : List α} (h : Out n R w G v l) (hk : Keeps S w w') (hS : ∀ k, k < w.heap.size → G k → ¬ S k) (hG : ∀ k, k < w.heap.size → G k → G' k) : Out n R w' G' v l := by
  obtain ⟨a, cap, rfl, ⟨h1, h2, h3⟩, h4⟩ := h
  refine ⟨a, cap, rfl, ⟨h1, h2, fun hne => ?_⟩, fun x e hne => ?_⟩
  · obtain ⟨b, off, rfl, hr⟩ := h3 hne
    obtain ⟨q1, q2⟩ := h4 _ rfl hne
    refine ⟨b, off, rfl, fun i hi => ?_⟩
    obtain ⟨cs, e1, e2, e3⟩ := hr i hi
    exact ⟨cs, e1, fun j hj => by rw [← e2 j hj]; exact hk.cell (p := ⟨b, off + i * n + j, none⟩) q1 (hS b q1 q2), hR _ _ _ _ e3⟩
  · obtain ⟨q1, q2⟩ := h4 _ e hne
    exact ⟨Nat.lt_of_lt_of_le q1 hk.size, hG _ q1 q2⟩

/-- The group at block b: its members' row is v, the blocks of all of it are in F. -/
structure GrpAt (w : World) (F : Nat → Prop) (b : Nat) (g : GroupC) (v : Value) (L : List OneV) : Prop where
  blk : w.heap[b]? = some (.cells (gCells g v) 107 (0, 0))
  row : w.ownsRow 0 94 5 v L.length (L.flatMap oneEnc)
  fb : F b
  lt : ∀ k, F k → k < w.heap.size
  own : ∀ k, v.ownBlock = some k → F k ∧ k ≠ b
  ones : L.map OneV.core = g.ones
  out : ∀ x ∈ L, Out 1 rStr w (fun k => F k ∧ k ≠ b ∧ v.ownBlock ≠ some k) x.tv x.topics ∧ Out 2 rPart w (fun k => F k ∧ k ≠ b ∧ v.ownBlock ≠ some k) x.pv x.parts
def Grp (w : World) (F : Nat → Prop) (b : Nat) (g : GroupC) : Prop := ∃ v L, GrpAt w F b g v L
theorem GrpAt.keep {w w' : World} {F S : Nat → Prop} {b : Nat} {g : GroupC} {v : Value} {L : List OneV} (h : GrpAt w F b g v L) (hk : Keeps S w w') (hS : ∀ k, F k → ¬ S k) : GrpAt w' F b g v L :=
  ⟨(hk.block b (block_lt h.blk) (hS b h.fb)).trans h.blk, own_keep hk h.row (fun k e => hS k (h.own k e).1), h.fb, fun k e => Nat.lt_of_lt_of_le (h.lt k e) hk.size, h.own, h.ones, fun x hx =>
    ⟨(h.out x hx).1.keep still_str hk (fun k _ e => hS k e.1) (fun _ _ e => e), (h.out x hx).2.keep still_part hk (fun k _ e => hS k e.1) (fun _ _ e => e)⟩⟩
theorem Grp.keep {w w' : World} {F S : Nat → Prop} {b : Nat} {g : GroupC} (h : Grp w F b g) (hk : Keeps S w w') (hS : ∀ k, F k → ¬ S k) : Grp w' F b g := by
  obtain ⟨v, L, h⟩ := h
  exact ⟨v, L, h.keep hk hS⟩
/-- What was made since. -/
def Fresh {α : Type} (n : Nat) (R : Rdr α) (w w' : World) (b : Nat) (v' : Value) (tv : Value) (l : List α) : Prop :=
  Out n R w' (fun k => w.heap.size ≤ k ∧ k ≠ b ∧ v'.ownBlock ≠ some k) tv l
theorem GrpAt.step {w w' : World} {F S : Nat → Prop} {b : Nat} {g g' : GroupC} {v v' : Value} {L L' : List OneV} (h : GrpAt w F b g v L) (hk : Keeps S w w') (hS : ∀ k, S k → k = b ∨ v.ownBlock = some k)
    (hblk : w'.heap[b]? = some (.cells (gCells g' v') 107 (0, 0))) (hrow : w'.ownsRow 0 94 5 v' L'.length (L'.flatMap oneEnc))
    (hv : ∀ k, v'.ownBlock = some k → v.ownBlock = some k ∨ w.heap.size ≤ k) (hones : L'.map OneV.core = g'.ones)
    (ht : ∀ x ∈ L', (∃ y ∈ L, x.tv = y.tv ∧ x.topics = y.topics) ∨ Fresh 1 rStr w w' b v' x.tv x.topics)
    (hp : ∀ x ∈ L', (∃ y ∈ L, x.pv = y.pv ∧ x.parts = y.parts) ∨ Fresh 2 rPart w w' b v' x.pv x.parts) :
    GrpAt w' (fun k => F k ∨ (w.heap.size ≤ k ∧ k < w'.heap.size)) b g' v' L' := by
  have hb := block_lt h.blk
  have hG : ∀ k, k < w.heap.size → (F k ∧ k ≠ b ∧ v.ownBlock ≠ some k) → ((F k ∨ (w.heap.size ≤ k ∧ k < w'.heap.size)) ∧ k ≠ b ∧ v'.ownBlock ≠ some k) := fun k hk' e =>
    ⟨.inl e.1, e.2.1, fun e2 => (hv k e2).elim e.2.2 fun e3 => by omega⟩
  have hS' : ∀ k, k < w.heap.size → (F k ∧ k ≠ b ∧ v.ownBlock ≠ some k) → ¬ S k := fun k _ e e2 => (hS k e2).elim e.2.1 e.2.2
  have hfr : ∀ {α : Type} {n : Nat} {R : Rdr α} {tv : Value} {l : List α}, Fresh n R w w' b v' tv l → Out n R w' (fun k => (F k ∨ (w.heap.size ≤ k ∧ k < w'.heap.size)) ∧ k ≠ b ∧ v'.ownBlock ≠ some k) tv l := by
    intro α n R tv l ⟨a, cap, e1, e2, e3⟩
    exact ⟨a, cap, e1, e2, fun x ex hne => ⟨(e3 x ex hne).1, .inr ⟨(e3 x ex hne).2.1, (e3 x ex hne).1⟩, (e3 x ex hne).2.2⟩⟩
  refine ⟨hblk, hrow, .inl h.fb, fun k e => e.elim (fun e => Nat.lt_of_lt_of_le (h.lt k e) hk.size) (fun e => e.2), fun k e => ?_, hones, fun x hx => ⟨?_, ?_⟩⟩
  · rcases hv k e with e1 | e1
    · exact ⟨.inl (h.own k e1).1, (h.own k e1).2⟩
    · exact ⟨.inr ⟨e1, (hrow.lt k e).2⟩, by omega⟩
  · rcases ht x hx with ⟨y, hy, e1, e2⟩ | h1
    · rw [e1, e2]
      exact (h.out y hy).1.keep still_str hk hS' hG
    · exact hfr h1
  · rcases hp x hx with ⟨y, hy, e1, e2⟩ | h1
    · rw [e1, e2]
      exact (h.out y hy).2.keep still_part hk hS' hG
    · exact hfr h1
/-- What a call on a group leaves. -/
def GrpPost (w : World) (F : Nat → Prop) (b : Nat) (g' : GroupC) (w' : World) : Prop :=
  ∃ F', Grp w' F' b g' ∧ (∀ k, F' k → F k ∨ w.heap.size ≤ k) ∧ Keeps F w w'
theorem GrpPost.trans {w w1 w2 : World} {F F1 : Nat → Prop} {b : Nat} {g' : GroupC} (hF : ∀ k, F1 k → F k ∨ w.heap.size ≤ k) (hk : Keeps F w w1) (h : GrpPost w1 F1 b g' w2) : GrpPost w F b g' w2 := by
  obtain ⟨F2, h1, h2, h3⟩ := h
  refine ⟨F2, h1, fun k e => (h2 k e).elim (hF k) (fun e => .inr (Nat.le_trans hk.size e)), hk.trans h3 fun k hk' e => (hF k e).elim id fun e => by omega⟩

theorem flat_len {α : Type} (enc : α → List Value) (n : Nat) (hn : ∀ x, (enc x).length = n) (l : List α) : (l.flatMap enc).length = l.length * n := by
  induction l with
  | nil => simp
  | cons x l ih => simp only [List.flatMap_cons, List.length_append, ih, hn, List.length_cons, Nat.add_mul, Nat.one_mul]; omega
theorem flat_set {α : Type} (enc : α → List Value) (n : Nat) (hn : ∀ x, (enc x).length = n) (f : α → α) (j : Nat) (u : Value) (hj : j < n) (hf : ∀ x, enc (f x) = (enc x).set j u) : ∀ (l : List α) (i : Nat), (l.flatMap enc).set (i * n + j) u = (l.modify i f).flatMap enc ∨ l.length ≤ i
  | [], i => .inr (Nat.zero_le _)
  | x :: l, 0 => by
    left
    simp only [List.flatMap_cons, Nat.zero_mul, Nat.zero_add, List.modify_zero_cons]
    rw [List.set_append_left _ _ (by rw [hn]; exact hj), hf]
  | x :: l, i + 1 => by
    rcases flat_set enc n hn f j u hj hf l i with h | h
    · left
      simp only [List.flatMap_cons, List.modify_succ_cons]
      rw [List.set_append_right _ _ (by rw [hn, Nat.add_mul]; omega), hn, show (i + 1) * n + j - n = i * n + j by rw [Nat.add_mul]; omega, h]
    · right; simp only [List.length_cons]; omega
theorem flat_set' {α : Type} (enc : α → List Value) (n : Nat) (hn : ∀ x, (enc x).length = n) (f : α → α) (j : Nat) (u : Value) (hj : j < n) (hf : ∀ x, enc (f x) = (enc x).set j u) (l : List α) (i : Nat) (hi : i < l.length) : (l.flatMap enc).set (i * n + j) u = (l.modify i f).flatMap enc :=
  (flat_set enc n hn f j u hj hf l i).resolve_right (by omega)
/-- A member's cells. -/
theorem GrpAt.cell {w : World} {F : Nat → Prop} {b : Nat} {g : GroupC} {v : Value} {L : List OneV} (h : GrpAt w F b g v L) {r cap : Nat} (hv : v = .slice (some ⟨r, 0, none⟩) L.length cap) (i : Nat) (hi : i < L.length) :
    w.cell? ⟨r, i * 5, none⟩ = some (.int .i64 L[i].member) ∧ w.cell? ⟨r, i * 5 + 1, none⟩ = some L[i].tv ∧ w.cell? ⟨r, i * 5 + 2, none⟩ = some (.int .i64 L[i].til) ∧ w.cell? ⟨r, i * 5 + 3, none⟩ = some (.bool L[i].joined) ∧ w.cell? ⟨r, i * 5 + 4, none⟩ = some L[i].pv := by
  subst hv
  have hc : ∀ j, j < 5 → w.cell? ⟨r, i * 5 + j, none⟩ = (oneEnc L[i])[j]? := fun j hj => by
    rw [h.row.cellAt (i * 5 + j) (by omega)]
    exact flatMap_get oneEnc 5 oneEnc_len L i j hi hj
  exact ⟨hc 0 (by omega), hc 1 (by omega), hc 2 (by omega), hc 3 (by omega), hc 4 (by omega)⟩
/-- Where its row is. -/
theorem GrpAt.form {w : World} {F : Nat → Prop} {b : Nat} {g : GroupC} {v : Value} {L : List OneV} (h : GrpAt w F b g v L) : (L = [] ∧ v = .slice none 0 0) ∨ ∃ r cap, v = .slice (some ⟨r, 0, none⟩) L.length cap ∧ r ≠ b ∧ r < w.heap.size ∧ L.length ≤ cap ∧ F r := by
  rcases h.row.2 with ⟨h1, h2⟩ | ⟨r, cap, cur, h1, _, hg, hc, _⟩
  · exact .inl ⟨List.eq_nil_of_length_eq_zero h2, h1⟩
  · have h3 := h.own r (by rw [h1]; rfl)
    exact .inr ⟨r, cap, h1, h3.2, block_lt hg, hc, h3.1⟩
end Go.Proofs.YtklhlffdpojkoaaGreat

/-
  The package offsets: names, keys, a table's Commit and Get.
-/
namespace Go.Proofs.YtklhlffdpojkoaaGreat
open Go.RowKit Fx

/-- Is it a name? -/
def nameB (s : ByteArray) : Bool := decide (0 < s.size ∧ s.size ≤ 100)
set_option maxHeartbeats 1000000 in
theorem isName_any (s : ByteArray) (w : World) : Calls Tryz.prog 112 #[.string s] w fun e w' => Same w e (.bool (nameB s)) w' := by
  by_cases h0 : s.size = 0
  · rw [show nameB s = false by unfold nameB; simp [h0]]
    have h1 := bytes_empty h0
    clear h0
    go_enter Tryz.func112, Tryz.ntmps112
    go_wp2
    go_ret
    exact ⟨rfl, Keeps.refl _ _⟩
  · have h1 := bytes_some h0
    by_cases h2 : s.size ≤ 100
    · rw [show nameB s = true by unfold nameB; simp; omega]
      have hd : decide ((s.size : Int) ≤ 100) = true := by simp; omega
      clear h0
      go_enter Tryz.func112, Tryz.ntmps112
      go_wp2
      go_ret
      exact ⟨rfl, Keeps.refl _ _⟩
    · rw [show nameB s = false by unfold nameB; simp; omega]
      have hd : decide ((s.size : Int) ≤ 100) = false := by simp; omega
      clear h0 h2
      go_enter Tryz.func112, Tryz.ntmps112
      go_wp2
      go_ret
      exact ⟨rfl, Keeps.refl _ _⟩
def inB (n least : Int) : Bool := decide (least ≤ n ∧ n ≤ 1099511627776)
set_option maxHeartbeats 1000000 in
theorem within_any (n least : Int) (w : World) : Calls Tryz.prog 81 #[.int .i64 n, .int .i64 least] w fun e w' => Same w e (.bool (inB n least)) w' := by
  by_cases h1 : least ≤ n
  · by_cases h2 : n ≤ 1099511627776
    · rw [show inB n least = true by unfold inB; simp; omega]
      go_enter Tryz.func81, Tryz.ntmps81
      go_wp2
      go_ret
      exact ⟨rfl, Keeps.refl _ _⟩
    · rw [show inB n least = false by unfold inB; simp; omega]
      go_enter Tryz.func81, Tryz.ntmps81
      go_wp2
      go_ret
      exact ⟨rfl, Keeps.refl _ _⟩
  · rw [show inB n least = false by unfold inB; simp; omega]
    go_enter Tryz.func81, Tryz.ntmps81
    go_wp2
    go_ret
    exact ⟨rfl, Keeps.refl _ _⟩
def mayB (k : OffK) : Bool := nameB k.group && nameB k.topic && decide (0 ≤ k.index ∧ k.index < 16)
set_option maxRecDepth 100000 in
set_option maxHeartbeats 1000000 in
theorem may_any (g t : ByteArray) (i : Int) (w : World) : Calls Tryz.prog 80 #[.agg #[.string g, .string t, .int .i64 i]] w fun e w' => Same w e (.bool (mayB ⟨g, t, i⟩)) w' := by
  have HB : Hid ((w.alloc (.cells #[.string g, .string t, .int .i64 i] 99)).heap[w.heap.size]? = some (.cells #[.string g, .string t, .int .i64 i] 99)) := heap_new _ _ _ rfl
  have HK0 := Lib.hid ((Keeps.refl (fun _ => False) w).alloc (.cells #[.string g, .string t, .int .i64 i] 99))
  have N1 := fun w => Lib.hid (isName_any g w)
  have N2 := fun w => Lib.hid (isName_any t w)
  unfold mayB
  dsimp only
  cases hb1 : nameB g
  · rw [Bool.false_and, Bool.false_and]
    simp only [hb1] at N1
    clear hb1 N2
    go_enter Tryz.func80, Tryz.ntmps80
    go_wp2_with fail
    refine (N1 _).out.mono ?_
    rintro e w1 ⟨rfl, k1⟩
    have HK1 := Lib.hid (K0.tr HK0.out k1)
    clear k1
    go_wp2
    go_ret
    exact ⟨rfl, HK1.out⟩
  · rw [Bool.true_and]
    simp only [hb1] at N1
    clear hb1
    cases hb2 : nameB t
    · rw [Bool.false_and]
      simp only [hb2] at N2
      clear hb2
      go_enter Tryz.func80, Tryz.ntmps80
      go_wp2_with fail
      refine (N1 _).out.mono ?_
      rintro e w1 ⟨rfl, k1⟩
      have HK1 := Lib.hid (K0.tr HK0.out k1)
      have c1 : w1.cell? ⟨w.heap.size, 1, none⟩ = some (.string t) := k1.cell' (block_cell HB.out 1) (fun e => e)
      clear k1
      go_wp2_with fail
      refine (N2 _).out.mono ?_
      rintro e w2 ⟨rfl, k2⟩
      have HK2 := Lib.hid (K0.tr HK1.out k2)
      clear k2
      go_wp2
      go_ret
      exact ⟨rfl, HK2.out⟩
    · rw [Bool.true_and]
      simp only [hb2] at N2
      clear hb2
      by_cases h1 : 0 ≤ i
      · by_cases h2 : i < 16
        · rw [show decide (0 ≤ i ∧ i < 16) = true by simp; omega]
          go_enter Tryz.func80, Tryz.ntmps80
          go_wp2_with fail
          refine (N1 _).out.mono ?_
          rintro e w1 ⟨rfl, k1⟩
          have HK1 := Lib.hid (K0.tr HK0.out k1)
          have c1 : w1.cell? ⟨w.heap.size, 1, none⟩ = some (.string t) := k1.cell' (block_cell HB.out 1) (fun e => e)
          have c2 : w1.cell? ⟨w.heap.size, 2, none⟩ = some (.int .i64 i) := k1.cell' (block_cell HB.out 2) (fun e => e)
          clear k1
          go_wp2_with fail
          refine (N2 _).out.mono ?_
          rintro e w2 ⟨rfl, k2⟩
          have HK2 := Lib.hid (K0.tr HK1.out k2)
          have c2 := k2.cell' c2 (fun e => e)
          clear k2
          go_wp2
          go_ret
          exact ⟨rfl, HK2.out⟩
        · rw [show decide (0 ≤ i ∧ i < 16) = false by simp; omega]
          have hd : decide (i < 16) = false := by simp; omega
          go_enter Tryz.func80, Tryz.ntmps80
          go_wp2_with fail
          refine (N1 _).out.mono ?_
          rintro e w1 ⟨rfl, k1⟩
          have HK1 := Lib.hid (K0.tr HK0.out k1)
          have c1 : w1.cell? ⟨w.heap.size, 1, none⟩ = some (.string t) := k1.cell' (block_cell HB.out 1) (fun e => e)
          have c2 : w1.cell? ⟨w.heap.size, 2, none⟩ = some (.int .i64 i) := k1.cell' (block_cell HB.out 2) (fun e => e)
          clear k1
          go_wp2_with fail
          refine (N2 _).out.mono ?_
          rintro e w2 ⟨rfl, k2⟩
          have HK2 := Lib.hid (K0.tr HK1.out k2)
          have c2 := k2.cell' c2 (fun e => e)
          clear k2
          go_wp2
          go_ret
          exact ⟨rfl, HK2.out⟩
      · rw [show decide (0 ≤ i ∧ i < 16) = false by simp; omega]
        go_enter Tryz.func80, Tryz.ntmps80
        go_wp2_with fail
        refine (N1 _).out.mono ?_
        rintro e w1 ⟨rfl, k1⟩
        have HK1 := Lib.hid (K0.tr HK0.out k1)
        have c1 : w1.cell? ⟨w.heap.size, 1, none⟩ = some (.string t) := k1.cell' (block_cell HB.out 1) (fun e => e)
        have c2 : w1.cell? ⟨w.heap.size, 2, none⟩ = some (.int .i64 i) := k1.cell' (block_cell HB.out 2) (fun e => e)
        clear k1
        go_wp2_with fail
        refine (N2 _).out.mono ?_
        rintro e w2 ⟨rfl, k2⟩
        have HK2 := Lib.hid (K0.tr HK1.out k2)
        have c2 := k2.cell' c2 (fun e => e)
        clear k2
        go_wp2
        go_ret
        exact ⟨rfl, HK2.out⟩
/-- A table: its room, what it has. -/
structure OffC where
  room : Int
  all : List (OffK × Int)
structure OffAt (w : World) (tb ob : Nat) (C : OffC) : Prop where
  ne : tb ≠ ob
  blk : w.heap[tb]? = some (.cells #[.int .i64 C.room, .map (some ob)] 110 (0, 0))
  map : MapAt OffK.enc w ob (avals (.int .i64) C.all)
theorem OffAt.keep {w w' : World} {tb ob : Nat} {C : OffC} {S : Nat → Prop} (h : OffAt w tb ob C) (hk : Keeps S w w') (h1 : ¬ S tb) (h2 : ¬ S ob) : OffAt w' tb ob C :=
  ⟨h.ne, (hk.block tb (block_lt h.blk) h1).trans h.blk, h.map.keep hk h2⟩
theorem zeroInt (w : World) : (zeroValue 3).run Tryz.prog w = .ok (.int .i64 0) w := by kernel_rfl
def getV (C : OffC) (k : OffK) : Int × Bool := ((aget C.all k).getD 0, (aget C.all k).isSome)
set_option maxRecDepth 100000 in
set_option maxHeartbeats 1000000 in
theorem get_any (w : World) (tb ob : Nat) (C : OffC) (g t : ByteArray) (i : Int) (h : OffAt w tb ob C) :
    Calls Tryz.prog 43 #[.pointer (some ⟨tb, 0, none⟩), .agg #[.string g, .string t, .int .i64 i]] w fun e w' => Same w e (.tuple #[.int .i64 (getV C ⟨g, t, i⟩).1, .bool (getV C ⟨g, t, i⟩).2]) w' := by
  have c1 : w.cell? ⟨tb, 1, none⟩ = some (.map (some ob)) := block_cell h.blk 1
  have hm := h.map.keep ((Keeps.refl (fun _ => False) w).alloc (.cells #[.string g, .string t, .int .i64 i] 99)) (fun e => e)
  have hlt := block_lt h.blk
  have hl : ∀ w', w'.heap = (w.alloc (.cells #[.string g, .string t, .int .i64 i] 99)).heap → (Instr.lookup 108 (.map (some ob)) (.agg #[.string g, .string t, .int .i64 i]) true).run Tryz.prog w' = .ok (.tuple #[.int .i64 (getV C ⟨g, t, i⟩).1, .bool (getV C ⟨g, t, i⟩).2]) w' := fun w' e => by
    refine (hm.look_all offKey Tryz.underlying108 zeroInt ⟨g, t, i⟩ true (aget_avals (.int .i64) C.all ⟨g, t, i⟩) w' e).trans ?_
    unfold getV
    cases aget C.all ⟨g, t, i⟩ <;> rfl
  have hl : ∀ n, (Instr.lookup 108 (.map (some ob)) (.agg #[.string g, .string t, .int .i64 i]) true).run Tryz.prog ((w.alloc (.cells #[.string g, .string t, .int .i64 i] 99)).drewN n) = .ok (.tuple #[.int .i64 (getV C ⟨g, t, i⟩).1, .bool (getV C ⟨g, t, i⟩).2]) ((w.alloc (.cells #[.string g, .string t, .int .i64 i] 99)).drewN n) := fun n => hl _ rfl
  generalize getV C ⟨g, t, i⟩ = v at hl ⊢
  obtain ⟨v1, v2⟩ := v
  dsimp only at hl ⊢
  clear hm h
  go_enter Tryz.func43, Tryz.ntmps43
  go_wp2
  go_quiet (fail)
  go_wp2
  go_ret2
  exact ⟨rfl, ((Keeps.refl _ _).alloc _).drewN _⟩
def commitE (C : OffC) (k : OffK) (at_ : Int) : Int := if mayB k = true ∧ inB at_ 0 = true then (if (aget C.all k).isSome = false ∧ C.room ≤ C.all.length then 5 else 0) else 1
def commitC (C : OffC) (k : OffK) (at_ : Int) : OffC := if commitE C k at_ = 0 then ⟨C.room, aput C.all k at_⟩ else C
def CommitPost (w : World) (tb ob : Nat) (C : OffC) (k : OffK) (at_ : Int) (e : Ending) (w' : World) : Prop :=
  e = .returned (.int .i64 (commitE C k at_)) ∧ OffAt w' tb ob (commitC C k at_) ∧ Keeps (fun b => b = ob) w w'
theorem _root_.Go.Proofs.YtklhlffdpojkoaaGreat.Fx.Keeps.same {S : Nat → Prop} {w w1 w2 : World} (h : Keeps S w w1) (e1 : w2.os = w1.os) (e2 : w2.tape = w1.tape) (e3 : w2.output = w1.output) (e4 : w2.heap = w1.heap) : Keeps S w w2 :=
  ⟨e1.trans h.os, e2.trans h.tape, e3.trans h.output, by rw [e4]; exact h.size, fun k hk hS => by rw [e4]; exact h.block k hk hS⟩
set_option maxRecDepth 100000 in
set_option maxHeartbeats 1000000 in
theorem commit_any (w : World) (tb ob : Nat) (C : OffC) (g t : ByteArray) (i at_ : Int) (h : OffAt w tb ob C) :
    Calls Tryz.prog 49 #[.pointer (some ⟨tb, 0, none⟩), .agg #[.string g, .string t, .int .i64 i], .int .i64 at_] w (CommitPost w tb ob C ⟨g, t, i⟩ at_) := by
  have HB : Hid ((w.alloc (.cells #[.string g, .string t, .int .i64 i] 99)).heap[w.heap.size]? = some (.cells #[.string g, .string t, .int .i64 i] 99)) := heap_new _ _ _ rfl
  have HK0 := Lib.hid ((Keeps.refl (fun _ => False) w).alloc (.cells #[.string g, .string t, .int .i64 i] 99))
  have HO := Lib.hid h
  have M1 := fun w => Lib.hid (may_any g t i w)
  have M2 := fun w => Lib.hid (within_any at_ 0 w)
  have hlt := block_lt h.blk
  clear h
  unfold CommitPost commitC
  cases hm : mayB ⟨g, t, i⟩
  · simp only [hm] at M1
    have he : commitE C ⟨g, t, i⟩ at_ = 1 := by unfold commitE; rw [if_neg (by rw [hm]; simp)]
    rw [he, if_neg (by decide)]
    clear he hm M2
    go_enter Tryz.func49, Tryz.ntmps49
    go_wp2_with fail
    refine (M1 _).out.mono ?_
    rintro e w1 ⟨rfl, k1⟩
    have HK4 := Lib.hid (K0.tr HK0.out k1)
    clear k1
    go_wp2
    go_ret
    exact ⟨rfl, HO.out.keep HK4.out (fun e => e) (fun e => e), HK4.out.mono (by simp)⟩
  simp only [hm] at M1
  cases hi : inB at_ 0
  · simp only [hi] at M2
    have he : commitE C ⟨g, t, i⟩ at_ = 1 := by unfold commitE; rw [if_neg (by rw [hi]; simp)]
    rw [he, if_neg (by decide)]
    clear he hm hi
    go_enter Tryz.func49, Tryz.ntmps49
    go_wp2_with fail
    refine (M1 _).out.mono ?_
    rintro e w1 ⟨rfl, k1⟩
    go_wp2_with fail
    refine (M2 _).out.mono ?_
    rintro e w2 ⟨rfl, k2⟩
    have HK4 := Lib.hid (K0.tr HK0.out (K0.tr k1 k2))
    clear k1 k2
    go_wp2
    go_ret
    exact ⟨rfl, HO.out.keep HK4.out (fun e => e) (fun e => e), HK4.out.mono (by simp)⟩
  simp only [hi] at M2
  have HV := Lib.hid (aget_avals (.int .i64) C.all ⟨g, t, i⟩)
  by_cases hfull : (aget C.all ⟨g, t, i⟩).isSome = false ∧ C.room ≤ C.all.length
  · have he : commitE C ⟨g, t, i⟩ at_ = 5 := by unfold commitE; rw [if_pos ⟨hm, hi⟩, if_pos hfull]
    rw [he, if_neg (by decide)]
    have HVS := Lib.hid hfull.1
    have hrm := hfull.2
    clear he hm hi hfull
    go_enter Tryz.func49, Tryz.ntmps49
    go_wp2_with fail
    refine (M1 _).out.mono ?_
    rintro e w1 ⟨rfl, k1⟩
    go_wp2_with fail
    refine (M2 _).out.mono ?_
    rintro e w2 ⟨rfl, k2⟩
    have k3 := K0.tr k1 k2
    have k4 := K0.tr HK0.out k3
    have c0 : w2.cell? ⟨w.heap.size, 0, none⟩ = some (.string g) := k3.cell' (block_cell HB.out 0) (fun e => e)
    have c1 : w2.cell? ⟨w.heap.size, 1, none⟩ = some (.string t) := k3.cell' (block_cell HB.out 1) (fun e => e)
    have c2 : w2.cell? ⟨w.heap.size, 2, none⟩ = some (.int .i64 i) := k3.cell' (block_cell HB.out 2) (fun e => e)
    have h2 := HO.out.keep k4 (fun e => e) (fun e => e)
    have t0 : w2.cell? ⟨tb, 0, none⟩ = some (.int .i64 C.room) := block_cell h2.blk 0
    have t1 : w2.cell? ⟨tb, 1, none⟩ = some (.map (some ob)) := block_cell h2.blk 1
    have hlt2 := block_lt h2.blk
    have hl : ∀ n, (Instr.lookup 108 (.map (some ob)) (.agg #[.string g, .string t, .int .i64 i]) true).run Tryz.prog (w2.drewN n) = .ok (.tuple #[.int .i64 0, .bool false]) (w2.drewN n) := fun n => by
      refine (h2.map.look_all offKey Tryz.underlying108 zeroInt ⟨g, t, i⟩ true HV.out (w2.drewN n) rfl).trans ?_
      rw [Option.isSome_eq_false_iff.1 HVS.out |> Option.isNone_iff_eq_none.1]
      rfl
    have hln : ∀ n, (Builtin.len_ #[108] 3 #[.map (some ob)]).run Tryz.prog (w2.drewN n) = .ok (.int .i64 C.all.length) (w2.drewN n) := fun n => by
      rw [h2.map.len_all Tryz.underlying108 3 (w2.drewN n) rfl, avals_len]
    have HH2 := Lib.hid h2
    have HK4 := Lib.hid k4
    clear h2 k1 k2 k3 k4
    go_wp2
    go_quiet (fail)
    go_wp2
    go_quiet (fail)
    go_wp2
    go_ret
    exact ⟨rfl, HH2.out.keep (S := fun _ => False) (((Keeps.refl _ _).drewN _).drewN _) (fun e => e) (fun e => e), ((HK4.out.mono (fun _ _ e => absurd e id)).drewN _).drewN _⟩
  have he : commitE C ⟨g, t, i⟩ at_ = 0 := by unfold commitE; rw [if_pos ⟨hm, hi⟩, if_neg hfull]
  rw [he, if_pos rfl]
  cases hv : (aget C.all ⟨g, t, i⟩).isSome with
  | true =>
    have HVS := Lib.hid hv
    clear he hm hi hv hfull
    go_enter Tryz.func49, Tryz.ntmps49
    go_wp2_with fail
    refine (M1 _).out.mono ?_
    rintro e w1 ⟨rfl, k1⟩
    go_wp2_with fail
    refine (M2 _).out.mono ?_
    rintro e w2 ⟨rfl, k2⟩
    have k3 := K0.tr k1 k2
    have k4 := K0.tr HK0.out k3
    have c0 : w2.cell? ⟨w.heap.size, 0, none⟩ = some (.string g) := k3.cell' (block_cell HB.out 0) (fun e => e)
    have c1 : w2.cell? ⟨w.heap.size, 1, none⟩ = some (.string t) := k3.cell' (block_cell HB.out 1) (fun e => e)
    have c2 : w2.cell? ⟨w.heap.size, 2, none⟩ = some (.int .i64 i) := k3.cell' (block_cell HB.out 2) (fun e => e)
    have h2 := HO.out.keep k4 (fun e => e) (fun e => e)
    have t0 : w2.cell? ⟨tb, 0, none⟩ = some (.int .i64 C.room) := block_cell h2.blk 0
    have t1 : w2.cell? ⟨tb, 1, none⟩ = some (.map (some ob)) := block_cell h2.blk 1
    have hlt2 := block_lt h2.blk
    obtain ⟨x, hx⟩ := Option.isSome_iff_exists.1 HVS.out
    have hl : ∀ n, (Instr.lookup 108 (.map (some ob)) (.agg #[.string g, .string t, .int .i64 i]) true).run Tryz.prog (w2.drewN n) = .ok (.tuple #[.int .i64 x, .bool true]) (w2.drewN n) := fun n => by
      refine (h2.map.look_all offKey Tryz.underlying108 zeroInt ⟨g, t, i⟩ true HV.out (w2.drewN n) rfl).trans ?_
      rw [hx]
      rfl
    obtain ⟨o, hu, hu2⟩ := h2.map.put_all offKey Tryz.underlying108 ⟨g, t, i⟩ (.int .i64 at_)
    have hu1 : ∀ n, (Instr.mapUpdate 108 (.map (some ob)) (.agg #[.string g, .string t, .int .i64 i]) (.int .i64 at_)).run Tryz.prog (w2.drewN n) = .ok () (setObjAt (w2.drewN n) ob o) := fun n => hu _ rfl
    have HU2 := Lib.hid hu2
    have HH2 := Lib.hid h2
    have HK4 := Lib.hid k4
    clear hu hu2 hx h2 k1 k2 k3 k4
    go_wp2
    go_quiet (fail)
    go_wp2
    go_quiet (fail)
    go_wp2
    go_region
    all_goals (go_wp2; go_ret)
    all_goals exact ⟨rfl, ⟨HH2.out.ne, (setObjAt_other _ _ HH2.out.ne).trans HH2.out.blk, by rw [← aput_avals]; exact HU2.out _ rfl⟩, Keeps.setObj (S := fun b => b = ob) ((HK4.out.mono (fun _ _ e => absurd e id)).drewN _) (fun _ => rfl) _⟩
  | false =>
    have hrm : (C.all.length : Int) < C.room := by
      have : ¬ C.room ≤ C.all.length := fun e => hfull ⟨hv, e⟩
      omega
    have HVS := Lib.hid hv
    clear he hm hi hv hfull
    go_enter Tryz.func49, Tryz.ntmps49
    go_wp2_with fail
    refine (M1 _).out.mono ?_
    rintro e w1 ⟨rfl, k1⟩
    go_wp2_with fail
    refine (M2 _).out.mono ?_
    rintro e w2 ⟨rfl, k2⟩
    have k3 := K0.tr k1 k2
    have k4 := K0.tr HK0.out k3
    have c0 : w2.cell? ⟨w.heap.size, 0, none⟩ = some (.string g) := k3.cell' (block_cell HB.out 0) (fun e => e)
    have c1 : w2.cell? ⟨w.heap.size, 1, none⟩ = some (.string t) := k3.cell' (block_cell HB.out 1) (fun e => e)
    have c2 : w2.cell? ⟨w.heap.size, 2, none⟩ = some (.int .i64 i) := k3.cell' (block_cell HB.out 2) (fun e => e)
    have h2 := HO.out.keep k4 (fun e => e) (fun e => e)
    have t0 : w2.cell? ⟨tb, 0, none⟩ = some (.int .i64 C.room) := block_cell h2.blk 0
    have t1 : w2.cell? ⟨tb, 1, none⟩ = some (.map (some ob)) := block_cell h2.blk 1
    have hlt2 := block_lt h2.blk
    have hl : ∀ n, (Instr.lookup 108 (.map (some ob)) (.agg #[.string g, .string t, .int .i64 i]) true).run Tryz.prog (w2.drewN n) = .ok (.tuple #[.int .i64 0, .bool false]) (w2.drewN n) := fun n => by
      refine (h2.map.look_all offKey Tryz.underlying108 zeroInt ⟨g, t, i⟩ true HV.out (w2.drewN n) rfl).trans ?_
      rw [Option.isSome_eq_false_iff.1 HVS.out |> Option.isNone_iff_eq_none.1]
      rfl
    have hln : ∀ n, (Builtin.len_ #[108] 3 #[.map (some ob)]).run Tryz.prog (w2.drewN n) = .ok (.int .i64 C.all.length) (w2.drewN n) := fun n => by
      rw [h2.map.len_all Tryz.underlying108 3 (w2.drewN n) rfl, avals_len]
    obtain ⟨o, hu, hu2⟩ := h2.map.put_all offKey Tryz.underlying108 ⟨g, t, i⟩ (.int .i64 at_)
    have hu1 : ∀ n, (Instr.mapUpdate 108 (.map (some ob)) (.agg #[.string g, .string t, .int .i64 i]) (.int .i64 at_)).run Tryz.prog (w2.drewN n) = .ok () (setObjAt (w2.drewN n) ob o) := fun n => hu _ rfl
    have HU2 := Lib.hid hu2
    have HH2 := Lib.hid h2
    have HK4 := Lib.hid k4
    clear hu hu2 h2 k1 k2 k3 k4
    go_wp2
    go_quiet (fail)
    go_wp2
    go_quiet (fail)
    go_wp2
    go_region
    all_goals (go_wp2; go_ret)
    all_goals exact ⟨rfl, ⟨HH2.out.ne, (setObjAt_other _ _ HH2.out.ne).trans HH2.out.blk, by rw [← aput_avals]; exact HU2.out _ rfl⟩, Keeps.setObj (S := fun b => b = ob) ((HK4.out.mono (fun _ _ e => absurd e id)).drewN _) (fun _ => rfl) _⟩
/-- A new table. -/
theorem offNew_any (r : Int) (w : World) (h1 : 1 ≤ r) (h2 : r ≤ 10000) :
    Calls Tryz.prog 24 #[.int .i64 r] w fun e w' => e = .returned (.tuple #[.pointer (some ⟨w.heap.size + 1, 0, none⟩), .int .i64 0]) ∧ OffAt w' (w.heap.size + 1) w.heap.size ⟨r, []⟩ ∧ K0 w w' ∧ w'.heap.size = w.heap.size + 2 := by
  have hmm := @run_makeMap Tryz.prog
  go_enter Tryz.func24, Tryz.ntmps24
  go_wp2
  go_ret2
  refine ⟨rfl, ⟨by omega, heap_new _ _ _ (by simp), (mapAt_new w).of_block (Below.heap_alloc _ _ _ (by simp))⟩, ((Keeps.refl _ _).alloc _).alloc _, by simp⟩
end Go.Proofs.YtklhlffdpojkoaaGreat
