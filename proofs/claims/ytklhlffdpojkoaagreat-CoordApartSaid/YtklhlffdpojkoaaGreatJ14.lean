/-
  The reference's Round: whom the scan finds.
-/
import Derived.Test.YtklhlffdpojkoaaGreatJ13
import Derived.Test.YtklhlffdpojkoaaGreatJ12
namespace Go.Proofs.YtklhlffdpojkoaaGreat
open Go.RowKit Fx

theorem mem_takers {subs : List SubC} {s : ByteArray} {i : Nat} : i ∈ takersL subs s ↔ i < subs.length ∧ wantB (topicsAt subs i) s = true := by
  simp [takersL, takeTo]
theorem next_at {tk : List Nat} (hl : tk.Pairwise (· < ·)) (hn : tk ≠ []) (la : Int) :
    (∃ c, c ∈ tk ∧ nextOf tk la = c ∧ la < c ∧ ∀ x, x ∈ tk → la < (x : Int) → c ≤ x) ∨ (∃ c, c ∈ tk ∧ nextOf tk la = c ∧ (∀ x : Nat, x ∈ tk → (x : Int) ≤ la) ∧ ∀ x, x ∈ tk → c ≤ x) := by
  have hmono : ∀ {i j : Nat} (hi : i < tk.length) (hj : j < tk.length), i ≤ j → tk[i] ≤ tk[j] := fun {i j} hi hj h => by
    rcases Nat.lt_or_ge i j with h1 | h1
    · exact Nat.le_of_lt (List.pairwise_iff_getElem.1 hl i j hi hj h1)
    · obtain rfl : i = j := by omega
      exact Nat.le_refl _
  have hp : 0 < tk.length := List.length_pos_iff.2 hn
  generalize hi : tk.findIdx (fun x : Nat => decide (la < (x : Int))) = i
  have hile : i ≤ tk.length := by rw [← hi]; exact List.findIdx_le_length
  have hlow : ∀ j (h : j < tk.length), j < i → (tk[j] : Int) < la + 1 := fun j h hj => by
    have := List.not_of_lt_findIdx (p := fun x : Nat => decide (la < (x : Int))) (xs := tk) (i := j) (by rw [hi]; exact hj)
    simp at this
    omega
  rcases Nat.lt_or_ge i tk.length with h | h
  · have hc : la < (tk[i] : Int) := by
      have := List.findIdx_getElem (p := fun x : Nat => decide (la < (x : Int))) (xs := tk) (w := by rw [hi]; exact h)
      simp only [hi] at this
      simpa using this
    have hbe : below tk (la + 1) = i := below_at hl hile hlow fun j hj h1 => by have := hmono h hj h1; omega
    left
    refine ⟨tk[i], List.getElem_mem h, ?_, hc, ?_⟩
    · unfold nextOf
      rw [hbe, Nat.mod_eq_of_lt h, List.getD, List.getElem?_eq_getElem h, Option.getD_some]
    · intro x hx hlx
      obtain ⟨j, hj, rfl⟩ := List.mem_iff_getElem.1 hx
      rcases Nat.lt_or_ge j i with h1 | h1
      · have := hlow j hj h1; omega
      · exact hmono h hj h1
  · obtain rfl : i = tk.length := by omega
    have hbe : below tk (la + 1) = tk.length := below_at hl hile hlow fun j hj h1 => by omega
    right
    refine ⟨tk[0], List.getElem_mem hp, ?_, ?_, ?_⟩
    · unfold nextOf
      rw [hbe, Nat.mod_self, List.getD, List.getElem?_eq_getElem hp, Option.getD_some]
    · intro x hx
      obtain ⟨j, hj, rfl⟩ := List.mem_iff_getElem.1 hx
      have := hlow j hj hj
      omega
    · intro x hx
      obtain ⟨j, hj, rfl⟩ := List.mem_iff_getElem.1 hx
      exact hmono hp hj (by omega)
/-- The place that the reference holds as its last. -/
def LastAt (n : Nat) (la : Int) (r : Nat) : Prop := la = r ∨ la = -1 ∧ r + 1 = n
theorem scan_ex {subs : List SubC} {s : ByteArray} (hn : takersL subs s ≠ []) {la : Int} {r : Nat} (hr : r < subs.length) (hla : LastAt subs.length la r) :
    ∃ k0, 1 ≤ k0 ∧ k0 ≤ subs.length ∧ (r + k0) % subs.length = nextOf (takersL subs s) la ∧ nextOf (takersL subs s) la ∈ takersL subs s ∧ ∀ k, 1 ≤ k → k < k0 → (r + k) % subs.length ∉ takersL subs s := by
  have hlt : ∀ x, x ∈ takersL subs s → x < subs.length := fun x hx => (mem_takers.1 hx).1
  rcases next_at (takers_rise subs s) hn la with ⟨c, hc, h1, h2, h3⟩ | ⟨c, hc, h1, h2, h3⟩
  · have hcn := hlt c hc
    rw [h1]
    rcases hla with rfl | ⟨rfl, hr1⟩
    · refine ⟨c - r, by omega, by omega, ?_, hc, fun k k1 k2 hm => ?_⟩
      · rw [show r + (c - r) = c by omega, Nat.mod_eq_of_lt hcn]
      · rw [Nat.mod_eq_of_lt (by omega)] at hm
        have := h3 _ hm (by omega)
        omega
    · refine ⟨c + 1, by omega, by omega, ?_, hc, fun k k1 k2 hm => ?_⟩
      · rw [show r + (c + 1) = c + subs.length by omega, Nat.add_mod_right, Nat.mod_eq_of_lt hcn]
      · rw [show r + k = (k - 1) + subs.length by omega, Nat.add_mod_right, Nat.mod_eq_of_lt (by omega)] at hm
        have := h3 _ hm (by omega)
        omega
  · have hcn := hlt c hc
    have hcl := h2 c hc
    rw [h1]
    rcases hla with rfl | ⟨rfl, hr1⟩
    · refine ⟨subs.length - r + c, by omega, by omega, ?_, hc, fun k k1 k2 hm => ?_⟩
      · rw [show r + (subs.length - r + c) = c + subs.length by omega, Nat.add_mod_right, Nat.mod_eq_of_lt hcn]
      · rcases Nat.lt_or_ge (r + k) subs.length with h4 | h4
        · rw [Nat.mod_eq_of_lt h4] at hm
          have := h2 _ hm
          omega
        · rw [show r + k = (r + k - subs.length) + subs.length by omega, Nat.add_mod_right, Nat.mod_eq_of_lt (by omega)] at hm
          have := h3 _ hm
          omega
    · omega
theorem scan_found {subs : List SubC} {s : ByteArray} {la : Int} {r k : Nat} (hr : r < subs.length) (hla : LastAt subs.length la r) (h1 : 1 ≤ k) (hb : ∀ j, 1 ≤ j → j < k → wantB (topicsAt subs ((r + j) % subs.length)) s = false) (hw : wantB (topicsAt subs ((r + k) % subs.length)) s = true) :
    takersL subs s ≠ [] ∧ nextOf (takersL subs s) la = (r + k) % subs.length := by
  have hm : (r + k) % subs.length ∈ takersL subs s := mem_takers.2 ⟨Nat.mod_lt _ (by omega), hw⟩
  have hn : takersL subs s ≠ [] := List.ne_nil_of_mem hm
  obtain ⟨k0, a1, a2, a3, a4, a5⟩ := scan_ex hn hr hla
  refine ⟨hn, ?_⟩
  rcases Nat.lt_trichotomy k k0 with h | h | h
  · exact absurd hm (a5 k h1 h)
  · rw [h, a3]
  · have e1 := hb k0 a1 h
    rw [a3] at e1
    have e2 := (mem_takers.1 a4).2
    rw [e1] at e2
    cases e2
theorem scan_none {subs : List SubC} {s : ByteArray} {la : Int} {r : Nat} (hr : r < subs.length) (hla : LastAt subs.length la r) (hb : ∀ j, 1 ≤ j → j < subs.length + 1 → wantB (topicsAt subs ((r + j) % subs.length)) s = false) : takersL subs s = [] := by
  by_cases hn : takersL subs s = []
  · exact hn
  · obtain ⟨k0, a1, a2, a3, a4, a5⟩ := scan_ex hn hr hla
    have e1 := hb k0 a1 (by omega)
    rw [a3] at e1
    have e2 := (mem_takers.1 a4).2
    rw [e1] at e2
    cases e2
/-- The first p partitions of a topic, dealt one by one, if anybody wants it. -/
def dealTo (tk : List Nat) (s : ByteArray) (p : Nat) (st : List ShareC × Int) : List ShareC × Int := if tk.length = 0 then st else roundParts tk s p st
end Go.Proofs.YtklhlffdpojkoaaGreat

/-
  The reference's Round: it computes what the package assign's does.
-/
namespace Go.Proofs.YtklhlffdpojkoaaGreat
open Go.RowKit Fx

/-- What the reference holds as its last. -/
def LastV (n : Nat) (la lv : Int) : Prop := -1 ≤ lv ∧ lv < n ∧ (0 < n → ∃ r : Nat, lv = r ∧ LastAt n la r)
theorem LastV.at {n : Nat} {la lv : Int} (h : LastV n la lv) (hn : 0 < n) : ∃ r : Nat, lv = r ∧ r < n ∧ LastAt n la r := by
  obtain ⟨_, h2, h3⟩ := h
  obtain ⟨r, rfl, h4⟩ := h3 hn
  exact ⟨r, rfl, by omega, h4⟩
theorem LastV.start (n : Nat) : LastV n (-1) ((n : Int) - 1) := ⟨by omega, by omega, fun h => ⟨n - 1, by omega, .inr ⟨rfl, by omega⟩⟩⟩
theorem LastV.here {n c : Nat} (h : c < n) : LastV n (c : Int) (c : Int) := ⟨by omega, by omega, fun _ => ⟨c, rfl, .inl rfl⟩⟩
theorem MidS.same {wt wq w3 : World} {v : Value} {Ft : Nat → Prop} {l : List ShareC} (h : MidS wt v Ft l wq) (k : Keeps (fun _ => False) wq w3) : MidS wt v Ft l w3 := by
  obtain ⟨F, vs, h1, h2, h3⟩ := h
  exact ⟨F, vs, h1.keep k (fun _ _ e => e), h2.trans k (fun _ _ e => e.elim), h3⟩
theorem dealTo_none {tk : List Nat} (h : tk.length = 0) (s : ByteArray) (p : Nat) (st : List ShareC × Int) : dealTo tk s p st = st := if_pos h
theorem dealTo_zero (tk : List Nat) (s : ByteArray) (st : List ShareC × Int) : dealTo tk s 0 st = st := by unfold dealTo; split <;> rfl
theorem dealTo_succ {tk : List Nat} (h : tk ≠ []) (s : ByteArray) (p : Nat) (st : List ShareC × Int) :
    dealTo tk s (p + 1) st = (giveL (dealTo tk s p st).1 (nextOf tk (dealTo tk s p st).2) s p, ((nextOf tk (dealTo tk s p st).2 : Nat) : Int)) := by
  have h1 : ¬ tk.length = 0 := by cases tk <;> simp_all
  unfold dealTo
  rw [if_neg h1, if_neg h1]
  rfl
theorem LOk.deal {n c : Nat} (tk : List Nat) (s : ByteArray) {st : List ShareC × Int} (h : LOk n c st.1) (p : Nat) : LOk n (c + p) (dealTo tk s p st).1 := by
  unfold dealTo
  split
  · exact h.mono (by omega)
  · exact LOk.parts tk s h p
theorem roundTo_deal (subs : List SubC) (tops : List TopC) (t : Nat) : roundTo subs tops (t + 1) = dealTo (takersL subs (tops.getD t ⟨⟨#[]⟩, 0⟩).name) (tops.getD t ⟨⟨#[]⟩, 0⟩).name (tops.getD t ⟨⟨#[]⟩, 0⟩).parts.toNat (roundTo subs tops t) := rfl

set_option maxRecDepth 100000 in
set_option maxHeartbeats 4000000 in
theorem round12 (w0 w : World) (sa ta : Option Addr) (sc tc : Nat) (subs : List SubC) (tops : List TopC) (hs : SlAt 2 rSub w0 sa sc subs) (ht : SlAt 2 rTop w0 ta tc tops) (hb : Below w0.heap.size w0 w) :
    Calls Tryz.prog 91 #[.slice sa subs.length sc, .slice ta tops.length tc] w (DealPost w (chk subs tops) (roundL subs tops)) := by
  have HC := Lib.hid (check15 w0 w sa ta sc tc subs tops hs ht hb)
  rcases chk_cases subs tops with hc | hc
  · rw [hc] at HC
    have hok := chk_ok hc
    obtain ⟨l1, l2, l3⟩ := hok
    have HCK := Lib.hid hc
    have HL3 := Lib.hid l3
    have hmt := ht.len
    have HS := Lib.hid hs
    have HT := Lib.hid ht
    have HB := Lib.hid hb
    clear hs ht hb hc l3
    go_enter Tryz.func91, Tryz.ntmps91
    go_wp2_with fail
    refine HC.out.mono ?_
    rintro e w1 ⟨rfl, k1⟩
    go_wp2_with fail
    refine (empty21 w0 w1 sa sc subs HS.out (K0.after k1 HB.out) (by omega)).mono ?_
    rintro e w2 ⟨v, F0, vs0, rfl, hD0, hF0, k2⟩
    have hd0 : OutS w v (roundTo subs tops 0).1 w2 := ⟨F0, vs0, by simpa [roundTo] using hD0, fun j e => by have := hF0 j e; have := k1.size; omega, K0.tr k1 k2⟩
    have hrow := hD0.row
    have hvs : Hid (subs.length = 0 ∨ ∃ g cap, v = .slice (some ⟨g, 0, none⟩) subs.length cap) := by
      by_cases h0 : 0 < subs.length
      · obtain ⟨g, cap, e, _⟩ := hrow.form (by simpa [emptyL] using h0)
        exact .inr ⟨g, cap, by simpa [emptyL] using e⟩
      · exact .inl (by omega)
    clear k1 k2 hF0 hD0 hrow HC
    go_wp2
    go_loopw [8, 9] (fun la i wr => ∃ (t : Nat) (lv : Int), i = .int .i64 t ∧ t ≤ tops.length ∧ la = .int .i64 lv ∧ LastV subs.length (roundTo subs tops t).2 lv ∧ OutS w v (roundTo subs tops t).1 wr) (fun _ i _ => tops.length - (intOf i).toNat)
    case atStart => exact ⟨0, _, rfl, by omega, rfl, LastV.start _, hd0⟩
    case round =>
      clear hd0
      obtain ⟨t, lv, rfl, ht, rfl, hlv, F, vs, hD, hF, hkw⟩ := hrel
      have hbr := hkw.after HB.out
      have HK := Lib.hid hkw
      have HF := Lib.hid hF
      have HD := Lib.hid hD
      clear hF hkw hD
      by_cases hlt : t < tops.length
      · obtain ⟨wt, rfl⟩ : ∃ wt : World, wt = wr := ⟨_, rfl⟩
        obtain ⟨b, off, rfl, hr'⟩ := HT.out.row hlt
        obtain ⟨hx0, hx1, hbl⟩ := top_cells hr' hbr t hlt
        obtain ⟨p, hp⟩ : ∃ p : Nat, tops[t].parts = p := ⟨tops[t].parts.toNat, by have := HL3.out t hlt; omega⟩
        have HG : Hid (tops.getD t ⟨⟨#[]⟩, 0⟩ = tops[t]) := by simp [Hid, List.getD, hlt]
        have hp1 := HL3.out t hlt
        rw [hp] at hx1 hp1
        have HP := Lib.hid hp
        generalize hsn : tops[t].name = s at hx0
        have HN := Lib.hid hsn
        have hbw : Hid (b < w.heap.size) := Nat.lt_of_lt_of_le (row_lt hr' hlt) HB.out.size
        clear hr' hp hsn
        have HBR := Lib.hid hbr
        clear hbr
        have hbF : Hid (¬ F b) := fun e => by
          have h1 := HF.out b e
          have h2 := hbw.out
          omega
        have hmid0 : Hid (MidS wt v F (roundTo subs tops t).1 wt) := ⟨F, vs, HD.out, Keeps.refl _ _, fun j e => .inl e⟩
        have hnl : (takersL subs s).length ≤ 20 := Nat.le_trans (takeTo_len _ _ _) l1
        have HFD := Lib.hid (fun (la : Int) (r k : Nat) => scan_found (subs := subs) (s := s) (la := la) (r := r) (k := k))
        have HNO := Lib.hid (fun (la : Int) (r : Nat) => scan_none (subs := subs) (s := s) (la := la) (r := r))
        generalize htk : takersL subs s = tk at hnl HFD HNO
        have HTKL := Lib.hid htk
        clear htk
        have hLO := Lib.hid (LOk.round (subs := subs) HL3.out t (by omega))
        generalize hL : roundTo subs tops t = L at hmid0 hLO hlv
        have HL := Lib.hid hL
        have HLV := Lib.hid hlv
        clear hL
        obtain ⟨hlv1, hlv2, _⟩ := hlv
        go_wp2
        go_loopw [8, 10] (fun la i wq => ∃ (k : Nat) (lv : Int), i = .int .i64 k ∧ k ≤ p ∧ la = .int .i64 lv ∧ LastV subs.length (dealTo tk s k L).2 lv ∧ MidS wt v F (dealTo tk s k L).1 wq) (fun _ i _ => p - (intOf i).toNat)
        case atStart => exact ⟨0, _, rfl, by omega, rfl, by rw [dealTo_zero]; exact HLV.out, by rw [dealTo_zero]; exact hmid0.out⟩
        case round =>
          clear hlv1 hlv2
          obtain ⟨wo, rfl⟩ : ∃ wo : World, wo = wr := ⟨_, rfl⟩
          obtain ⟨k, lv2, rfl, hk, rfl, hlv, hM⟩ := hrel
          have hK1 : Keeps F wt wo := by obtain ⟨_, _, _, h, _⟩ := hM; exact h
          have y1 := hK1.cell' hx1 hbF.out
          have hbl1 := block_of_cell y1
          have HK1 := Lib.hid hK1
          have HM := Lib.hid hM
          have HLV2 := Lib.hid hlv
          clear hK1 hM
          obtain ⟨hlv1, hlv2, _⟩ := hlv
          by_cases hlt2 : k < p
          · have hlt3 : (k : Int) < p := by omega
            go_wp2
            go_loopw [8, 11] (fun la i wq => ∃ (j : Nat), i = .int .i64 j ∧ 1 ≤ j ∧ j ≤ subs.length + 1 ∧ la = .int .i64 lv2 ∧ Keeps (fun _ => False) wo wq ∧ ∀ r : Nat, lv2 = r → ∀ i, 1 ≤ i → i < j → wantB (topicsAt subs ((r + i) % subs.length)) s = false) (fun _ i _ => subs.length + 1 - (intOf i).toNat)
            case atStart => exact ⟨1, rfl, by omega, by omega, rfl, Keeps.refl _ _, fun _ _ i _ _ => by omega⟩
            case round =>
              obtain ⟨j, rfl, hj1, hj2, rfl, hk3, hno⟩ := hrel
              have HNW := Lib.hid hno
              clear hno
              have z0 := hk3.cell' (HK1.out.cell' hx0 hbF.out) (fun e => e)
              have hbl3 := block_of_cell z0
              by_cases hlt4 : j < subs.length + 1
              · have hlt5 : (j : Int) ≤ subs.length := by omega
                obtain ⟨r, rfl, hr, hla⟩ := HLV2.out.at (by omega)
                have HLA := Lib.hid hla
                have hcm : (r + j) % subs.length < subs.length := Nat.mod_lt _ (by omega)
                have HE : Hid (((r : Int) + j) % subs.length = ((r + j) % subs.length : Nat)) := by show _ = _; rw [Int.natCast_emod]; simp
                have i1 : (1 : Int) ≤ subs.length := by omega
                clear hla
                go_upto_region 16 with fail
                rw [HE.out]
                have HFD2 := Lib.hid (fun hw => HFD.out _ r j hr HLA.out hj1 (HNW.out r rfl) hw)
                have HNX : Hid (wantB (topicsAt subs ((r + j) % subs.length)) s = false → ∀ r' : Nat, (r : Int) = r' → ∀ i, 1 ≤ i → i < j + 1 → wantB (topicsAt subs ((r' + i) % subs.length)) s = false) := fun hw r' e i e1 e2 => by
                  obtain rfl : r = r' := by omega
                  rcases Nat.lt_or_ge i j with h | h
                  · exact HNW.out r rfl i e1 h
                  · obtain rfl : i = j := by omega
                    exact hw
                generalize (r + j) % subs.length = c at hcm HFD2 HNX
                clear HE
                obtain ⟨b1, off1, rfl, hr1⟩ := HS.out.row hcm
                have hb3 : Below w0.heap.size w0 wr := K0.after hk3 (HBR.out.trans (HK1.out.below HBR.out.size fun i e => by have := HF.out i e; have := HB.out.size; omega))
                obtain ⟨a1, cap1, c0, c1, hbl1, hsl⟩ := sub_cells hr1 hb3 c hcm
                have RC := Lib.hid (fun (wz : World) (hz : Keeps (fun _ => False) wr wz) => wants23 w0 wz subs[c].member a1 cap1 subs[c].topics s hsl (K0.after hz hb3))
                have HTA := Lib.hid (topicsAt_eq hcm)
                generalize subs[c].member = mm at c0 RC
                generalize subs[c].topics = tp at c1 RC HTA
                generalize tp.length = n1 at c1 RC
                have u1 : (0 : Int) ≤ c := by omega
                have u2 : (c : Int) < subs.length := by omega
                have u5 : (0 : Int) ≤ t := by omega
                have u6 : (t : Int) < tops.length := by omega
                have hkk : Keeps (fun _ => False) wr wr.drew := (Keeps.refl _ _).drew
                clear hsl hb3 hr1
                cases hw : wantB tp s with
                | true =>
                  obtain ⟨hne, hnx⟩ := HFD2.out (by rw [HTA.out]; exact hw)
                  rw [hw] at RC
                  clear hw
                  go_region_held3 (fun w' => w'.cell? ⟨b1, off1 + c * 2, none⟩ = some (.int .i64 mm) ∧ w'.cell? ⟨b1, off1 + c * 2 + 1, none⟩ = some (.slice a1 n1 cap1) ∧ w'.cell? ⟨b, off + t * 2, none⟩ = some (.string s) ∧ Keeps (fun _ => False) wr w') (first | go_keep | (go_split_ands; refine ⟨?_, ?_, ?_, ?_⟩ <;> first | exact Keeps.cell' (by assumption) (by assumption) (by simp) | exact K0.tr (by assumption) (by assumption) | exact Keeps.drew (by assumption))) (first | (go_at_call 119; refine (RC.out _ (by assumption)).mono ?_; rintro e w' ⟨rfl, hk'⟩))
                  have hk4 : Keeps (fun _ => False) wr w' := K0.tr (by assumption) hk'
                  obtain ⟨F2, vs2, hD2, hK2, hF2⟩ := HM.out.same (K0.tr hk3 hk4)
                  have z1 := hk4.cell' z0 (fun e => e)
                  have hbl4 := block_of_cell z1
                  have HSU : Hid (dealTo tk s (k + 1) L = (giveL (dealTo tk s k L).1 c s k, (c : Int))) := by
                    show _ = _
                    rw [dealTo_succ hne, hnx]
                  have hLj := hLO.out.deal tk s k
                  clear hnx hne hlv1 hlv2
                  generalize hsv : dealTo tk s k L = sv at hD2 HSU hLj
                  clear hsv
                  obtain ⟨lk, la⟩ := sv
                  dsimp only at hD2 HSU hLj
                  obtain ⟨g, capg, rfl⟩ := hvs.out.resolve_left (by omega)
                  have hmj : c < lk.length := by rw [hLj.1]; exact hcm
                  have hcapeq : Hid (lk.length = subs.length) := hLj.1
                  rw [← hLj.1] at hD2
                  obtain ⟨hsite, hfoot⟩ := site_of hD2 hmj
                  rw [hLj.1] at hD2
                  have hpl : (lk[c]).parts.length ≤ 100000 := Nat.le_trans (hLj.2 c hmj) (by omega)
                  have hbp : (vs2.getD c .nilIface).ownBlock ≠ some b := fun e => (hF2 b (hfoot b e)).elim hbF.out (fun e => by have h9 := block_of_cell hx0; omega)
                  have hgb : b ≠ g := fun e => by
                    have := hF2 g (hD2.foot g rfl)
                    subst e
                    exact this.elim hbF.out (fun e => by have h9 := block_of_cell hx0; omega)
                  have pc := hsite.cell
                  have pl := hsite.lt
                  have pown := hsite.own
                  have HSite := Lib.hid hsite
                  have HMG := Lib.hid (fun (o : Obj) (g1 cap1 : Nat) (w1 : World) (hA : App1 (w'.alloc o).drew 0 34 2 (vs2.getD c .nilIface) (lk[c]).parts.length (ptCells (lk[c]).parts ++ [.string s, .int .i64 k]) g1 cap1 w1) =>
                    MidS.give (l := lk) (cap := capg) (by rw [hLj.1]; exact hD2) hK2 hF2 hmj hA)
                  clear hsite hD2 hK2 hF2 hLj hfoot
                  generalize hpv : vs2.getD c .nilIface = pv at pc pown HSite HMG hbp
                  generalize hnn : (lk[c]).parts.length = nn at pown HSite HMG hpl
                  generalize hxs : ptCells (lk[c]).parts = xs at pown HSite HMG
                  clear hpv hnn hxs
                  clear c0 c1
                  go_upto_region 17 with fail
                  go_cut [] (fun wq => MidS wt (.slice (some ⟨g, 0, none⟩) subs.length capg) F (dealTo tk s (k + 1) L).1 wq)
                  case first =>
                    go_region_law (first | (refine step_app1 rfl rfl Tryz.underlying44 info41 rfl (by decide) rfl ((pown.alloc _).drew) rfl (heap_new_drew _ _ _ (by simp)) rfl rfl (by omega) (Nat.zero_le _) ?_; intro g1 cap2 w1 hA; obtain ⟨q1, q2, q3⟩ := HSite.out.after hA; have q5 := q3 _ _ _ z1 hbp; have q6 := HMG.out _ _ _ _ hA; have HQ := Lib.hid q6; clear q3 q6))
                    all_goals (go_wp2; go_meet; case rel => rw [HSU.out, ← hcapeq.out]; exact HQ.out)
                  case rest =>
                    go_wp2
                    go_roundw
                    case rel => exact ⟨k + 1, (c : Int), by go_num, by omega, rfl, by rw [HSU.out]; exact LastV.here hcm, hcut⟩
                    case measure => simp [intOf]; omega
                | false =>
                  have HNY := Lib.hid (HNX.out (by rw [HTA.out]; exact hw))
                  rw [hw] at RC
                  clear hw
                  go_region_held3 (fun w' => w'.cell? ⟨b1, off1 + c * 2, none⟩ = some (.int .i64 mm) ∧ w'.cell? ⟨b1, off1 + c * 2 + 1, none⟩ = some (.slice a1 n1 cap1) ∧ w'.cell? ⟨b, off + t * 2, none⟩ = some (.string s) ∧ Keeps (fun _ => False) wr w') (first | go_keep | (go_split_ands; refine ⟨?_, ?_, ?_, ?_⟩ <;> first | exact Keeps.cell' (by assumption) (by assumption) (by simp) | exact K0.tr (by assumption) (by assumption) | exact Keeps.drew (by assumption))) (first | (go_at_call 119; refine (RC.out _ (by assumption)).mono ?_; rintro e w' ⟨rfl, hk'⟩))
                  go_wp2
                  go_roundw
                  case rel => exact ⟨j + 1, by go_num, by omega, by omega, rfl, K0.tr hk3 (K0.tr (by assumption) hk'), HNY.out⟩
                  case measure => simp [intOf]; omega
              · have HN0 : Hid (0 < subs.length → tk = []) := fun h => by
                  obtain ⟨r, rfl, hr, hla⟩ := HLV2.out.at h
                  exact HNO.out _ r hr hla fun i e1 e2 => HNW.out r rfl i e1 (by omega)
                have HU : Hid (dealTo tk s (k + 1) L = dealTo tk s k L) := by
                  show _ = _
                  by_cases h0 : 0 < subs.length
                  · rw [HN0.out h0]; rfl
                  · have h1 : tk = [] := by
                      rw [← HTKL.out]
                      unfold takersL
                      rw [show subs.length = 0 by omega]
                      rfl
                    rw [h1]
                    rfl
                obtain rfl : j = subs.length + 1 := by omega
                go_wp2
                go_roundw
                case rel => exact ⟨k + 1, lv2, by go_num, by omega, rfl, by rw [HU.out]; exact HLV2.out, by rw [HU.out]; exact HM.out.same hk3⟩
                case measure => simp [intOf]; omega
          · obtain rfl : k = p := by omega
            have HU : Hid (roundTo subs tops (t + 1) = dealTo tk s k L) := by
              show _ = _
              rw [roundTo_deal, HG.out, HN.out, HTKL.out, HP.out, HL.out]
              rfl
            have HO : Hid (OutS w v (roundTo subs tops (t + 1)).1 wo) := by
              obtain ⟨F2, vs2, hD2, hK2, hF2⟩ := HM.out
              rw [HU.out]
              exact ⟨F2, vs2, hD2, fun j e => (hF2 j e).elim (HF.out j) fun e => by have := HK.out.size; omega, HK.out.trans hK2 fun j hj e => by have := HF.out j e; omega⟩
            go_wp2
            go_roundw
            case rel => exact ⟨t + 1, lv2, by go_num, by omega, rfl, by rw [HU.out]; exact HLV2.out, HO.out⟩
            case measure => simp [intOf]; omega
      · obtain rfl : t = tops.length := by omega
        clear hbr
        go_wp2
        go_ret2
        exact .inr ⟨HCK.out, v, F, vs, rfl, HD.out, HF.out, HK.out⟩
  · rw [hc] at HC
    clear hs ht hb
    go_enter Tryz.func91, Tryz.ntmps91
    go_wp2_with fail
    refine HC.out.mono ?_
    rintro e w1 ⟨rfl, k1⟩
    go_wp2
    go_ret2
    exact .inl ⟨hc, rfl, k1⟩
end Go.Proofs.YtklhlffdpojkoaaGreat

/-
  The reference's group of members as an object in memory.
-/
namespace Go.Proofs.YtklhlffdpojkoaaGreat
open Go.RowKit Go.Shelf Fx

/-- The group at block b: its members' row is v, the blocks of all of it are in F. -/
structure RGrpAt (w : World) (F : Nat → Prop) (b : Nat) (g : GroupC) (v : Value) (L : List OneV) : Prop where
  blk : w.heap[b]? = some (.cells (gCells g v) 81 (0, 0))
  row : w.ownsRow 0 111 5 v L.length (L.flatMap oneEnc)
  fb : F b
  lt : ∀ k, F k → k < w.heap.size
  own : ∀ k, v.ownBlock = some k → F k ∧ k ≠ b
  ones : L.map OneV.core = g.ones
  out : ∀ x ∈ L, Out 1 rStr w (fun k => F k ∧ k ≠ b ∧ v.ownBlock ≠ some k) x.tv x.topics ∧ Out 2 rPart w (fun k => F k ∧ k ≠ b ∧ v.ownBlock ≠ some k) x.pv x.parts
def RGrp (w : World) (F : Nat → Prop) (b : Nat) (g : GroupC) : Prop := ∃ v L, RGrpAt w F b g v L
theorem RGrpAt.keep {w w' : World} {F S : Nat → Prop} {b : Nat} {g : GroupC} {v : Value} {L : List OneV} (h : RGrpAt w F b g v L) (hk : Keeps S w w') (hS : ∀ k, F k → ¬ S k) : RGrpAt w' F b g v L :=
  ⟨(hk.block b (block_lt h.blk) (hS b h.fb)).trans h.blk, own_keep hk h.row (fun k e => hS k (h.own k e).1), h.fb, fun k e => Nat.lt_of_lt_of_le (h.lt k e) hk.size, h.own, h.ones, fun x hx =>
    ⟨(h.out x hx).1.keep still_str hk (fun k _ e => hS k e.1) (fun _ _ e => e), (h.out x hx).2.keep still_part hk (fun k _ e => hS k e.1) (fun _ _ e => e)⟩⟩
theorem RGrp.keep {w w' : World} {F S : Nat → Prop} {b : Nat} {g : GroupC} (h : RGrp w F b g) (hk : Keeps S w w') (hS : ∀ k, F k → ¬ S k) : RGrp w' F b g := by
  obtain ⟨v, L, h⟩ := h
  exact ⟨v, L, h.keep hk hS⟩
theorem RGrpAt.step {w w' : World} {F S : Nat → Prop} {b : Nat} {g g' : GroupC} {v v' : Value} {L L' : List OneV} (h : RGrpAt w F b g v L) (hk : Keeps S w w') (hS : ∀ k, S k → k = b ∨ v.ownBlock = some k)
    (hblk : w'.heap[b]? = some (.cells (gCells g' v') 81 (0, 0))) (hrow : w'.ownsRow 0 111 5 v' L'.length (L'.flatMap oneEnc))
    (hv : ∀ k, v'.ownBlock = some k → v.ownBlock = some k ∨ w.heap.size ≤ k) (hones : L'.map OneV.core = g'.ones)
    (ht : ∀ x ∈ L', (∃ y ∈ L, x.tv = y.tv ∧ x.topics = y.topics) ∨ Fresh 1 rStr w w' b v' x.tv x.topics)
    (hp : ∀ x ∈ L', (∃ y ∈ L, x.pv = y.pv ∧ x.parts = y.parts) ∨ Fresh 2 rPart w w' b v' x.pv x.parts) :
    RGrpAt w' (fun k => F k ∨ (w.heap.size ≤ k ∧ k < w'.heap.size)) b g' v' L' := by
  have hb := block_lt h.blk
  have hG : ∀ k, k < w.heap.size → (F k ∧ k ≠ b ∧ v.ownBlock ≠ some k) → ((F k ∨ (w.heap.size ≤ k ∧ k < w'.heap.size)) ∧ k ≠ b ∧ v'.ownBlock ≠ some k) := fun k hk' e =>
    ⟨.inl e.1, e.2.1, fun e2 => (hv k e2).elim e.2.2 fun e3 => by omega⟩
  have hS' : ∀ k, k < w.heap.size → (F k ∧ k ≠ b ∧ v.ownBlock ≠ some k) → ¬ S k := fun k _ e e2 => (hS k e2).elim e.2.1 e.2.2
  have hfr : ∀ {α : Type} {n : Nat} {R : Rdr α} {tv : Value} {l : List α}, Fresh n R w w' b v' tv l → Out n R w' (fun k => (F k ∨ (w.heap.size ≤ k ∧ k < w'.heap.size)) ∧ k ≠ b ∧ v'.ownBlock ≠ some k) tv l := by
    intro α n R tv l ⟨a, cap, e1, e2, e3⟩
    exact ⟨a, cap, e1, e2, fun x ex hne => ⟨(e3 x ex hne).1, .inr ⟨(e3 x ex hne).2.1, (e3 x ex hne).1⟩, (e3 x ex hne).2.2⟩⟩
  refine ⟨hblk, hrow, .inl h.fb, fun k e => e.elim (fun e => Nat.lt_of_lt_of_le (h.lt k e) hk.size) (fun e => e.2), fun k e => ?_, hones, fun x hx => ⟨?_, ?_⟩⟩
  · rcases hv k e with e1 | e1
    · exact ⟨.inl (h.own k e1).1, (h.own k e1).2⟩
    · exact ⟨.inr ⟨e1, (hrow.lt k e).2⟩, by omega⟩
  · rcases ht x hx with ⟨y, hy, e1, e2⟩ | h1
    · rw [e1, e2]
      exact (h.out y hy).1.keep still_str hk hS' hG
    · exact hfr h1
  · rcases hp x hx with ⟨y, hy, e1, e2⟩ | h1
    · rw [e1, e2]
      exact (h.out y hy).2.keep still_part hk hS' hG
    · exact hfr h1
/-- What a call on a group leaves. -/
def RGrpPost (w : World) (F : Nat → Prop) (b : Nat) (g' : GroupC) (w' : World) : Prop :=
  ∃ F', RGrp w' F' b g' ∧ (∀ k, F' k → F k ∨ w.heap.size ≤ k) ∧ Keeps F w w'
theorem RGrpPost.trans {w w1 w2 : World} {F F1 : Nat → Prop} {b : Nat} {g' : GroupC} (hF : ∀ k, F1 k → F k ∨ w.heap.size ≤ k) (hk : Keeps F w w1) (h : RGrpPost w1 F1 b g' w2) : RGrpPost w F b g' w2 := by
  obtain ⟨F2, h1, h2, h3⟩ := h
  refine ⟨F2, h1, fun k e => (h2 k e).elim (hF k) (fun e => .inr (Nat.le_trans hk.size e)), hk.trans h3 fun k hk' e => (hF k e).elim id fun e => by omega⟩

/-- A member's cells. -/
theorem RGrpAt.cell {w : World} {F : Nat → Prop} {b : Nat} {g : GroupC} {v : Value} {L : List OneV} (h : RGrpAt w F b g v L) {r cap : Nat} (hv : v = .slice (some ⟨r, 0, none⟩) L.length cap) (i : Nat) (hi : i < L.length) :
    w.cell? ⟨r, i * 5, none⟩ = some (.int .i64 L[i].member) ∧ w.cell? ⟨r, i * 5 + 1, none⟩ = some L[i].tv ∧ w.cell? ⟨r, i * 5 + 2, none⟩ = some (.int .i64 L[i].til) ∧ w.cell? ⟨r, i * 5 + 3, none⟩ = some (.bool L[i].joined) ∧ w.cell? ⟨r, i * 5 + 4, none⟩ = some L[i].pv := by
  subst hv
  have hc : ∀ j, j < 5 → w.cell? ⟨r, i * 5 + j, none⟩ = (oneEnc L[i])[j]? := fun j hj => by
    rw [h.row.cellAt (i * 5 + j) (by omega)]
    exact flatMap_get oneEnc 5 oneEnc_len L i j hi hj
  exact ⟨hc 0 (by omega), hc 1 (by omega), hc 2 (by omega), hc 3 (by omega), hc 4 (by omega)⟩
/-- Where its row is. -/
theorem RGrpAt.form {w : World} {F : Nat → Prop} {b : Nat} {g : GroupC} {v : Value} {L : List OneV} (h : RGrpAt w F b g v L) : (L = [] ∧ v = .slice none 0 0) ∨ ∃ r cap, v = .slice (some ⟨r, 0, none⟩) L.length cap ∧ r ≠ b ∧ r < w.heap.size ∧ L.length ≤ cap ∧ F r := by
  rcases h.row.2 with ⟨h1, h2⟩ | ⟨r, cap, cur, h1, _, hg, hc, _⟩
  · exact .inl ⟨List.eq_nil_of_length_eq_zero h2, h1⟩
  · have h3 := h.own r (by rw [h1]; rfl)
    exact .inr ⟨r, cap, h1, h3.2, block_lt hg, hc, h3.1⟩
theorem RGrpAt.head {w w' : World} {F : Nat → Prop} {b : Nat} {g g' : GroupC} {v : Value} {L : List OneV} (h : RGrpAt w F b g v L) (hk : Keeps (fun k => k = b) w w') (hblk : w'.heap[b]? = some (.cells (gCells g' v) 81 (0, 0))) (ho : g'.ones = g.ones) : RGrpAt w' F b g' v L :=
  ⟨hblk, own_keep hk h.row (fun k e => (h.own k e).2), h.fb, fun k e => Nat.lt_of_lt_of_le (h.lt k e) hk.size, h.own, by rw [ho]; exact h.ones, fun x hx =>
    ⟨(h.out x hx).1.keep still_str hk (fun k _ e => e.2.1) (fun _ _ e => e), (h.out x hx).2.keep still_part hk (fun k _ e => e.2.1) (fun _ _ e => e)⟩⟩
/-- The first k members are free. -/
structure RFreeMid (w wr : World) (b : Nat) (g : GroupC) (v : Value) (L : List OneV) (k : Nat) : Prop where
  row : wr.ownsRow 0 111 5 v L.length ((freeTo L k).flatMap oneEnc)
  keep : Keeps (fun k => v.ownBlock = some k) w wr
theorem RFreeMid.next {w wr wx : World} {b r cap : Nat} {g : GroupC} {L : List OneV} {k : Nat} (h : RFreeMid w wr b g (.slice (some ⟨r, 0, none⟩) L.length cap) L k) (hk : k < L.length)
    (hx : wx.heap = ((wr.setCell ⟨r, k * 5 + 3, none⟩ (.bool false)).setCell ⟨r, k * 5 + 4, none⟩ (.slice none 0 0)).heap ∨ wx.heap = ((wr.setCell ⟨r, k * 5 + 4, none⟩ (.slice none 0 0)).setCell ⟨r, k * 5 + 3, none⟩ (.bool false)).heap)
    (ht : wx.os = wr.os ∧ wx.tape = wr.tape ∧ wx.output = wr.output) : RFreeMid w wx b g (.slice (some ⟨r, 0, none⟩) L.length cap) L (k + 1) := by
  have hk1 : Keeps (fun k => (Value.slice (some ⟨r, 0, none⟩) L.length cap).ownBlock = some k) w ((wr.setCell ⟨r, k * 5 + 3, none⟩ (.bool false)).setCell ⟨r, k * 5 + 4, none⟩ (.slice none 0 0)) := (h.keep.setC _ _ (fun _ => rfl)).setC _ _ (fun _ => rfl)
  have hk2 : Keeps (fun k => (Value.slice (some ⟨r, 0, none⟩) L.length cap).ownBlock = some k) w ((wr.setCell ⟨r, k * 5 + 4, none⟩ (.slice none 0 0)).setCell ⟨r, k * 5 + 3, none⟩ (.bool false)) := (h.keep.setC _ _ (fun _ => rfl)).setC _ _ (fun _ => rfl)
  have h1 := ((h.row.stored (k * 5 + 3) (.bool false)).1.stored (k * 5 + 4) (.slice none 0 0)).1
  have h2 := ((h.row.stored (k * 5 + 4) (.slice none 0 0)).1.stored (k * 5 + 3) (.bool false)).1
  rw [freeTo_cells hk] at h1
  rw [List.set_comm _ _ (by omega), freeTo_cells hk] at h2
  obtain ⟨t1, t2, t3⟩ := ht
  rcases hx with hx | hx
  · exact ⟨⟨h1.1, by rw [hx]; exact h1.2⟩, ⟨t1.trans hk1.os, t2.trans hk1.tape, t3.trans hk1.output, by rw [hx]; exact hk1.size, fun j a b => by rw [hx]; exact hk1.block j a b⟩⟩
  · exact ⟨⟨h2.1, by rw [hx]; exact h2.2⟩, ⟨t1.trans hk2.os, t2.trans hk2.tape, t3.trans hk2.output, by rw [hx]; exact hk2.size, fun j a b => by rw [hx]; exact hk2.block j a b⟩⟩
end Go.Proofs.YtklhlffdpojkoaaGreat

/-
  The reference's time, rises, find, empty, all.
-/
namespace Go.Proofs.YtklhlffdpojkoaaGreat
open Go.RowKit Go.Shelf Fx

set_option maxRecDepth 100000 in
set_option maxHeartbeats 1000000 in
theorem rtime_any (now : Int) (w : World) : Calls Tryz.prog 84 #[.int .i64 now] w fun e w' => Same w e (.bool (timeOk now)) w' := by
  by_cases h1 : 0 ≤ now
  · by_cases h2 : now ≤ 1099511627776
    · go_enter Tryz.func84, Tryz.ntmps84
      go_wp2
      go_ret
      exact ⟨by simp [timeOk, h1, h2], Keeps.refl _ _⟩
    · go_enter Tryz.func84, Tryz.ntmps84
      go_wp2
      go_ret
      exact ⟨by simp [timeOk, h1, h2], Keeps.refl _ _⟩
  · go_enter Tryz.func84, Tryz.ntmps84
    go_wp2
    go_ret
    exact ⟨by simp [timeOk]; omega, Keeps.refl _ _⟩
set_option maxRecDepth 100000 in
set_option maxHeartbeats 1000000 in
theorem rises15 (w0 w : World) (sa : Option Addr) (sc : Nat) (l : List ByteArray) (hs : SlAt 1 rStr w0 sa sc l) (hb : Below w0.heap.size w0 w) :
    Calls Tryz.prog 85 #[.slice sa l.length sc] w fun e w' => e = .returned (.bool (chain sltB l)) ∧ ∃ n, w' = w.drewN n := by
  have hm := hs.len
  have HS := Lib.hid hs
  have HB := Lib.hid hb
  clear hs hb
  go_enter Tryz.func85, Tryz.ntmps85
  go_wp2
  go_loopw [3] (fun i wr => ∃ k : Nat, i = .int .i64 (k + 1 : Int) ∧ k ≤ l.length ∧ (∀ j (h : j + 1 < l.length), j < k → sltB l[j] l[j + 1] = true) ∧ ∃ n, wr = w.drewN n) (fun i _ => l.length - (intOf i).toNat)
  case atStart => exact ⟨0, rfl, by omega, fun j _ h => by omega, 0, rfl⟩
  case round =>
    obtain ⟨k, rfl, hk, hq, hn⟩ := hrel
    have HQ := Lib.hid hq
    have hbr : Below w0.heap.size w0 wr := by
      obtain ⟨n, rfl⟩ := hn
      exact ⟨HB.out.os, HB.out.tape, HB.out.output, HB.out.size, HB.out.block⟩
    have HK := Lib.hid hn
    clear hq hn
    by_cases hlt : k + 1 < l.length
    · obtain ⟨b, off, rfl, hr'⟩ := HS.out.row hlt
      obtain ⟨c0, hbl⟩ := str_cells hr' hbr k (by omega)
      obtain ⟨d0, _⟩ := str_cells hr' hbr (k + 1) hlt
      generalize hx : l[k] = x at c0
      generalize hy : l[k + 1] = y at d0
      have HX := Lib.hid hx
      have HY := Lib.hid hy
      clear hx hy
      clear hr' hbr
      have hI : IntKind.i64.wrap (k : Int) = k := IntWalk.i64_in _ (by omega)
      have i0 : (0 : Int) ≤ k := by omega
      have i1 : (k : Int) < l.length := by omega
      have i2 : (0 : Int) ≤ (k : Int) + 1 := by omega
      have i3 : (k : Int) + 1 < l.length := by omega
      have i4 : ((k : Int) + 1).toNat = k + 1 := by omega
      by_cases hd : sltB x y = true
      · have HD := Lib.hid hd
        have hd' : Op.bytesLess x.toList y.toList = true := hd
        go_wp2_with fail
        go_quiet (fail)
        go_wp2
        go_roundw
        case rel =>
          obtain ⟨n, rfl⟩ := HK.out
          exact ⟨k + 1, by go_num, by omega, fun j h hj => (Nat.lt_succ_iff_lt_or_eq.1 hj).elim (HQ.out j h) fun e => by subst e; rw [HX.out, HY.out]; exact HD.out, _, World.drewN_drewN _ _ _⟩
        case measure => simp [intOf]; omega
      · have HD : Hid (chain sltB l = false) := chain_false _ _ k hlt (by rw [HX.out, HY.out]; simpa using hd)
        have hd' : Op.bytesLess x.toList y.toList = false := by simpa [sltB] using hd
        go_wp2_with fail
        go_quiet (fail)
        go_wp2
        go_ret
        rw [HD.out]
        obtain ⟨n, rfl⟩ := HK.out
        exact ⟨rfl, _, World.drewN_drewN _ _ _⟩
    · have HD : Hid (chain sltB l = true) := (chain_iff _ _).2 (fun j h => HQ.out j h (lt_of_not' hlt h))
      clear hbr
      go_wp2
      go_ret
      rw [HD.out]
      exact ⟨rfl, HK.out⟩
def RFound (L : List OneV) (m v : Int) : Prop := (∃ i : Nat, ∃ hi : i < L.length, v = i ∧ L[i].member = m) ∨ (v = -1 ∧ ∀ i (h : i < L.length), L[i].member ≠ m)
set_option maxRecDepth 100000 in
set_option maxHeartbeats 1000000 in
theorem rfind_any {w : World} {F : Nat → Prop} {b : Nat} {g : GroupC} {v : Value} {L : List OneV} (m : Int) (h : RGrpAt w F b g v L) (hl : L.length ≤ 1000) :
    Calls Tryz.prog 86 #[.pointer (some ⟨b, 0, none⟩), .int .i64 m] w fun e w' => ∃ x, e = .returned (.int .i64 x) ∧ w' = w ∧ RFound L m x := by
  have hb := block_lt h.blk
  have hx : w.cell? ⟨b, 6, none⟩ = some v := block_cell h.blk 6
  have HH := Lib.hid h
  rcases h.form with ⟨rfl, rfl⟩ | ⟨r, cap, rfl, hrb, hrl, hcap, hFr⟩
  · clear h
    go_enter Tryz.func86, Tryz.ntmps86
    go_wp2
    refine wp_loop_once ?_
    go_wp2
    go_ret
    exact ⟨_, rfl, rfl, .inr ⟨rfl, fun i hi => absurd hi (Nat.not_lt_zero _)⟩⟩
  · clear h
    go_enter Tryz.func86, Tryz.ntmps86
    go_wp2
    go_loopw [5] (fun i wr => ∃ k : Nat, i = .int .i64 k ∧ k ≤ L.length ∧ (∀ j (hj : j < L.length), j < k → L[j].member ≠ m) ∧ wr = w) (fun i _ => L.length - (intOf i).toNat)
    case atStart => exact ⟨0, rfl, by omega, fun _ _ h => absurd h (Nat.not_lt_zero _), rfl⟩
    case round =>
      obtain ⟨k, rfl, hk, hq, rfl⟩ := hrel
      have HQ := Lib.hid hq
      clear hq
      by_cases hlt : k < L.length
      · have c0 := (HH.out.cell rfl k hlt).1
        have i0 : (0 : Int) ≤ k := by omega
        have i1 : (k : Int) < L.length := by omega
        have HLT := Lib.hid hlt
        by_cases he : L[k].member = m
        · have HE := Lib.hid he
          generalize L[k].member = x at c0 he
          subst he
          clear hlt
          go_wp2
          go_ret
          exact ⟨_, rfl, rfl, .inl ⟨k, HLT.out, rfl, HE.out⟩⟩
        · have HE := Lib.hid he
          generalize L[k].member = x at c0 he
          clear hlt
          go_wp2
          go_roundw
          case rel => exact ⟨k + 1, by go_num, HLT.out, fun j hj h2 => (Nat.lt_succ_iff_lt_or_eq.1 h2).elim (HQ.out j hj) fun e => by subst e; exact HE.out, by first | rfl | trivial⟩
          case measure => have := HLT.out; simp [intOf]; omega
      · obtain rfl : k = L.length := by omega
        go_wp2
        go_ret
        exact ⟨_, rfl, rfl, .inr ⟨rfl, fun i hi => HQ.out i hi hi⟩⟩
def emptyG (g : GroupC) : GroupC := if g.ones.length = 0 then enterG g 0 0 else g
set_option maxRecDepth 100000 in
set_option maxHeartbeats 1000000 in
theorem rempty_any {w : World} {F : Nat → Prop} {b : Nat} {g : GroupC} {v : Value} {L : List OneV} (h : RGrpAt w F b g v L) :
    Calls Tryz.prog 115 #[.pointer (some ⟨b, 0, none⟩)] w fun e w' => e = .returned (.bool (decide (L.length = 0))) ∧ RGrpAt w' F b (emptyG g) v L ∧ Keeps (fun k => k = b) w w' := by
  have hb := block_lt h.blk
  have hx : w.cell? ⟨b, 6, none⟩ = some v := block_cell h.blk 6
  have hlen : g.ones.length = L.length := by rw [← h.ones]; simp
  have c2 : w.cell? ⟨b, 2, none⟩ = some (.int .i64 g.phase) := block_cell h.blk 2
  have c5 : w.cell? ⟨b, 5, none⟩ = some (.int .i64 g.til) := block_cell h.blk 5
  have f2 := block_free h.blk 2
  have f5 := block_free h.blk 5
  have HK : Hid (Keeps (fun k => k = b) w ((w.setCell ⟨b, 2, none⟩ (.int .i64 0)).setCell ⟨b, 5, none⟩ (.int .i64 0))) := ((Keeps.refl (fun k => k = b) w).setC 2 _ (fun _ => rfl)).setC 5 _ (fun _ => rfl)
  have HB : Hid (((w.setCell ⟨b, 2, none⟩ (.int .i64 0)).setCell ⟨b, 5, none⟩ (.int .i64 0)).heap[b]? = some (.cells (gCells (enterG g 0 0) v) 81 (0, 0))) := setCell_block (setCell_block h.blk 2 _) 5 _
  have HH := Lib.hid h
  by_cases h0 : L.length = 0
  · have he : emptyG g = enterG g 0 0 := if_pos (by omega)
    have hd : decide (L.length = 0) = true := by simpa using h0
    rw [he, hd]
    have hv : ∃ a c, v = .slice a 0 c := by
      rcases h.form with ⟨_, rfl⟩ | ⟨r, cap, rfl, _⟩
      · exact ⟨_, _, rfl⟩
      · rw [h0]; exact ⟨_, _, rfl⟩
    obtain ⟨a, c, rfl⟩ := hv
    clear h he hd hlen h0
    go_enter Tryz.func115, Tryz.ntmps115
    go_wp2
    go_ret
    exact ⟨rfl, HH.out.head HK.out HB.out rfl, HK.out⟩
  · have he : emptyG g = g := if_neg (by omega)
    have hd : decide (L.length = 0) = false := by simpa using h0
    rw [he, hd]
    have hv : ∃ a c, v = .slice a L.length c := by
      rcases h.form with ⟨e, rfl⟩ | ⟨r, cap, rfl, _⟩
      · rw [e] at h0; exact absurd rfl h0
      · exact ⟨_, _, rfl⟩
    obtain ⟨a, c, rfl⟩ := hv
    have hp : (0 : Int) < L.length := by omega
    clear h he hd hlen h0
    go_enter Tryz.func115, Tryz.ntmps115
    go_wp2
    go_ret
    exact ⟨rfl, HH.out, Keeps.refl _ _⟩
set_option maxRecDepth 100000 in
set_option maxHeartbeats 1000000 in
theorem rall_any {w : World} {F : Nat → Prop} {b : Nat} {g : GroupC} {v : Value} {L : List OneV} (h : RGrpAt w F b g v L) (hl : L.length ≤ 1000) :
    Calls Tryz.prog 88 #[.pointer (some ⟨b, 0, none⟩)] w fun e w' => e = .returned (.bool (g.ones.all (·.joined))) ∧ w' = w := by
  have hb := block_lt h.blk
  have hx : w.cell? ⟨b, 6, none⟩ = some v := block_cell h.blk 6
  have HH := Lib.hid h
  have hall : g.ones.all (·.joined) = L.all (·.joined) := by rw [← h.ones, List.all_map]; rfl
  rw [hall]
  rcases h.form with ⟨rfl, rfl⟩ | ⟨r, cap, rfl, hrb, hrl, hcap, hFr⟩
  · clear h hall
    go_enter Tryz.func88, Tryz.ntmps88
    go_wp2
    refine wp_loop_once ?_
    go_wp2
    go_ret
    exact ⟨rfl, rfl⟩
  · clear h hall
    go_enter Tryz.func88, Tryz.ntmps88
    go_wp2
    go_loopw [3] (fun i wr => ∃ k : Nat, i = .int .i64 k ∧ k ≤ L.length ∧ (∀ j (hj : j < L.length), j < k → L[j].joined = true) ∧ wr = w) (fun i _ => L.length - (intOf i).toNat)
    case atStart => exact ⟨0, rfl, by omega, fun _ _ h => absurd h (Nat.not_lt_zero _), rfl⟩
    case round =>
      obtain ⟨k, rfl, hk, hq, rfl⟩ := hrel
      have HQ := Lib.hid hq
      clear hq
      by_cases hlt : k < L.length
      · have c3 := (HH.out.cell rfl k hlt).2.2.2.1
        have i0 : (0 : Int) ≤ k := by omega
        have i1 : (k : Int) < L.length := by omega
        have HLT := Lib.hid hlt
        generalize he : L[k].joined = jv at c3
        have HE := Lib.hid he
        clear hlt he
        cases jv with
        | false =>
          go_wp2
          go_ret
          refine ⟨?_, rfl⟩
          have : L.all (·.joined) = false := by
            rw [List.all_eq_false]
            exact ⟨_, List.getElem_mem HLT.out, fun e => Bool.false_ne_true (HE.out.symm.trans e)⟩
          rw [this]
          rfl
        | true =>
          go_wp2
          go_roundw
          case rel => exact ⟨k + 1, by go_num, HLT.out, fun j hj h2 => (Nat.lt_succ_iff_lt_or_eq.1 h2).elim (HQ.out j hj) fun e => by subst e; exact HE.out, by first | rfl | trivial⟩
          case measure => have := HLT.out; simp [intOf]; omega
      · obtain rfl : k = L.length := by omega
        go_wp2
        go_ret
        refine ⟨?_, rfl⟩
        have : L.all (·.joined) = true := by
          rw [List.all_eq_true]
          intro x hx
          obtain ⟨i, hi, rfl⟩ := List.mem_iff_getElem.1 hx
          exact HQ.out i hi hi
        rw [this]
        rfl
end Go.Proofs.YtklhlffdpojkoaaGreat

/-
  The reference's anew, close, drop, went.
-/
namespace Go.Proofs.YtklhlffdpojkoaaGreat
open Go.RowKit Go.Shelf Fx

theorem infoROne : (Tryz.prog.info? 111).map (fun i => (i.zero, i.size, i.bytes)) = some (some (.agg #[.int .i64 0, .slice none 0 0, .int .i64 0, .bool false, .slice none 0 0]), 5, 72) := by kernel_rfl
theorem RGrpAt.len {w : World} {F : Nat → Prop} {b : Nat} {g : GroupC} {v : Value} {L : List OneV} (h : RGrpAt w F b g v L) : g.ones.length = L.length := by rw [← h.ones]; simp
set_option maxRecDepth 100000 in
set_option maxHeartbeats 2000000 in
theorem ranew_any (w : World) (F : Nat → Prop) (b : Nat) (g : GroupC) (v : Value) (L : List OneV) (now : Int) (h : RGrpAt w F b g v L) (hl : L.length ≤ 1000) (hn : 0 ≤ now ∧ now ≤ 1099511627776) (hr : 0 ≤ g.rebalance ∧ g.rebalance ≤ 100000) :
    Calls Tryz.prog 87 #[.pointer (some ⟨b, 0, none⟩), .int .i64 now] w fun e w' => e = .returned (.tuple #[]) ∧ RGrpPost w F b (anewG g now) w' := by
  have hlen := h.len
  have HE := Lib.hid (rempty_any h)
  have HF := Lib.hid h.fb
  by_cases h0 : L.length = 0
  · have he : emptyG g = anewG g now := by unfold emptyG anewG; rw [if_pos (by omega), if_pos (by omega)]
    have hd : decide (L.length = 0) = true := by simpa using h0
    have HE2 : Hid (Calls Tryz.prog 115 #[.pointer (some ⟨b, 0, none⟩)] w fun e w' => e = .returned (.bool true) ∧ RGrpAt w' F b (anewG g now) v L ∧ Keeps (fun k => k = b) w w') := by rw [← he, ← hd]; exact HE.out
    clear h hlen HE he hd h0
    go_enter Tryz.func87, Tryz.ntmps87
    go_wp2_with fail
    refine HE2.out.mono ?_
    rintro e w1 ⟨rfl, hg, hk⟩
    have HG := Lib.hid hg
    have HK := Lib.hid hk
    clear hg hk
    go_wp2
    (try simp only [Exit.inBlock, Exit.then])
    refine bodyPost_ret (results_none rfl _ _ _) rfl ?_
    exact ⟨rfl, F, ⟨_, _, HG.out⟩, fun k e => .inl e, HK.out.mono fun k _ e => by subst e; exact HF.out⟩
  · have he : emptyG g = g := by unfold emptyG; rw [if_neg (by omega)]
    have hd : decide (L.length = 0) = false := by simpa using h0
    have HE2 : Hid (Calls Tryz.prog 115 #[.pointer (some ⟨b, 0, none⟩)] w fun e w' => e = .returned (.bool false) ∧ RGrpAt w' F b g v L ∧ Keeps (fun k => k = b) w w') := by
      have := HE.out
      rw [he, hd] at this
      exact this
    rcases h.form with ⟨rfl, rfl⟩ | ⟨r, cap, rfl, hrb, hrl, hcap, hFr⟩
    · exact absurd rfl h0
    · have HL0 : Hid (0 < L.length) := by show 0 < L.length; omega
      clear h hlen HE he hd h0 hrl
      go_enter Tryz.func87, Tryz.ntmps87
      go_wp2_with fail
      refine HE2.out.mono ?_
      rintro e w1 ⟨rfl, hg, hk⟩
      have hb := block_lt hg.blk
      have c1 : w1.cell? ⟨b, 1, none⟩ = some (.int .i64 g.rebalance) := block_cell hg.blk 1
      have c2 : w1.cell? ⟨b, 2, none⟩ = some (.int .i64 g.phase) := block_cell hg.blk 2
      have c5 : w1.cell? ⟨b, 5, none⟩ = some (.int .i64 g.til) := block_cell hg.blk 5
      have f2 := block_free hg.blk 2
      have f5 := block_free hg.blk 5
      have hk2 : Keeps (fun k => k = b) w1 ((w1.setCell ⟨b, 2, none⟩ (.int .i64 1)).setCell ⟨b, 5, none⟩ (.int .i64 (now + g.rebalance))) := ((Keeps.refl (fun k => k = b) w1).setC 2 _ (fun _ => rfl)).setC 5 _ (fun _ => rfl)
      have hg2 := hg.head (g' := enterG g 1 (now + g.rebalance)) hk2 (setCell_block (setCell_block hg.blk 2 _) 5 _) rfl
      have HG := Lib.hid hg2
      have HK1 := Lib.hid (hk.trans hk2 (fun _ _ e => e))
      have hx1 : ((w1.setCell ⟨b, 2, none⟩ (.int .i64 1)).setCell ⟨b, 5, none⟩ (.int .i64 (now + g.rebalance))).cell? ⟨b, 6, none⟩ = some (.slice (some ⟨r, 0, none⟩) L.length cap) := block_cell hg2.blk 6
      have hb1 := block_lt hg2.blk
      have hmid0 := Lib.hid (show RFreeMid ((w1.setCell ⟨b, 2, none⟩ (.int .i64 1)).setCell ⟨b, 5, none⟩ (.int .i64 (now + g.rebalance))) _ b g (.slice (some ⟨r, 0, none⟩) L.length cap) L 0 from ⟨by rw [freeTo_zero]; exact hg2.row, Keeps.refl _ _⟩)
      clear hg hk hk2 hg2
      generalize hrb2 : g.rebalance = rb at c1 hr HG HK1 hx1 hb1 hmid0
      have HRB := Lib.hid hrb2
      clear hrb2
      go_wp2
      generalize hw2 : (w1.setCell ⟨b, 2, none⟩ (.int .i64 1)).setCell ⟨b, 5, none⟩ (.int .i64 (now + rb)) = w2 at HG HK1 hx1 hb1 hmid0
      clear hw2 c1 c2 c5 f2 f5 hb
      go_loopw [4] (fun i wr => ∃ k : Nat, i = .int .i64 k ∧ k ≤ L.length ∧ RFreeMid w2 wr b g (.slice (some ⟨r, 0, none⟩) L.length cap) L k) (fun i _ => L.length - (intOf i).toNat)
      case atStart => exact ⟨0, rfl, by omega, hmid0.out⟩
      case round =>
        obtain ⟨k, rfl, hk, hmid⟩ := hrel
        have HM := Lib.hid hmid
        by_cases hlt : k < L.length
        · have hx2 := hmid.keep.cell' hx1 (fun e => hrb (by simpa [Value.ownBlock] using e))
          have hb2 := Nat.lt_of_lt_of_le hb1 hmid.keep.size
          have hcell : ∀ j, j < 5 → wr.cell? ⟨r, k * 5 + j, none⟩ = (oneEnc L[k])[j]? := fun j hj => by
            rw [hmid.row.cellAt (k * 5 + j) (by omega), flatMap_get oneEnc 5 oneEnc_len (freeTo L k) k j (by rw [freeTo_len]; exact hlt) hj, freeTo_at hlt]
          have c3 : wr.cell? ⟨r, k * 5 + 3, none⟩ = some (.bool L[k].joined) := hcell 3 (by omega)
          have c4 : wr.cell? ⟨r, k * 5 + 4, none⟩ = some L[k].pv := hcell 4 (by omega)
          have f3 := hmid.row.frozenAt (k * 5 + 3)
          have f4 := hmid.row.frozenAt (k * 5 + 4)
          have hrl2 := own_lt hmid.row rfl
          have hbr : b ≠ r := fun e => hrb e.symm
          clear hmid hcell
          generalize L[k].joined = q3 at c3
          generalize L[k].pv = q4 at c4
          have i0 : (0 : Int) ≤ k := by omega
          have i1 : (k : Int) < L.length := by omega
          go_wp2
          go_roundw
          case rel => exact ⟨k + 1, by go_num, by omega, HM.out.next hlt (by first | exact .inl rfl | exact .inr rfl) ⟨rfl, rfl, rfl⟩⟩
          case measure => simp [intOf]; omega
        · obtain rfl : k = L.length := by omega
          have hx2 := hmid.keep.cell' hx1 (fun e => hrb (by simpa [Value.ownBlock] using e))
          have hb2 := Nat.lt_of_lt_of_le hb1 hmid.keep.size
          clear hmid
          go_wp2
          go_end0
          have e : anewG g now = { enterG g 1 (now + rb) with ones := g.ones.map freeO } := by rw [← HRB.out]; exact if_neg (by have := HL0.out; have h9 : g.ones.length = L.length := HG.out.len; omega)
          have hrow := HM.out.row
          rw [freeTo_all] at hrow
          have hstep := HG.out.step (g' := anewG g now) (L' := L.map freeV) HM.out.keep (fun k e => .inr e) (by
            rw [e]
            exact (HM.out.keep.block b (block_lt HG.out.blk) (fun e => hrb (by simpa [Value.ownBlock] using e))).trans HG.out.blk) (by rw [List.length_map]; exact hrow) (fun k e => .inl e)
            (by
              have h9 : L.map OneV.core = g.ones := HG.out.ones
              rw [e]
              show (L.map freeV).map OneV.core = g.ones.map freeO
              rw [← h9, List.map_map, List.map_map]
              rfl)
            (fun x hx => by obtain ⟨y, hy, rfl⟩ := List.mem_map.1 hx; exact .inl ⟨y, hy, rfl, rfl⟩)
            (fun x hx => by obtain ⟨y, hy, rfl⟩ := List.mem_map.1 hx; exact .inr (Out.nil _ _ _ _))
          refine ⟨rfl, _, ⟨_, _, hstep⟩, fun k e => e.elim .inl fun e => .inr (Nat.le_trans HK1.out.size e.1), ?_⟩
          exact (HK1.out.mono (S1 := F) fun k _ e => by subst e; exact HG.out.fb).trans HM.out.keep fun k _ e => (HG.out.own k e).1
end Go.Proofs.YtklhlffdpojkoaaGreat
