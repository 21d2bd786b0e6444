/-
  The reference's Round: it computes what the package assign's does.
-/
import Derived.Test.YtlmajhkhlmkeiaaAq
namespace Go.Proofs.Ytlmajhkhlmkeiaa
open Go.RowKit Fx

/-- What the reference holds as its last. -/
def LastV (n : Nat) (la lv : Int) : Prop := -1 ≤ lv ∧ lv < n ∧ (0 < n → ∃ r : Nat, lv = r ∧ LastAt n la r)
theorem LastV.at {n : Nat} {la lv : Int} (h : LastV n la lv) (hn : 0 < n) : ∃ r : Nat, lv = r ∧ r < n ∧ LastAt n la r := by
  obtain ⟨_, h2, h3⟩ := h
  obtain ⟨r, rfl, h4⟩ := h3 hn
  exact ⟨r, rfl, by omega, h4⟩
theorem LastV.start (n : Nat) : LastV n (-1) ((n : Int) - 1) := ⟨by omega, by omega, fun h => ⟨n - 1, by omega, .inr ⟨rfl, by omega⟩⟩⟩
theorem LastV.here {n c : Nat} (h : c < n) : LastV n (c : Int) (c : Int) := ⟨by omega, by omega, fun _ => ⟨c, rfl, .inl rfl⟩⟩
theorem MidS.same {wt wq w3 : World} {v : Value} {Ft : Nat → Prop} {l : List ShareC} (h : MidS wt v Ft l wq) (k : Keeps (fun _ => False) wq w3) : MidS wt v Ft l w3 := by
  obtain ⟨F, vs, h1, h2, h3⟩ := h
  exact ⟨F, vs, h1.keep k (fun _ _ e => e), h2.trans k (fun _ _ e => e.elim), h3⟩
theorem dealTo_none {tk : List Nat} (h : tk.length = 0) (s : ByteArray) (p : Nat) (st : List ShareC × Int) : dealTo tk s p st = st := if_pos h
theorem dealTo_zero (tk : List Nat) (s : ByteArray) (st : List ShareC × Int) : dealTo tk s 0 st = st := by unfold dealTo; split <;> rfl
theorem dealTo_succ {tk : List Nat} (h : tk ≠ []) (s : ByteArray) (p : Nat) (st : List ShareC × Int) :
    dealTo tk s (p + 1) st = (giveL (dealTo tk s p st).1 (nextOf tk (dealTo tk s p st).2) s p, ((nextOf tk (dealTo tk s p st).2 : Nat) : Int)) := by
  have h1 : ¬ tk.length = 0 := by cases tk <;> simp_all
  unfold dealTo
  rw [if_neg h1, if_neg h1]
  rfl
theorem LOk.deal {n c : Nat} (tk : List Nat) (s : ByteArray) {st : List ShareC × Int} (h : LOk n c st.1) (p : Nat) : LOk n (c + p) (dealTo tk s p st).1 := by
  unfold dealTo
  split
  · exact h.mono (by omega)
  · exact LOk.parts tk s h p
theorem roundTo_deal (subs : List SubC) (tops : List TopC) (t : Nat) : roundTo subs tops (t + 1) = dealTo (takersL subs (tops.getD t ⟨⟨#[]⟩, 0⟩).name) (tops.getD t ⟨⟨#[]⟩, 0⟩).name (tops.getD t ⟨⟨#[]⟩, 0⟩).parts.toNat (roundTo subs tops t) := rfl

set_option maxRecDepth 100000 in
set_option maxHeartbeats 4000000 in
theorem round12 (w0 w : World) (sa ta : Option Addr) (sc tc : Nat) (subs : List SubC) (tops : List TopC) (hs : SlAt 2 rSub w0 sa sc subs) (ht : SlAt 2 rTop w0 ta tc tops) (hb : Below w0.heap.size w0 w) :
    Calls Try.prog 64 #[.slice sa subs.length sc, .slice ta tops.length tc] w (DealPost w (chk subs tops) (roundL subs tops)) := by
  have HC := Lib.hid (check15 w0 w sa ta sc tc subs tops hs ht hb)
  rcases chk_cases subs tops with hc | hc
  · rw [hc] at HC
    have hok := chk_ok hc
    obtain ⟨l1, l2, l3⟩ := hok
    have HCK := Lib.hid hc
    have HL3 := Lib.hid l3
    have hmt := ht.len
    have HS := Lib.hid hs
    have HT := Lib.hid ht
    have HB := Lib.hid hb
    clear hs ht hb hc l3
    go_enter Try.func64, Try.ntmps64
    go_wp2_with fail
    refine HC.out.mono ?_
    rintro e w1 ⟨rfl, k1⟩
    go_wp2_with fail
    refine (empty21 w0 w1 sa sc subs HS.out (K0.after k1 HB.out) (by omega)).mono ?_
    rintro e w2 ⟨v, F0, vs0, rfl, hD0, hF0, k2⟩
    have hd0 : OutS w v (roundTo subs tops 0).1 w2 := ⟨F0, vs0, by simpa [roundTo] using hD0, fun j e => by have := hF0 j e; have := k1.size; omega, K0.tr k1 k2⟩
    have hrow := hD0.row
    have hvs : Hid (subs.length = 0 ∨ ∃ g cap, v = .slice (some ⟨g, 0, none⟩) subs.length cap) := by
      by_cases h0 : 0 < subs.length
      · obtain ⟨g, cap, e, _⟩ := hrow.form (by simpa [emptyL] using h0)
        exact .inr ⟨g, cap, by simpa [emptyL] using e⟩
      · exact .inl (by omega)
    clear k1 k2 hF0 hD0 hrow HC
    go_wp2
    go_loopw [8, 9] (fun la i wr => ∃ (t : Nat) (lv : Int), i = .int .i64 t ∧ t ≤ tops.length ∧ la = .int .i64 lv ∧ LastV subs.length (roundTo subs tops t).2 lv ∧ OutS w v (roundTo subs tops t).1 wr) (fun _ i _ => tops.length - (intOf i).toNat)
    case atStart => exact ⟨0, _, rfl, by omega, rfl, LastV.start _, hd0⟩
    case round =>
      clear hd0
      obtain ⟨t, lv, rfl, ht, rfl, hlv, F, vs, hD, hF, hkw⟩ := hrel
      have hbr := hkw.after HB.out
      have HK := Lib.hid hkw
      have HF := Lib.hid hF
      have HD := Lib.hid hD
      clear hF hkw hD
      by_cases hlt : t < tops.length
      · obtain ⟨wt, rfl⟩ : ∃ wt : World, wt = wr := ⟨_, rfl⟩
        obtain ⟨b, off, rfl, hr'⟩ := HT.out.row hlt
        obtain ⟨hx0, hx1, hbl⟩ := top_cells hr' hbr t hlt
        obtain ⟨p, hp⟩ : ∃ p : Nat, tops[t].parts = p := ⟨tops[t].parts.toNat, by have := HL3.out t hlt; omega⟩
        have HG : Hid (tops.getD t ⟨⟨#[]⟩, 0⟩ = tops[t]) := by simp [Hid, List.getD, hlt]
        have hp1 := HL3.out t hlt
        rw [hp] at hx1 hp1
        have HP := Lib.hid hp
        generalize hsn : tops[t].name = s at hx0
        have HN := Lib.hid hsn
        have hbw : Hid (b < w.heap.size) := Nat.lt_of_lt_of_le (row_lt hr' hlt) HB.out.size
        clear hr' hp hsn
        have HBR := Lib.hid hbr
        clear hbr
        have hbF : Hid (¬ F b) := fun e => by
          have h1 := HF.out b e
          have h2 := hbw.out
          omega
        have hmid0 : Hid (MidS wt v F (roundTo subs tops t).1 wt) := ⟨F, vs, HD.out, Keeps.refl _ _, fun j e => .inl e⟩
        have hnl : (takersL subs s).length ≤ 20 := Nat.le_trans (takeTo_len _ _ _) l1
        have HFD := Lib.hid (fun (la : Int) (r k : Nat) => scan_found (subs := subs) (s := s) (la := la) (r := r) (k := k))
        have HNO := Lib.hid (fun (la : Int) (r : Nat) => scan_none (subs := subs) (s := s) (la := la) (r := r))
        generalize htk : takersL subs s = tk at hnl HFD HNO
        have HTKL := Lib.hid htk
        clear htk
        have hLO := Lib.hid (LOk.round (subs := subs) HL3.out t (by omega))
        generalize hL : roundTo subs tops t = L at hmid0 hLO hlv
        have HL := Lib.hid hL
        have HLV := Lib.hid hlv
        clear hL
        obtain ⟨hlv1, hlv2, _⟩ := hlv
        go_wp2
        go_loopw [8, 10] (fun la i wq => ∃ (k : Nat) (lv : Int), i = .int .i64 k ∧ k ≤ p ∧ la = .int .i64 lv ∧ LastV subs.length (dealTo tk s k L).2 lv ∧ MidS wt v F (dealTo tk s k L).1 wq) (fun _ i _ => p - (intOf i).toNat)
        case atStart => exact ⟨0, _, rfl, by omega, rfl, by rw [dealTo_zero]; exact HLV.out, by rw [dealTo_zero]; exact hmid0.out⟩
        case round =>
          clear hlv1 hlv2
          obtain ⟨wo, rfl⟩ : ∃ wo : World, wo = wr := ⟨_, rfl⟩
          obtain ⟨k, lv2, rfl, hk, rfl, hlv, hM⟩ := hrel
          have hK1 : Keeps F wt wo := by obtain ⟨_, _, _, h, _⟩ := hM; exact h
          have y1 := hK1.cell' hx1 hbF.out
          have hbl1 := block_of_cell y1
          have HK1 := Lib.hid hK1
          have HM := Lib.hid hM
          have HLV2 := Lib.hid hlv
          clear hK1 hM
          obtain ⟨hlv1, hlv2, _⟩ := hlv
          by_cases hlt2 : k < p
          · have hlt3 : (k : Int) < p := by omega
            go_wp2
            go_loopw [8, 11] (fun la i wq => ∃ (j : Nat), i = .int .i64 j ∧ 1 ≤ j ∧ j ≤ subs.length + 1 ∧ la = .int .i64 lv2 ∧ Keeps (fun _ => False) wo wq ∧ ∀ r : Nat, lv2 = r → ∀ i, 1 ≤ i → i < j → wantB (topicsAt subs ((r + i) % subs.length)) s = false) (fun _ i _ => subs.length + 1 - (intOf i).toNat)
            case atStart => exact ⟨1, rfl, by omega, by omega, rfl, Keeps.refl _ _, fun _ _ i _ _ => by omega⟩
            case round =>
              obtain ⟨j, rfl, hj1, hj2, rfl, hk3, hno⟩ := hrel
              have HNW := Lib.hid hno
              clear hno
              have z0 := hk3.cell' (HK1.out.cell' hx0 hbF.out) (fun e => e)
              have hbl3 := block_of_cell z0
              by_cases hlt4 : j < subs.length + 1
              · have hlt5 : (j : Int) ≤ subs.length := by omega
                obtain ⟨r, rfl, hr, hla⟩ := HLV2.out.at (by omega)
                have HLA := Lib.hid hla
                have hcm : (r + j) % subs.length < subs.length := Nat.mod_lt _ (by omega)
                have HE : Hid (((r : Int) + j) % subs.length = ((r + j) % subs.length : Nat)) := by show _ = _; rw [Int.natCast_emod]; simp
                have i1 : (1 : Int) ≤ subs.length := by omega
                clear hla
                go_upto_region 16 with fail
                rw [HE.out]
                have HFD2 := Lib.hid (fun hw => HFD.out _ r j hr HLA.out hj1 (HNW.out r rfl) hw)
                have HNX : Hid (wantB (topicsAt subs ((r + j) % subs.length)) s = false → ∀ r' : Nat, (r : Int) = r' → ∀ i, 1 ≤ i → i < j + 1 → wantB (topicsAt subs ((r' + i) % subs.length)) s = false) := fun hw r' e i e1 e2 => by
                  obtain rfl : r = r' := by omega
                  rcases Nat.lt_or_ge i j with h | h
                  · exact HNW.out r rfl i e1 h
                  · obtain rfl : i = j := by omega
                    exact hw
                generalize (r + j) % subs.length = c at hcm HFD2 HNX
                clear HE
                obtain ⟨b1, off1, rfl, hr1⟩ := HS.out.row hcm
                have hb3 : Below w0.heap.size w0 wr := K0.after hk3 (HBR.out.trans (HK1.out.below HBR.out.size fun i e => by have := HF.out i e; have := HB.out.size; omega))
                obtain ⟨a1, cap1, c0, c1, hbl1, hsl⟩ := sub_cells hr1 hb3 c hcm
                have RC := Lib.hid (fun (wz : World) (hz : Keeps (fun _ => False) wr wz) => wants23 w0 wz subs[c].member a1 cap1 subs[c].topics s hsl (K0.after hz hb3))
                have HTA := Lib.hid (topicsAt_eq hcm)
                generalize subs[c].member = mm at c0 RC
                generalize subs[c].topics = tp at c1 RC HTA
                generalize tp.length = n1 at c1 RC
                have u1 : (0 : Int) ≤ c := by omega
                have u2 : (c : Int) < subs.length := by omega
                have u5 : (0 : Int) ≤ t := by omega
                have u6 : (t : Int) < tops.length := by omega
                have hkk : Keeps (fun _ => False) wr wr.drew := (Keeps.refl _ _).drew
                clear hsl hb3 hr1
                cases hw : wantB tp s with
                | true =>
                  obtain ⟨hne, hnx⟩ := HFD2.out (by rw [HTA.out]; exact hw)
                  rw [hw] at RC
                  clear hw
                  go_region_held3 (fun w' => w'.cell? ⟨b1, off1 + c * 2, none⟩ = some (.int .i64 mm) ∧ w'.cell? ⟨b1, off1 + c * 2 + 1, none⟩ = some (.slice a1 n1 cap1) ∧ w'.cell? ⟨b, off + t * 2, none⟩ = some (.string s) ∧ Keeps (fun _ => False) wr w') (first | go_keep | (go_split_ands; refine ⟨?_, ?_, ?_, ?_⟩ <;> first | exact Keeps.cell' (by assumption) (by assumption) (by simp) | exact K0.tr (by assumption) (by assumption) | exact Keeps.drew (by assumption))) (first | (go_at_call 76; refine (RC.out _ (by assumption)).mono ?_; rintro e w' ⟨rfl, hk'⟩))
                  have hk4 : Keeps (fun _ => False) wr w' := K0.tr (by assumption) hk'
                  obtain ⟨F2, vs2, hD2, hK2, hF2⟩ := HM.out.same (K0.tr hk3 hk4)
                  have z1 := hk4.cell' z0 (fun e => e)
                  have hbl4 := block_of_cell z1
                  have HSU : Hid (dealTo tk s (k + 1) L = (giveL (dealTo tk s k L).1 c s k, (c : Int))) := by
                    show _ = _
                    rw [dealTo_succ hne, hnx]
                  have hLj := hLO.out.deal tk s k
                  clear hnx hne hlv1 hlv2
                  generalize hsv : dealTo tk s k L = sv at hD2 HSU hLj
                  clear hsv
                  obtain ⟨lk, la⟩ := sv
                  dsimp only at hD2 HSU hLj
                  obtain ⟨g, capg, rfl⟩ := hvs.out.resolve_left (by omega)
                  have hmj : c < lk.length := by rw [hLj.1]; exact hcm
                  have hcapeq : Hid (lk.length = subs.length) := hLj.1
                  rw [← hLj.1] at hD2
                  obtain ⟨hsite, hfoot⟩ := site_of hD2 hmj
                  rw [hLj.1] at hD2
                  have hpl : (lk[c]).parts.length ≤ 100000 := Nat.le_trans (hLj.2 c hmj) (by omega)
                  have hbp : (vs2.getD c .nilIface).ownBlock ≠ some b := fun e => (hF2 b (hfoot b e)).elim hbF.out (fun e => by have h9 := block_of_cell hx0; omega)
                  have hgb : b ≠ g := fun e => by
                    have := hF2 g (hD2.foot g rfl)
                    subst e
                    exact this.elim hbF.out (fun e => by have h9 := block_of_cell hx0; omega)
                  have pc := hsite.cell
                  have pl := hsite.lt
                  have pown := hsite.own
                  have HSite := Lib.hid hsite
                  have HMG := Lib.hid (fun (o : Obj) (g1 cap1 : Nat) (w1 : World) (hA : App1 (w'.alloc o).drew 0 61 2 (vs2.getD c .nilIface) (lk[c]).parts.length (ptCells (lk[c]).parts ++ [.string s, .int .i64 k]) g1 cap1 w1) =>
                    MidS.give (l := lk) (cap := capg) (by rw [hLj.1]; exact hD2) hK2 hF2 hmj hA)
                  clear hsite hD2 hK2 hF2 hLj hfoot
                  generalize hpv : vs2.getD c .nilIface = pv at pc pown HSite HMG hbp
                  generalize hnn : (lk[c]).parts.length = nn at pown HSite HMG hpl
                  generalize hxs : ptCells (lk[c]).parts = xs at pown HSite HMG
                  clear hpv hnn hxs
                  clear c0 c1
                  go_upto_region 17 with fail
                  go_cut [] (fun wq => MidS wt (.slice (some ⟨g, 0, none⟩) subs.length capg) F (dealTo tk s (k + 1) L).1 wq)
                  case first =>
                    go_region_law (first | (refine step_app1 rfl rfl Try.underlying37 info41 rfl (by decide) rfl ((pown.alloc _).drew) rfl (heap_new_drew _ _ _ (by simp)) rfl rfl (by omega) (Nat.zero_le _) ?_; intro g1 cap2 w1 hA; obtain ⟨q1, q2, q3⟩ := HSite.out.after hA; have q5 := q3 _ _ _ z1 hbp; have q6 := HMG.out _ _ _ _ hA; have HQ := Lib.hid q6; clear q3 q6))
                    all_goals (go_wp2; go_meet; case rel => rw [HSU.out, ← hcapeq.out]; exact HQ.out)
                  case rest =>
                    go_wp2
                    go_roundw
                    case rel => exact ⟨k + 1, (c : Int), by go_num, by omega, rfl, by rw [HSU.out]; exact LastV.here hcm, hcut⟩
                    case measure => simp [intOf]; omega
                | false =>
                  have HNY := Lib.hid (HNX.out (by rw [HTA.out]; exact hw))
                  rw [hw] at RC
                  clear hw
                  go_region_held3 (fun w' => w'.cell? ⟨b1, off1 + c * 2, none⟩ = some (.int .i64 mm) ∧ w'.cell? ⟨b1, off1 + c * 2 + 1, none⟩ = some (.slice a1 n1 cap1) ∧ w'.cell? ⟨b, off + t * 2, none⟩ = some (.string s) ∧ Keeps (fun _ => False) wr w') (first | go_keep | (go_split_ands; refine ⟨?_, ?_, ?_, ?_⟩ <;> first | exact Keeps.cell' (by assumption) (by assumption) (by simp) | exact K0.tr (by assumption) (by assumption) | exact Keeps.drew (by assumption))) (first | (go_at_call 76; refine (RC.out _ (by assumption)).mono ?_; rintro e w' ⟨rfl, hk'⟩))
                  go_wp2
                  go_roundw
                  case rel => exact ⟨j + 1, by go_num, by omega, by omega, rfl, K0.tr hk3 (K0.tr (by assumption) hk'), HNY.out⟩
                  case measure => simp [intOf]; omega
              · have HN0 : Hid (0 < subs.length → tk = []) := fun h => by
                  obtain ⟨r, rfl, hr, hla⟩ := HLV2.out.at h
                  exact HNO.out _ r hr hla fun i e1 e2 => HNW.out r rfl i e1 (by omega)
                have HU : Hid (dealTo tk s (k + 1) L = dealTo tk s k L) := by
                  show _ = _
                  by_cases h0 : 0 < subs.length
                  · rw [HN0.out h0]; rfl
                  · have h1 : tk = [] := by
                      rw [← HTKL.out]
                      unfold takersL
                      rw [show subs.length = 0 by omega]
                      rfl
                    rw [h1]
                    rfl
                obtain rfl : j = subs.length + 1 := by omega
                go_wp2
                go_roundw
                case rel => exact ⟨k + 1, lv2, by go_num, by omega, rfl, by rw [HU.out]; exact HLV2.out, by rw [HU.out]; exact HM.out.same hk3⟩
                case measure => simp [intOf]; omega
          · obtain rfl : k = p := by omega
            have HU : Hid (roundTo subs tops (t + 1) = dealTo tk s k L) := by
              show _ = _
              rw [roundTo_deal, HG.out, HN.out, HTKL.out, HP.out, HL.out]
              rfl
            have HO : Hid (OutS w v (roundTo subs tops (t + 1)).1 wo) := by
              obtain ⟨F2, vs2, hD2, hK2, hF2⟩ := HM.out
              rw [HU.out]
              exact ⟨F2, vs2, hD2, fun j e => (hF2 j e).elim (HF.out j) fun e => by have := HK.out.size; omega, HK.out.trans hK2 fun j hj e => by have := HF.out j e; omega⟩
            go_wp2
            go_roundw
            case rel => exact ⟨t + 1, lv2, by go_num, by omega, rfl, by rw [HU.out]; exact HLV2.out, HO.out⟩
            case measure => simp [intOf]; omega
      · obtain rfl : t = tops.length := by omega
        clear hbr
        go_wp2
        go_ret2
        exact .inr ⟨HCK.out, v, F, vs, rfl, HD.out, HF.out, HK.out⟩
  · rw [hc] at HC
    clear hs ht hb
    go_enter Try.func64, Try.ntmps64
    go_wp2_with fail
    refine HC.out.mono ?_
    rintro e w1 ⟨rfl, k1⟩
    go_wp2
    go_ret2
    exact .inl ⟨hc, rfl, k1⟩
end Go.Proofs.Ytlmajhkhlmkeiaa
