/-
  The reference's Tick.
-/
import Derived.Test.YtklhlffdpojkoaaGreatJ16
namespace Go.Proofs.YtklhlffdpojkoaaGreat
open Go.RowKit Go.Shelf Fx

/-- Behind the members from j on. -/
def midG (g : GroupC) (now : Int) (j : Nat) : GroupC := { g with ones := g.ones.take j ++ (g.ones.drop j).filter fun o => !(decide (o.til ≤ now)) }
theorem midG_all (g : GroupC) (now : Int) : midG g now g.ones.length = g := by
  unfold midG
  rw [List.take_length, List.drop_length]
  simp
theorem midG_zero (g : GroupC) (now : Int) : midG g now 0 = filG g fun o => decide (o.til ≤ now) := by
  unfold midG filG
  simp
theorem midG_at {g : GroupC} {now : Int} {j : Nat} (h : j < g.ones.length) : ∃ h2 : j < (midG g now (j + 1)).ones.length, (midG g now (j + 1)).ones[j] = g.ones[j] := by
  have h2 : j < (g.ones.take (j + 1)).length := by rw [List.length_take]; omega
  refine ⟨by show j < (g.ones.take (j + 1) ++ _).length; rw [List.length_append]; omega, ?_⟩
  show (g.ones.take (j + 1) ++ (g.ones.drop (j + 1)).filter fun o => !(decide (o.til ≤ now)))[j]'(by rw [List.length_append]; omega) = _
  rw [List.getElem_append_left h2, List.getElem_take]
theorem midG_keep {g : GroupC} {now : Int} {j : Nat} (h : j < g.ones.length) (ht : ¬ g.ones[j].til ≤ now) : midG g now (j + 1) = midG g now j := by
  unfold midG
  congr 1
  rw [List.take_succ_eq_append_getElem h, List.drop_eq_getElem_cons h, List.filter_cons_of_pos (by simpa using ht), List.append_assoc]
  rfl
theorem midG_drop {g : GroupC} {now : Int} {j : Nat} (h : j < g.ones.length) (ht : g.ones[j].til ≤ now) : dropAt (midG g now (j + 1)) j = midG g now j := by
  unfold midG dropAt
  congr 1
  show (g.ones.take (j + 1) ++ (g.ones.drop (j + 1)).filter fun o => !(decide (o.til ≤ now))).eraseIdx j = _
  have hl : (g.ones.take j).length = j := by rw [List.length_take]; omega
  rw [List.take_succ_eq_append_getElem h, List.append_assoc, List.eraseIdx_append_of_length_le (by omega), hl, Nat.sub_self, List.drop_eq_getElem_cons h, List.filter_cons_of_neg (by simpa using ht)]
  rfl
theorem midG_len (g : GroupC) (now : Int) (j : Nat) : (midG g now j).ones.length ≤ g.ones.length := by
  show (g.ones.take j ++ (g.ones.drop j).filter _).length ≤ _
  rw [List.length_append]
  have h1 := List.length_filter_le (fun o : OneC => !(decide (o.til ≤ now))) (g.ones.drop j)
  rw [List.length_drop] at h1
  rw [List.length_take]
  omega
theorem dropG_filWent {g : GroupC} {now : Int} {q : OneC → Bool} (h : ¬ (filG g q).ones.length = g.ones.length) : dropG g now q = wentG (filG g q) now := by
  unfold dropG wentG
  rw [if_neg h]
  by_cases h0 : (filG g q).ones.length = 0
  · rw [if_pos (.inr h0), if_pos h0]
    unfold anewG
    rw [if_pos h0]
  · rw [if_neg h0]
    by_cases hp : g.phase = 1
    · rw [if_neg (fun e => e.elim (fun e => e hp) h0), if_neg (show ¬ ¬ (filG g q).phase = 1 from fun e => e hp)]
    · rw [if_pos (.inl hp), if_pos (show ¬ (filG g q).phase = 1 from hp)]
theorem lead0 (g : GroupC) (h : 0 < g.ones.length) : g.ones[0].member = leaderOf g := by
  obtain ⟨_, _, _, _, _, _, l⟩ := g
  cases l with
  | nil => exact absurd h (Nat.lt_irrefl _)
  | cons o l => rfl
theorem dropG_lead {g : GroupC} (hw : WfG g) (he : EmpG g) (hp : g.phase = 2) (now : Int) : 0 < g.ones.length ∧ (dropG g now fun o => o.member == leaderOf g) = anewG (dropAt g 0) now := by
  have hne : ¬ g.ones.length = 0 := fun e => by have := he e; omega
  have h0 : 0 < g.ones.length := by omega
  refine ⟨h0, ?_⟩
  have hl : g.ones[0].member = leaderOf g := lead0 g h0
  have hel : (dropAt g 0).ones.length + 1 = g.ones.length := by show (g.ones.eraseIdx 0).length + 1 = _; rw [List.length_eraseIdx, if_pos h0]; omega
  unfold dropG
  rw [filG_erase hw h0 hl, if_neg (by omega), if_pos (.inl (by omega))]
set_option maxRecDepth 100000 in
set_option maxHeartbeats 4000000 in
theorem rtick_any (w : World) (F : Nat → Prop) (b : Nat) (g : GroupC) (now : Int) (h : RGrp w F b g) (hw : WfG g) (hed : EmpG (dropG g now fun o => decide (o.til ≤ now))) (hwd : WfG (dropG g now fun o => decide (o.til ≤ now))) :
    Calls Tryz.prog 60 #[.pointer (some ⟨b, 0, none⟩), .int .i64 now] w fun e w' => e = .returned (.tuple #[]) ∧ RGrpPost w F b (tickG g now) w' := by
  obtain ⟨v, L, h⟩ := h
  have HT := Lib.hid (rtime_any now w)
  have hl : L.length ≤ 20 := by have := hw.len; have := h.len; omega
  have HH := Lib.hid h
  have HW := Lib.hid hw
  have HED := Lib.hid hed
  have HWD := Lib.hid hwd
  clear h hw hed hwd
  cases ht : timeOk now with
  | false =>
    have HG : Hid (tickG g now = g) := by show _ = _; unfold tickG; rw [if_neg (by rw [ht]; simp)]
    rw [ht] at HT
    clear ht
    go_enter Tryz.func60, Tryz.ntmps60
    go_wp2_with fail
    refine HT.out.mono ?_
    rintro e w1 ⟨rfl, hk⟩
    go_wp2
    (try simp only [Exit.inBlock, Exit.then])
    refine bodyPost_ret (results_none rfl _ _ _) rfl ?_
    rw [HG.out]
    exact ⟨rfl, F, ⟨v, L, HH.out.keep hk fun _ _ e => e⟩, fun k e => .inl e, hk.mono fun _ _ e => e.elim⟩
  | true =>
    have hn := Lib.hid (time_yes ht)
    have HTT := Lib.hid ht
    rw [ht] at HT
    clear ht
    go_enter Tryz.func60, Tryz.ntmps60
    go_wp2_with fail
    refine HT.out.mono ?_
    rintro e w1 ⟨rfl, hk1⟩
    have hg1 := HH.out.keep hk1 fun _ _ e => e
    have c6 : w1.cell? ⟨b, 6, none⟩ = some v := block_cell hg1.blk 6
    have hb1 := block_lt hg1.blk
    have HK1 := Lib.hid hk1
    have HG1 := Lib.hid hg1
    have hvl : ∃ a c, v = .slice a L.length c := own_slice hg1.row
    obtain ⟨va, vc, rfl⟩ := hvl
    have HLG : Hid (g.ones.length = L.length) := hg1.len
    have HM0 : Hid (RGrpPost w1 F b (midG g now L.length) w1) := by
      show RGrpPost _ _ _ _ _
      rw [← HLG.out, midG_all]
      exact ⟨F, ⟨_, _, hg1⟩, fun k e => .inl e, Keeps.refl _ _⟩
    clear hg1 hk1
    go_wp2
    go_loopw [5] (fun i wr => ∃ j : Nat, i = .int .i64 ((j : Int) - 1) ∧ j ≤ L.length ∧ RGrpPost w1 F b (midG g now j) wr) (fun i _ => (intOf i + 1).toNat)
    case atStart => exact ⟨L.length, rfl, Nat.le_refl _, HM0.out⟩
    case round =>
      obtain ⟨j, rfl, hj, F2, ⟨v2, L2, hg2⟩, hF2, hk2⟩ := hrel
      obtain ⟨wo, rfl⟩ : ∃ wo : World, wo = wr := ⟨_, rfl⟩
      have HG2 := Lib.hid hg2
      have HF2 := Lib.hid hF2
      have HK2 := Lib.hid hk2
      have hlen2 : L2.length ≤ 20 := by have h1 := hg2.len; have h2 := midG_len g now j; have h3 := HLG.out; omega
      have c6 : wo.cell? ⟨b, 6, none⟩ = some v2 := block_cell hg2.blk 6
      have hb2 := block_lt hg2.blk
      cases j with
      | zero =>
        rw [show (((0 : Nat) : Int) - 1) = -1 from rfl]
        obtain ⟨va2, vc2, rfl⟩ := own_slice hg2.row
        rw [midG_zero] at hg2
        have HG3 := Lib.hid hg2
        have hl2 := hg2.len
        clear HM0 HG2 hg2 hF2 hk2
        generalize hD : (dropG g now fun o => decide (o.til ≤ now)) = D at *
        have HDD := Lib.hid hD
        clear hD
        go_upto_if 43 with fail
        go_cut [] (fun wq => RGrpPost w1 F b D wq)
        case first =>
          by_cases hd : L2.length = L.length
          · have hD : Hid (filG g (fun o => decide (o.til ≤ now)) = D) := by show _ = _; rw [← HDD.out]; unfold dropG; rw [if_pos (by rw [hl2, HLG.out]; exact hd)]
            rw [hd] at c6
            clear hl2
            go_wp2
            go_meet
            case rel => rw [← hD.out]; exact ⟨F2, ⟨_, _, HG3.out⟩, HF2.out, HK2.out⟩
          · have hD : Hid (wentG (filG g (fun o => decide (o.til ≤ now))) now = D) := by show _ = _; rw [← HDD.out]; exact (dropG_filWent (by rw [hl2, HLG.out]; exact hd)).symm
            have hlt : (L2.length : Int) < L.length := by
              have h5 := List.length_filter_le (fun o : OneC => !(decide (o.til ≤ now))) g.ones
              have h6 : (filG g (fun o => decide (o.til ≤ now))).ones.length ≤ g.ones.length := h5
              have := HLG.out
              omega
            have HWE := Lib.hid (rwent_any wo F2 b (filG g fun o => decide (o.til ≤ now)) _ L2 now HG3.out (by omega) ⟨hn.out, by have := HW.out.reb; exact ⟨by show 0 ≤ g.rebalance; omega, this.2⟩, HW.out.gen⟩)
            clear hl2 hd
            go_wp2_with fail
            refine HWE.out.mono ?_
            rintro e w4 ⟨rfl, hq⟩
            have HQ := Lib.hid (RGrpPost.trans HF2.out HK2.out hq)
            clear hq
            go_wp2
            go_meet
            case rel => rw [← hD.out]; exact HQ.out
        case rest =>
          obtain ⟨wd, rfl⟩ : ∃ wd : World, wd = wc := ⟨_, rfl⟩
          obtain ⟨F3, ⟨v3, L3, hg3⟩, hF3, hk3⟩ := hcut
          have d2 : wd.cell? ⟨b, 2, none⟩ = some (.int .i64 D.phase) := block_cell hg3.blk 2
          have d5 : wd.cell? ⟨b, 5, none⟩ = some (.int .i64 D.til) := block_cell hg3.blk 5
          have hb3 := block_lt hg3.blk
          have hl3 : L3.length ≤ 20 := by have h1 := hg3.len; have h2 := HWD.out.len; omega
          have HTR : Hid (∀ g2 wz, RGrpPost wd F3 b g2 wz → RGrpPost w F b g2 wz) := fun g2 wz hq => RGrpPost.trans (fun k e => .inl e) (HK1.out.mono fun _ _ e => e.elim) (RGrpPost.trans hF3 hk3 hq)
          have HSELF : Hid (RGrpPost w F b D wd) := HTR.out _ _ ⟨F3, ⟨_, _, hg3⟩, fun k e => .inl e, Keeps.refl _ _⟩
          have HG4 := Lib.hid hg3
          have HTG : Hid (tickG g now = if now < D.til then D else if D.phase = 1 then closeG D now else if D.phase = 2 then dropG D now fun o => o.member == leaderOf D else D) := by
            show _ = _
            rw [← HDD.out]
            unfold tickG
            rw [if_pos HTT.out]
          clear c6 hb2 hl2 hg3 hF3 hk3 HG3 HF2 HK2
          have HBR : Hid (0 ≤ D.rebalance ∧ D.rebalance ≤ 100000) := ⟨by have := HWD.out.reb; omega, HWD.out.reb.2⟩
          have HCL := Lib.hid (fun (hq : True) => rclose_any wd F3 b D v3 L3 now HG4.out (by omega) hn.out HBR.out HWD.out.gen)
          have HLD : Hid (D.phase = 2 → 0 < D.ones.length ∧ (dropG D now fun o => o.member == leaderOf D) = anewG (dropAt D 0) now) := fun hp => dropG_lead HWD.out HED.out hp now
          generalize hph : D.phase = ph at d2 HTG HLD
          generalize htl : D.til = tl at d5 HTG
          clear hph htl
          by_cases hp1 : ph = 1
          · by_cases ht : tl ≤ now
            · have HE : Hid (tickG g now = closeG D now) := by show _ = _; rw [HTG.out, if_neg (by omega), if_pos hp1]
              subst hp1
              go_wp2_with fail
              refine (HCL.out trivial).mono ?_
              rintro e w5 ⟨rfl, hq⟩
              have HQ := Lib.hid (HTR.out _ _ hq)
              clear hq
              go_wp2
              go_end0
              rw [HE.out]
              exact ⟨rfl, HQ.out⟩
            · have HE : Hid (tickG g now = D) := by show _ = _; rw [HTG.out, if_pos (by omega)]
              subst hp1
              have q1 : decide (tl ≤ now) = false := by simpa using ht
              go_wp2
              go_end0
              rw [HE.out]
              exact ⟨rfl, HSELF.out⟩
          · have p1 : (ph == 1) = false := by simpa using hp1
            by_cases hp2 : ph = 2
            · by_cases ht : tl ≤ now
              · obtain ⟨h0, hld⟩ := HLD.out hp2
                have HE : Hid (tickG g now = anewG (dropAt D 0) now) := by show _ = _; rw [HTG.out, if_neg (by omega), if_neg hp1, if_pos hp2, hld]
                have h03 : 0 < L3.length := by rw [← HG4.out.len]; exact h0
                have HDR := Lib.hid (rdrop_any wd F3 b D v3 L3 0 h03 HG4.out (by omega))
                rw [show ((0 : Nat) : Int) = 0 from rfl] at HDR
                clear hld h0 h03 hp1
                subst hp2
                go_wp2_with fail
                refine HDR.out.mono ?_
                rintro e w5 ⟨rfl, F5, ⟨v5, L5, hg5⟩, hF5, hk5⟩
                have HAN := Lib.hid (ranew_any w5 F5 b (dropAt D 0) v5 L5 now hg5 (by
                  have h1 := hg5.len
                  have h2 : (dropAt D 0).ones.length ≤ D.ones.length := List.length_eraseIdx_le _ _
                  have h3 := HWD.out.len
                  omega) hn.out HBR.out)
                have HT5 : Hid (∀ g2 wz, RGrpPost w5 F5 b g2 wz → RGrpPost w F b g2 wz) := fun g2 wz hq => HTR.out _ _ (RGrpPost.trans hF5 hk5 hq)
                clear hg5 hF5 hk5
                go_wp2_with fail
                refine HAN.out.mono ?_
                rintro e w6 ⟨rfl, hq⟩
                have HQ := Lib.hid (HT5.out _ _ hq)
                clear hq
                go_wp2
                go_end0
                rw [HE.out]
                exact ⟨rfl, HQ.out⟩
              · have HE : Hid (tickG g now = D) := by show _ = _; rw [HTG.out, if_pos (by omega)]
                clear hp1
                subst hp2
                have q1 : decide (tl ≤ now) = false := by simpa using ht
                go_wp2
                go_end0
                rw [HE.out]
                exact ⟨rfl, HSELF.out⟩
            · have p2 : (ph == 2) = false := by simpa using hp2
              have HE : Hid (tickG g now = D) := by
                show _ = _
                rw [HTG.out]
                split <;> first | rfl | (rw [if_neg hp1, if_neg hp2])
              clear hp1 hp2
              go_wp2
              go_end0
              rw [HE.out]
              exact ⟨rfl, HSELF.out⟩
      | succ j =>
        have hjg : j < g.ones.length := by rw [HLG.out]; omega
        obtain ⟨hjm, hat⟩ := midG_at (now := now) hjg
        have hj2 : j < L2.length := by rw [← hg2.len]; exact hjm
        have htl : (L2[j]).til = g.ones[j].til := by
          have e1 : (midG g now (j + 1)).ones[j] = (L2[j]).core := by simp only [← hg2.ones, List.getElem_map]
          rw [← hat, e1]
          rfl
        rcases hg2.form with ⟨h0, _⟩ | ⟨r2, cap2, rfl, hrb, hrl, hcap, hFr⟩
        · rw [h0] at hj2; exact absurd hj2 (Nat.not_lt_zero _)
        have ct := (hg2.cell rfl j hj2).2.2.1
        rw [htl] at ct
        have HMK : Hid (¬ g.ones[j].til ≤ now → midG g now (j + 1) = midG g now j) := midG_keep hjg
        have HMD : Hid (g.ones[j].til ≤ now → dropAt (midG g now (j + 1)) j = midG g now j) := midG_drop hjg
        have HDR := Lib.hid (rdrop_any wo F2 b (midG g now (j + 1)) _ L2 j hj2 hg2 (by omega))
        generalize g.ones[j].til = tl at ct HMK HMD
        have i0 : (0 : Int) ≤ j := by omega
        have i1 : (j : Int) < L2.length := by omega
        rw [show (((j + 1 : Nat) : Int) - 1) = j by omega]
        clear hg2 hF2 hk2 hat htl HM0 hjm
        by_cases ht : tl ≤ now
        · have HE := Lib.hid (HMD.out ht)
          go_wp2_with fail
          refine HDR.out.mono ?_
          rintro e w5 ⟨rfl, hq⟩
          have HQ : Hid (RGrpPost w1 F b (midG g now j) w5) := by show RGrpPost _ _ _ _ _; rw [← HE.out]; exact RGrpPost.trans HF2.out HK2.out hq
          clear hq
          go_wp2
          go_roundw
          case rel => exact ⟨j, rfl, by omega, HQ.out⟩
          case measure => first | (simp [intOf]; done) | (simp [intOf]; omega)
        · have HE := Lib.hid (HMK.out ht)
          go_wp2
          go_roundw
          case rel => exact ⟨j, rfl, by omega, by rw [← HE.out]; exact ⟨F2, ⟨_, _, HG2.out⟩, HF2.out, HK2.out⟩⟩
          case measure => first | (simp [intOf]; done) | (simp [intOf]; omega)
end Go.Proofs.YtklhlffdpojkoaaGreat

/-
  The reference's Join: what is stored.
-/
namespace Go.Proofs.YtklhlffdpojkoaaGreat
open Go.RowKit Go.Shelf Fx

/-- A member of no topics is put behind the others. -/
theorem RGrpAt.add {w w1 : World} {F : Nat → Prop} {b g1 cap1 : Nat} {g : GroupC} {v : Value} {L : List OneV} {o : Obj} (h : RGrpAt w F b g v L)
    (hA : App1 ((w.setCell ⟨b, 4, none⟩ (.int .i64 (g.next + 1))).alloc o) 0 111 5 v L.length (L.flatMap oneEnc ++ [.int .i64 g.next, .slice none 0 0, .int .i64 0, .bool false, .slice none 0 0]) g1 cap1 w1) :
    RGrpPost w F b (addG g (-1)) (w1.setCell ⟨b, 6, none⟩ (.slice (some ⟨g1, 0, none⟩) (L.length + 1) cap1)) := by
  have hbl := block_lt h.blk
  have hvb : ∀ k, v.ownBlock = some k → k ≠ b := fun k e => (h.own k e).2
  have hk1 : Keeps (fun k => k = b ∨ v.ownBlock = some k) w w1 := (((Keeps.refl (fun k => k = b ∨ v.ownBlock = some k) w).setC 4 (.int .i64 (g.next + 1)) (fun _ => .inl rfl)).alloc o).grown hA.grown (fun k e _ => .inr e)
  have hb1 : w1.heap[b]? = some (.cells (gCells { g with next := g.next + 1 } v) 81 (0, 0)) := by
    rw [hA.grown.block b (by simp; omega) (fun e => hvb b e.symm rfl)]
    exact block_alloc (setCell_block h.blk 4 _) o
  have hk2 := hk1.setC 6 (.slice (some ⟨g1, 0, none⟩) (L.length + 1) cap1) (b := b) (fun _ => .inl rfl)
  have hg1b : g1 ≠ b := by
    rcases hA.at_ with e | e
    · exact hvb g1 e
    · simp at e; omega
  have hrow := own_keep ((Keeps.refl (fun k => k = b) w1).setC 6 (.slice (some ⟨g1, 0, none⟩) (L.length + 1) cap1) (b := b) (fun _ => rfl)) hA.own (fun k e => by simp [Value.ownBlock] at e; omega)
  have hst := h.step (g' := addG g (-1)) (v' := .slice (some ⟨g1, 0, none⟩) (L.length + 1) cap1) (L' := L ++ [⟨g.next, .slice none 0 0, 0, false, .slice none 0 0, [], []⟩]) hk2 (fun k e => e) (by
      have := setCell_block hb1 6 (.slice (some ⟨g1, 0, none⟩) (L.length + 1) cap1)
      unfold addG
      rw [if_pos rfl]
      exact this) (by
      rw [List.length_append, List.flatMap_append]
      exact hrow) (fun k e => by
      have e1 : g1 = k := by simpa [Value.ownBlock] using e
      subst e1
      rcases hA.at_ with e2 | e2
      · exact .inl e2
      · right; simp at e2; omega) (by
      unfold addG
      rw [if_pos rfl, List.map_append, h.ones]
      rfl) (fun x hx => by
      rcases List.mem_append.1 hx with hx | hx
      · exact .inl ⟨x, hx, rfl, rfl⟩
      · rw [List.mem_singleton] at hx
        subst hx
        exact .inr (Out.nil _ _ _ _)) (fun x hx => by
      rcases List.mem_append.1 hx with hx | hx
      · exact .inl ⟨x, hx, rfl, rfl⟩
      · rw [List.mem_singleton] at hx
        subst hx
        exact .inr (Out.nil _ _ _ _))
  exact ⟨_, ⟨_, _, hst⟩, fun k e => e.elim .inl fun e => .inr e.1, hk2.mono fun k _ e => e.elim (fun e => e ▸ h.fb) fun e => (h.own k e).1⟩
def setTO (m : Int) (topics : List ByteArray) (o : OneC) : OneC := if o.member = m then { o with topics := topics } else o
def setT (g : GroupC) (m : Int) (topics : List ByteArray) : GroupC := { g with ones := g.ones.map (setTO m topics) }
def setJO (m t : Int) (o : OneC) : OneC := if o.member = m then { o with joined := true, til := t } else o
def setJ (g : GroupC) (m t : Int) : GroupC := { g with ones := g.ones.map (setJO m t) }
theorem setJT (g : GroupC) (m : Int) (topics : List ByteArray) (t : Int) : setJ (setT g m topics) m t = setG g m topics t := by
  unfold setJ setT setG
  simp only [List.map_map]
  congr 1
  apply List.map_congr_left
  intro o _
  show setJO m t (setTO m topics o) = setO m topics t o
  unfold setJO setTO setO
  by_cases h : o.member = m
  · rw [if_pos h, if_pos (by exact h), if_pos h]
  · rw [if_neg h, if_neg h, if_neg h]
/-- One member's topics are set: nil first, then what an append onto nil made. -/
theorem RGrpAt.setTop {w w1 : World} {F : Nat → Prop} {b r cap : Nat} {g : GroupC} {L : List OneV} (h : RGrpAt w F b g (.slice (some ⟨r, 0, none⟩) L.length cap) L) (hr : RiseM L) {m : Int} {i : Nat} (hi : i < L.length) (e : L[i].member = m) {tv : Value} {topics : List ByteArray}
    (hk : K0 (w.setCell ⟨r, i * 5 + 1, none⟩ (.slice none 0 0)) w1) (ht : Out 1 rStr w1 (fun k => w.heap.size ≤ k) tv topics) :
    RGrpAt (w1.setCell ⟨r, i * 5 + 1, none⟩ tv) (fun k => F k ∨ (w.heap.size ≤ k ∧ k < (w1.setCell ⟨r, i * 5 + 1, none⟩ tv).heap.size)) b (setT g m topics) (.slice (some ⟨r, 0, none⟩) L.length cap) (L.modify i fun x => { x with tv := tv, topics := topics }) ∧ Keeps (fun k => k = r) w (w1.setCell ⟨r, i * 5 + 1, none⟩ tv) := by
  have hrl : r < w.heap.size := own_lt h.row rfl
  have hbl := block_lt h.blk
  have h0 := own_keep hk (h.row.stored (i * 5 + 1) (.slice none 0 0)).1 (fun _ _ e => e)
  have h1 := (h0.stored (i * 5 + 1) tv).1
  rw [List.set_set, flat_set' oneEnc 5 oneEnc_len (fun x => { x with tv := tv, topics := topics }) 1 tv (by omega) (fun _ => rfl) L i hi] at h1
  have hks : Keeps (fun k => k = r) w1 (w1.setCell ⟨r, i * 5 + 1, none⟩ tv) := (Keeps.refl (fun k => k = r) w1).setC _ _ (fun _ => rfl)
  have hkr : Keeps (fun k => k = r) w (w1.setCell ⟨r, i * 5 + 1, none⟩ tv) :=
    (((Keeps.refl (fun k => k = r) w).setC (i * 5 + 1) (.slice none 0 0) (fun _ => rfl)).trans hk (fun _ _ e => e.elim)).trans hks (fun _ _ e => e)
  have hk2 : Keeps (fun k => (Value.slice (some ⟨r, 0, none⟩) L.length cap).ownBlock = some k) w (w1.setCell ⟨r, i * 5 + 1, none⟩ tv) := hkr.mono fun k _ e => by subst e; rfl
  have ht2 : Out 1 rStr (w1.setCell ⟨r, i * 5 + 1, none⟩ tv) (fun k => w.heap.size ≤ k ∧ k ≠ b ∧ (Value.slice (some ⟨r, 0, none⟩) L.length cap).ownBlock ≠ some k) tv topics :=
    ht.keep still_str hks (fun k _ e1 e2 => by
      have e1 : w.heap.size ≤ k := e1
      have e2 : k = r := e2
      omega) (fun k _ e1 => by
      have e1 : w.heap.size ≤ k := e1
      refine ⟨e1, by omega, fun e2 => ?_⟩
      have : r = k := by simpa [Value.ownBlock] using e2
      omega)
  refine ⟨?_, hkr⟩
  refine h.step (g' := setT g m topics) (v' := .slice (some ⟨r, 0, none⟩) L.length cap) (L' := L.modify i fun x => { x with tv := tv, topics := topics }) (hk2.mono (S1 := fun k => k = b ∨ (Value.slice (some ⟨r, 0, none⟩) L.length cap).ownBlock = some k) fun _ _ e => .inr e) (fun k e => e)
    ((hk2.block b hbl (fun e => (h.own b e).2 rfl)).trans h.blk) (by rw [List.length_modify]; exact h1) (fun k e => .inl e) (by
      rw [modify_core hr hi e _ (fun o => { o with topics := topics }) (fun _ => rfl), h.ones]
      rfl) (fun x hx => by
      obtain ⟨k, hkk, rfl⟩ := List.mem_iff_getElem.1 hx
      have hk' : k < L.length := by simpa using hkk
      rw [List.getElem_modify]
      split
      · exact .inr ht2
      · exact .inl ⟨L[k], List.getElem_mem hk', rfl, rfl⟩) (fun x hx => by
      obtain ⟨k, hkk, rfl⟩ := List.mem_iff_getElem.1 hx
      have hk' : k < L.length := by simpa using hkk
      refine .inl ⟨L[k], List.getElem_mem hk', ?_⟩
      rw [List.getElem_modify]
      split <;> exact ⟨rfl, rfl⟩)
/-- One member has joined, till t. -/
theorem RGrpAt.setFin {w : World} {F : Nat → Prop} {b r cap : Nat} {g : GroupC} {L : List OneV} (h : RGrpAt w F b g (.slice (some ⟨r, 0, none⟩) L.length cap) L) (hr : RiseM L) {m : Int} {i : Nat} (hi : i < L.length) (e : L[i].member = m) (t : Int) :
    RGrpAt ((w.setCell ⟨r, i * 5 + 3, none⟩ (.bool true)).setCell ⟨r, i * 5 + 2, none⟩ (.int .i64 t)) F b (setJ g m t) (.slice (some ⟨r, 0, none⟩) L.length cap) (L.modify i fun x => { x with joined := true, til := t }) := by
  have h1 := ((h.row.stored (i * 5 + 3) (.bool true)).1.stored (i * 5 + 2) (.int .i64 t)).1
  rw [flat_set' oneEnc 5 oneEnc_len (fun x => { x with joined := true }) 3 (.bool true) (by omega) (fun _ => rfl) L i hi,
    flat_set' oneEnc 5 oneEnc_len (fun x => { x with til := t }) 2 (.int .i64 t) (by omega) (fun _ => rfl) _ i (by simpa using hi), List.modify_modify_eq] at h1
  refine h.rowset (((Keeps.refl (fun k => (Value.slice (some ⟨r, 0, none⟩) L.length cap).ownBlock = some k) w).setC _ _ (fun _ => rfl)).setC _ _ (fun _ => rfl)) (by rw [List.length_modify]; exact h1) ?_ rfl fun x hx => ?_
  · rw [modify_core hr hi e _ (fun o => { o with joined := true, til := t }) (fun _ => rfl), h.ones]
    rfl
  · obtain ⟨k, hk, rfl⟩ := List.mem_iff_getElem.1 hx
    have hk' : k < L.length := by simpa using hk
    refine ⟨L[k], List.getElem_mem hk', ?_⟩
    rw [List.getElem_modify]
    split <;> exact ⟨rfl, rfl, rfl, rfl⟩
theorem chk_one (topics : List ByteArray) : chk [⟨0, topics⟩] [] = if topics.length ≤ 20 ∧ chain sltB topics = true then 0 else 1 := by
  have hb : checkB [⟨0, topics⟩] [] = (decide (topics.length ≤ 20) && chain sltB topics) := by
    unfold checkB
    simp [subOk, chain]
  unfold chk
  rw [hb]
  by_cases h1 : topics.length ≤ 20
  · by_cases h2 : chain sltB topics = true
    · simp [h1, h2]
    · have h2 : chain sltB topics = false := by simpa using h2
      simp [h1, h2]
  · simp [h1]
theorem mem_modify_member {L : List OneV} {i : Nat} {f : OneV → OneV} (hf : ∀ x, (f x).member = x.member) {j : Nat} (hj : j < (L.modify i f).length) : (L.modify i f)[j].member = (L[j]'(by simpa using hj)).member := by
  rw [List.getElem_modify]
  split
  · exact hf _
  · rfl
theorem RiseM.modify {L : List OneV} (h : RiseM L) (i : Nat) (f : OneV → OneV) (hf : ∀ x, (f x).member = x.member) : RiseM (L.modify i f) := by
  have hl : (L.modify i f).length = L.length := by simp
  refine ⟨fun a c ha hc hac => ?_, fun a ha => ?_⟩
  · rw [mem_modify_member hf ha, mem_modify_member hf hc]
    exact h.rise a c _ _ hac
  · rw [mem_modify_member hf ha]
    exact h.wf a _
end Go.Proofs.YtklhlffdpojkoaaGreat
