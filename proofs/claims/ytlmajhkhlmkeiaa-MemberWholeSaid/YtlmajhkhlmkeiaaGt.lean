/-
  A member syncs: the walk.
-/
import Derived.Test.YtlmajhkhlmkeiaaGs
namespace Go.Proofs.Ytlmajhkhlmkeiaa
open Go.RowKit Go.Shelf Fx

theorem still_top : Still rTop := fun _ _ _ _ h => h
def partsOf (g : GroupC) (m : Int) : List PartC := ((g.ones.find? fun o => o.member == m).map OneC.parts).getD []
theorem parts_at {g : GroupC} {m : Int} (hr : g.ones.Pairwise MemLt) {i : Nat} (hi : i < g.ones.length) (e : g.ones[i].member = m) : partsOf g m = g.ones[i].parts := by
  unfold partsOf
  have h1 : g.ones.find? (fun o => o.member == m) = some g.ones[i] := by
    rw [List.find?_eq_some_iff_getElem]
    refine ⟨by simpa using e, i, hi, rfl, fun j hj => ?_⟩
    have := List.pairwise_iff_getElem.1 hr j i (by omega) hi hj
    unfold MemLt at this
    simp
    omega
  rw [h1]
  rfl
def syncTouch (g : GroupC) (m now : Int) : GroupC := touchG g m (now + g.session)
def syncE (g : GroupC) (m gn : Int) (tops : List TopC) (now : Int) : Int :=
  if timeOk now then
    if knownE g m gn = 0 then
      if g.phase = 1 then 13
      else if g.phase = 2 then (if m = leaderOf g then chk (subsOf (syncTouch g m now)) tops else 13)
      else 0
    else knownE g m gn
  else 1
def syncG (g : GroupC) (m gn : Int) (tops : List TopC) (round : Bool) (now : Int) : GroupC :=
  if timeOk now then
    if knownE g m gn = 0 then
      if g.phase = 1 then g
      else if g.phase = 2 then (if m = leaderOf g then (if chk (subsOf (syncTouch g m now)) tops = 0 then shareG (syncTouch g m now) (dealL round (subsOf (syncTouch g m now)) tops) else syncTouch g m now) else syncTouch g m now)
      else syncTouch g m now
    else g
  else g
theorem WfG.touch {g : GroupC} (h : WfG g) (m t : Int) : WfG (touchG g m t) :=
  h.same (by simp [touchG]) (fun i hi => by simp only [touchG, List.getElem_map, touchO]; split <;> rfl) rfl rfl rfl h.gen
theorem WfG.share {g : GroupC} (h : WfG g) (l : List ShareC) : WfG (shareG g l) :=
  h.same (by simp [shareG, enterG]) (fun i hi => by simp [shareG, enterG, partO]) rfl rfl rfl h.gen
/-- What Sync leaves, told. -/
def SyncPost (w : World) (F : Nat → Prop) (b : Nat) (g g' : GroupC) (m er : Int) (e : Ending) (w' : World) : Prop :=
  ∃ pv F', e = .returned (.tuple #[pv, .int .i64 er]) ∧ Grp w' F' b g' ∧ (∀ k, F' k → F k ∨ w.heap.size ≤ k) ∧ Keeps F w w' ∧ (er = 0 → Out 2 rPart w' (fun k => ¬ F' k ∧ w.heap.size ≤ k) pv (partsOf g' m)) ∧ (¬ er = 0 → pv = .slice none 0 0)
theorem SyncPost.err {w w' : World} {F : Nat → Prop} {b : Nat} {g g' : GroupC} {m er : Int} (he : ¬ er = 0) (h : GrpPost w F b g' w') : SyncPost w F b g g' m er (.returned (.tuple #[.slice none 0 0, .int .i64 er])) w' := by
  obtain ⟨F', h1, h2, h3⟩ := h
  exact ⟨_, F', rfl, h1, h2, h3, fun e => absurd e he, fun _ => rfl⟩
/-- A copy of the member's parts is answered. -/
theorem SyncPost.ok {w w1 w' : World} {F F' : Nat → Prop} {b r cap i : Nat} {g g' : GroupC} {m : Int} {L : List OneV} {pv : Value} (hg : GrpAt w1 F' b g' (.slice (some ⟨r, 0, none⟩) L.length cap) L) (hw : WfG g') (hF : ∀ k, F' k → F k ∨ w.heap.size ≤ k) (hk : Keeps F w w1)
    (hi : i < L.length) (hm : L[i].member = m) (ho : Out 2 rPart w' (fun k => w1.heap.size ≤ k) pv L[i].parts) (hk2 : K0 w1 w') : SyncPost w F b g g' m 0 (.returned (.tuple #[pv, .int .i64 0])) w' := by
  refine ⟨pv, F', rfl, ⟨_, L, hg.keep hk2 fun _ _ e => e⟩, hF, hk.trans hk2 fun _ _ e => e.elim, fun _ => ?_, fun h => absurd rfl h⟩
  have hi' : i < g'.ones.length := by rw [hg.glen]; exact hi
  have hc : g'.ones[i] = L[i].core := by simp only [← hg.ones, List.getElem_map]
  rw [parts_at hw.pair hi' (by rw [hc]; exact hm), hc]
  exact ho.keep still_part (Keeps.refl (fun _ => False) _) (fun _ _ _ e => e) (fun k _ e => ⟨fun e2 => by have := hg.lt k e2; have e : w1.heap.size ≤ k := e; omega, Nat.le_trans hk.size e⟩)
set_option maxRecDepth 100000 in
set_option maxHeartbeats 4000000 in
theorem sync_any (w : World) (F : Nat → Prop) (b : Nat) (g : GroupC) (m gn now : Int) (tv : Value) (tops : List TopC) (round : Bool) (h : Grp w F b g) (hw : WfG g) (hbn : BndG g) (hm : -9223372036854775808 ≤ m ∧ m ≤ 9223372036854775807) (ht : Out 2 rTop w (fun k => ¬ F k) tv tops) :
    Calls Try.prog 13 #[.pointer (some ⟨b, 0, none⟩), .int .i64 m, .int .i64 gn, tv, .bool round, .int .i64 now] w fun e w' => SyncPost w F b g (syncG g m gn tops round now) m (syncE g m gn tops now) e w' := by
  obtain ⟨v, L, h⟩ := h
  have HOUT := Lib.hid ht
  obtain ⟨ta, tc, rfl, _, _⟩ := ht
  have HT := Lib.hid (isTime_any now w)
  have HK := Lib.hid (fun (wx : World) (hk : K0 w wx) => known_any wx F b g v L m gn (h.keep hk fun _ _ e => e) hw hm)
  have HR := Lib.hid (h.rise hw)
  have HS := Lib.hid hw.ses
  have HH := Lib.hid h
  have HW := Lib.hid hw
  have HBN := Lib.hid hbn
  have HSELF : Hid (∀ wx, K0 w wx → GrpPost w F b g wx) := fun wx hk => ⟨F, ⟨v, L, h.keep hk fun _ _ e => e⟩, fun k e => .inl e, hk.mono fun _ _ e => e.elim⟩
  clear h hw hm hbn
  cases htm : timeOk now with
  | false =>
    have HE : Hid (syncE g m gn tops now = 1) := if_neg (by rw [htm]; simp)
    have HG : Hid (syncG g m gn tops round now = g) := if_neg (by rw [htm]; simp)
    rw [htm] at HT
    clear htm
    go_enter Try.func13, Try.ntmps13
    go_wp2_with fail
    refine HT.out.mono ?_
    rintro e w1 ⟨rfl, hk⟩
    go_wp2
    go_ret2
    rw [HE.out, HG.out]
    exact SyncPost.err (by decide) (HSELF.out _ hk)
  | true =>
    have hn := time_yes htm
    have HE : Hid (syncE g m gn tops now = if knownE g m gn = 0 then if g.phase = 1 then 13 else if g.phase = 2 then (if m = leaderOf g then chk (subsOf (syncTouch g m now)) tops else 13) else 0 else knownE g m gn) := if_pos htm
    have HG : Hid (syncG g m gn tops round now = if knownE g m gn = 0 then if g.phase = 1 then g else if g.phase = 2 then (if m = leaderOf g then (if chk (subsOf (syncTouch g m now)) tops = 0 then shareG (syncTouch g m now) (dealL round (subsOf (syncTouch g m now)) tops) else syncTouch g m now) else syncTouch g m now) else syncTouch g m now else g) := if_pos htm
    rw [htm] at HT
    clear htm
    go_enter Try.func13, Try.ntmps13
    go_wp2_with fail
    refine HT.out.mono ?_
    rintro e w1 ⟨rfl, hk1⟩
    have HK1 := Lib.hid hk1
    go_wp2_with fail
    refine (HK.out _ hk1).mono ?_
    rintro e w2 ⟨hk2, p, rfl, hp⟩
    have HK2 := Lib.hid (K0.tr hk1 hk2)
    have HP := Lib.hid hp
    clear hk1 hk2 hp HT HK
    by_cases h0 : knownE g m gn = 0
    · have HE := Lib.hid (HE.out.trans (if_pos h0))
      have HG := Lib.hid (HG.out.trans (if_pos h0))
      obtain ⟨i, hi, r, cap, e1, rfl, rfl⟩ := HP.out h0
      have hg2 := HH.out.keep HK2.out fun _ _ e => e
      have cp : w2.cell? ⟨b, 2, none⟩ = some (.int .i64 g.phase) := block_cell hg2.blk 2
      have hb2 := block_lt hg2.blk
      rw [h0]
      clear h0 HP
      by_cases h1 : g.phase = 1
      · have HE := Lib.hid (HE.out.trans (if_pos h1))
        have HG := Lib.hid (HG.out.trans (if_pos h1))
        rw [h1] at cp
        clear h1 hg2 e1
        go_wp2
        go_ret2
        rw [HE.out, HG.out]
        exact SyncPost.err (by decide) (HSELF.out _ HK2.out)
      · have HE := Lib.hid (HE.out.trans (if_neg h1))
        have HG := Lib.hid (HG.out.trans (if_neg h1))
        have h1' : (g.phase == 1) = false := by simpa using h1
        have hg3 := hg2.touch HR.out hi e1 (now + g.session)
        have cs : w2.cell? ⟨b, 0, none⟩ = some (.int .i64 g.session) := block_cell hg2.blk 0
        have c6 : w2.cell? ⟨b, 6, none⟩ = some (.slice (some ⟨r, 0, none⟩) L.length cap) := block_cell hg2.blk 6
        obtain ⟨zz0, zz1, ct, zz3, zz4⟩ := hg2.cell rfl i hi
        clear zz0 zz1 zz3 zz4
        have cf := hg2.row.frozenAt (i * 5 + 2)
        have hr2 : r < w2.heap.size := own_lt hg2.row rfl
        have hrb : r ≠ b := (hg2.own r rfl).2
        have hbr : b ≠ r := fun e => hrb e.symm
        have hs := HS.out
        have hpos : 0 < L.length := by omega
        have cm : w2.cell? ⟨r, 0, none⟩ = some (.int .i64 L[0].member) := by
          have cm0 := (hg2.cell rfl 0 hpos).1
          simpa using cm0
        have HLD := Lib.hid (leader_of hg2.ones hpos)
        have HKF : Hid (Keeps F w (w2.setCell ⟨r, i * 5 + 2, none⟩ (.int .i64 (now + g.session)))) := (HK2.out.mono fun _ _ e => e.elim).setC _ _ (fun _ => (hg2.own r rfl).1)
        have HW3 : Hid (WfG (syncTouch g m now)) := HW.out.touch _ _
        have HG3 : Hid (GrpAt (w2.setCell ⟨r, i * 5 + 2, none⟩ (.int .i64 (now + g.session))) F b (syncTouch g m now) (.slice (some ⟨r, 0, none⟩) L.length cap) (L.modify i fun x => { x with til := now + g.session })) := hg3
        have HPL : Hid (L[i].parts.length ≤ 100000) := (HBN.out L[i].core (by rw [← HH.out.ones]; exact List.mem_map_of_mem (List.getElem_mem hi))).2
        have HM3 : Hid (∃ hi3 : i < (L.modify i fun x => { x with til := now + g.session }).length, (L.modify i fun x => { x with til := now + g.session })[i].member = m ∧ (L.modify i fun x => { x with til := now + g.session })[i].parts = L[i].parts) := ⟨by simpa using hi, by rw [List.getElem_modify, if_pos rfl]; exact ⟨e1, rfl⟩⟩
        have HL3 : Hid ((L.modify i fun x => { x with til := now + g.session }).length = L.length) := List.length_modify _ _ _
        clear hg2 hg3 e1
        generalize L[i].til = tl at ct
        generalize L[0].member = ld at cm HLD
        generalize hss : g.session = se at cs hs HKF HG3 HM3 HL3
        generalize (L.modify i fun x => { x with til := now + se }) = L3 at HG3 HM3 HL3
        generalize syncTouch g m now = g3 at *
        have HSE := Lib.hid hss
        clear hss
        have i1 : (0 : Int) < L.length := by omega
        by_cases h2 : g.phase = 2
        · have HE := Lib.hid (HE.out.trans (if_pos h2))
          have HG := Lib.hid (HG.out.trans (if_pos h2))
          rw [h2] at cp
          clear h1 h1' h2
          by_cases hl : m = ld
          · have HE := Lib.hid (HE.out.trans (if_pos (hl.trans HLD.out.symm)))
            have HG := Lib.hid (HG.out.trans (if_pos (hl.trans HLD.out.symm)))
            have htop := HOUT.out.keep still_top HKF.out (G' := fun k => ¬ F k) (fun _ _ e => e) (fun _ _ e => e)
            obtain ⟨ta2, tc2, et, hts, _⟩ := htop
            simp only [Value.slice.injEq] at et
            obtain ⟨rfl, _, rfl⟩ := et
            have HSH := Lib.hid (share_any _ F b g3 _ L3 ta tc tops round HG3.out HW3.out hts)
            clear hts
            subst hl
            have hl' : (m != m) = false := by simp
            go_wp2_with fail
            refine HSH.out.mono ?_
            rintro e w3 ⟨rfl, F4, L4, hg4, hF40, hk4⟩
            have hF4 : ∀ k, F4 k → F k ∨ w.heap.size ≤ k := fun k e => (hF40 k e).imp_right fun e2 => Nat.le_trans HKF.out.size e2
            clear hF40
            rcases chk_cases (subsOf g3) tops with hc | hc
            · rw [hc] at HE HG
              rw [hc] at hg4 ⊢
              rw [if_pos rfl] at hg4
              have HG9 := Lib.hid (HG.out.trans (if_pos rfl))
              have HE9 := Lib.hid HE.out
              clear HE HG
              have hl4 : L4.length = L.length := by
                have := hg4.glen
                have h9 := HG3.out.glen
                rw [← HL3.out, ← h9, ← this]
                simp [shareG, enterG]
              have hi4 : i < L4.length := by omega
              have hgv : GrpAt w3 F4 b (shareG g3 (dealL round (subsOf g3) tops)) (.slice (some ⟨r, 0, none⟩) L4.length cap) L4 := by rw [hl4]; exact hg4
              obtain ⟨_, _, _, _, x4⟩ := hgv.cell rfl i hi4
              have hm4 : L4[i].member = m := by
                obtain ⟨hi3, e3, _⟩ := HM3.out
                have a1 : (shareG g3 (dealL round (subsOf g3) tops)).ones[i]'(by rw [hgv.glen]; exact hi4) = L4[i].core := by simp only [← hgv.ones, List.getElem_map]
                have a2 : g3.ones[i]'(by rw [HG3.out.glen]; exact hi3) = L3[i].core := by simp only [← HG3.out.ones, List.getElem_map]
                have a3 : L4[i].core.member = L3[i].core.member := by rw [← a1, ← a2]; simp [shareG, enterG, partO]
                exact a3.trans e3
              have hpl : L4[i].parts.length ≤ 6400 := by
                have a1 : (shareG g3 (dealL round (subsOf g3) tops)).ones[i]'(by rw [hgv.glen]; exact hi4) = L4[i].core := by simp only [← hgv.ones, List.getElem_map]
                have a2 : L4[i].parts = ((dealL round (subsOf g3) tops).getD i ⟨0, []⟩).parts := by
                  have : L4[i].parts = L4[i].core.parts := rfl
                  rw [this, ← a1]
                  simp [shareG, enterG, partO]
                rw [a2]
                by_cases hid : i < (dealL round (subsOf g3) tops).length
                · rw [List.getD, List.getElem?_eq_getElem hid]
                  exact (deal_len hc).2 i hid
                · rw [List.getD, List.getElem?_eq_none (by omega)]
                  exact Nat.zero_le _
              obtain ⟨_, pa, pn, pc, o4⟩ := hgv.slices L4[i] (List.getElem_mem hi4)
              have HCL := Lib.hid (fun (wz : World) (hk : K0 w3 wz) => clone_part wz _ _ L4[i].parts ((hgv.out L4[i] (List.getElem_mem hi4)).2.keep still_part hk (G' := fun _ => True) (fun _ _ _ e => e) (fun _ _ _ => trivial)) (by omega))
              have HFIN := Lib.hid (fun (w5 : World) (pv : Value) (ho : Out 2 rPart w5 (fun k => w3.heap.size ≤ k) pv L4[i].parts) (hk5 : K0 w3 w5) => SyncPost.ok (w := w) (g := g) hgv (HW3.out.share _) hF4 (HKF.out.trans hk4 fun _ _ e => e) hi4 hm4 ho hk5)
              rw [o4] at x4 HCL
              have hbl := cell_block1 x4
              clear hg4 hgv hm4 hpl hF4 hk4 hc o4
              go_wp2_with fail
              refine (HCL.out _ (Keeps.refl _ _)).mono ?_
              rintro e w5 ⟨pv, rfl, ho, hk5⟩
              go_wp2
              go_ret2
              rw [HE9.out, HG9.out]
              exact HFIN.out _ _ ho hk5
            · rw [hc] at HE HG
              rw [hc] at hg4 ⊢
              rw [if_neg (by decide)] at hg4
              have HG9 := Lib.hid (HG.out.trans (if_neg (by decide)))
              have HE9 := Lib.hid HE.out
              clear HE HG
              have HQ : Hid (GrpPost w F b g3 w3) := ⟨F4, ⟨_, L4, hg4⟩, hF4, HKF.out.trans hk4 fun _ _ e => e⟩
              clear hg4 hF4 hk4 hc
              go_wp2
              go_ret2
              rw [HE9.out, HG9.out]
              exact SyncPost.err (by decide) HQ.out
          · have HE := Lib.hid (HE.out.trans (if_neg (fun e => hl (e.trans HLD.out))))
            have HG := Lib.hid (HG.out.trans (if_neg (fun e => hl (e.trans HLD.out))))
            have hl' : (m != ld) = true := by simpa using hl
            have HQ : Hid (GrpPost w F b g3 (w2.setCell ⟨r, i * 5 + 2, none⟩ (.int .i64 (now + se)))) := ⟨F, ⟨_, L3, HG3.out⟩, fun k e => .inl e, HKF.out⟩
            go_wp2
            go_ret2
            rw [HE.out, HG.out]
            exact SyncPost.err (by decide) HQ.out
        · have HE := Lib.hid (HE.out.trans (if_neg h2))
          have HG := Lib.hid (HG.out.trans (if_neg h2))
          have h2' : (g.phase == 2) = false := by simpa using h2
          clear h1 h2
          generalize g.phase = ph at cp h1' h2'
          obtain ⟨hi3, hm3, hp3⟩ := HM3.out
          have hgv : GrpAt (w2.setCell ⟨r, i * 5 + 2, none⟩ (.int .i64 (now + se))) F b g3 (.slice (some ⟨r, 0, none⟩) L3.length cap) L3 := by rw [HL3.out]; exact HG3.out
          obtain ⟨_, pa, pn, pc, o4⟩ := hgv.slices L3[i] (List.getElem_mem hi3)
          have x4 : w2.cell? ⟨r, i * 5 + 4, none⟩ = some L[i].pv := ((HH.out.keep HK2.out fun _ _ e => e).cell rfl i hi).2.2.2.2
          have hpv : L3[i].pv = L[i].pv := by
            have y4 := (hgv.cell rfl i hi3).2.2.2.2
            have y5 : (w2.setCell ⟨r, i * 5 + 2, none⟩ (.int .i64 (now + se))).cell? ⟨r, i * 5 + 4, none⟩ = some L[i].pv := (World.cell?_setCell_other _ _ _ _ (by simp)).trans x4
            exact Option.some.inj (y4.symm.trans y5)
          have HCL := Lib.hid (fun (wz : World) (hk : K0 (w2.setCell ⟨r, i * 5 + 2, none⟩ (.int .i64 (now + se))) wz) => clone_part wz _ _ L3[i].parts ((hgv.out L3[i] (List.getElem_mem hi3)).2.keep still_part hk (G' := fun _ => True) (fun _ _ _ e => e) (fun _ _ _ => trivial)) (by rw [hp3]; exact HPL.out))
          have HFIN := Lib.hid (fun (w5 : World) (pv : Value) (ho : Out 2 rPart w5 (fun k => (w2.setCell ⟨r, i * 5 + 2, none⟩ (.int .i64 (now + se))).heap.size ≤ k) pv L3[i].parts) (hk5 : K0 (w2.setCell ⟨r, i * 5 + 2, none⟩ (.int .i64 (now + se))) w5) => SyncPost.ok (g := g) hgv HW3.out (fun k e => .inl e) HKF.out hi3 hm3 ho hk5)
          rw [hpv] at o4 HCL
          rw [o4] at x4 HCL
          clear hgv hm3 hp3 hpv o4
          go_wp2_with fail
          refine (HCL.out _ (Keeps.refl _ _)).mono ?_
          rintro e w5 ⟨pv, rfl, ho, hk5⟩
          go_wp2
          go_ret2
          rw [HE.out, HG.out]
          exact HFIN.out _ _ ho hk5
    · have HE9 := Lib.hid (HE.out.trans (if_neg h0))
      have HG9 := Lib.hid (HG.out.trans (if_neg h0))
      have h0' : (knownE g m gn != 0) = true := by simpa using h0
      have HN0 := Lib.hid h0
      clear h0 HP HE HG
      generalize knownE g m gn = ke at *
      go_wp2
      go_ret2
      rw [HE9.out, HG9.out]
      exact SyncPost.err HN0.out (HSELF.out _ HK2.out)
end Go.Proofs.Ytlmajhkhlmkeiaa
