/-
  The reference's Sync.
-/
import Derived.Test.YtklhlffdpojkoaaGreatJ19
import Derived.BigRegion
namespace Go.Proofs.YtklhlffdpojkoaaGreat
open Go.RowKit Go.Shelf Fx

def RSyncPost (w : World) (F : Nat → Prop) (b : Nat) (g' : GroupC) (m er : Int) (e : Ending) (w' : World) : Prop :=
  ∃ pv F', e = .returned (.tuple #[pv, .int .i64 er]) ∧ RGrp w' F' b g' ∧ (∀ k, F' k → F k ∨ w.heap.size ≤ k) ∧ Keeps F w w' ∧ ∃ ps, Out 2 rPart w' (fun _ => True) pv ps ∧ ps.length ≤ 100000 ∧ (er = 0 → ps = partsOf g' m) ∧ (¬ er = 0 → ps = [])
theorem RSyncPost.err {w w' : World} {F : Nat → Prop} {b : Nat} {g' : GroupC} {m er : Int} (he : ¬ er = 0) (h : RGrpPost w F b g' w') : RSyncPost w F b g' m er (.returned (.tuple #[.slice none 0 0, .int .i64 er])) w' := by
  obtain ⟨F', h1, h2, h3⟩ := h
  exact ⟨_, F', rfl, h1, h2, h3, [], Out.nil _ _ _ _, Nat.zero_le _, fun e => absurd e he, fun _ => rfl⟩
theorem lead_at {g : GroupC} (hw : WfG g) {i : Nat} (hi : i < g.ones.length) : g.ones[i].member = leaderOf g ↔ i = 0 := by
  have h0 : 0 < g.ones.length := by omega
  rw [← lead0 g h0]
  constructor
  · intro e
    rcases Nat.eq_zero_or_pos i with h | h
    · exact h
    · have := hw.rise 0 i h0 hi h; omega
  · intro e; subst e; rfl
theorem partTo_member (L : List OneV) (vs : List Value) (l : List ShareC) (k : Nat) {i : Nat} (hi : i < (partTo L vs l k).length) : (partTo L vs l k)[i].member = (L[i]'(by rw [partTo_len] at hi; exact hi)).member := by
  simp only [partTo, List.getElem_mapIdx]
  split <;> rfl
/-- Behind the store of a member's time. -/
def TilRel (wh : World) (F : Nat → Prop) (b : Nat) (g' : GroupC) (r cap : Nat) (L1 : List OneV) (wz : World) : Prop :=
  RGrpAt wz F b g' (.slice (some ⟨r, 0, none⟩) L1.length cap) L1 ∧ Keeps F wh wz
theorem TilRel.of {wh wz : World} {F : Nat → Prop} {b r cap i : Nat} {g : GroupC} {L : List OneV} {m t : Int} (h : RGrpAt wh F b g (.slice (some ⟨r, 0, none⟩) L.length cap) L) (hr : RiseM L) (hi : i < L.length) (hm : L[i].member = m)
    (hz : wz.heap = (wh.setCell ⟨r, i * 5 + 2, none⟩ (.int .i64 t)).heap) (ho : wz.os = wh.os ∧ wz.tape = wh.tape ∧ wz.output = wh.output) : TilRel wh F b (touchG g m t) r cap (L.modify i fun x => { x with til := t }) wz := by
  have h1 := h.touch hr hi hm t
  have hks : Keeps F wh (wh.setCell ⟨r, i * 5 + 2, none⟩ (.int .i64 t)) := (Keeps.refl F wh).setC _ _ (fun _ => (h.own r rfl).1)
  have hk0 : K0 (wh.setCell ⟨r, i * 5 + 2, none⟩ (.int .i64 t)) wz := ⟨ho.1, ho.2.1, ho.2.2, by rw [hz]; exact Nat.le_refl _, fun k _ _ => by rw [hz]⟩
  refine ⟨?_, hks.trans hk0 (fun _ _ e => e.elim)⟩
  rw [List.length_modify]
  exact h1.keep hk0 (fun _ _ e => e)
/-- What is answered in the end: a member's parts. -/
theorem RSyncPost.ok {w w' : World} {F F' : Nat → Prop} {b r cap i : Nat} {g' : GroupC} {m : Int} {L : List OneV} (hg : RGrpAt w' F' b g' (.slice (some ⟨r, 0, none⟩) L.length cap) L) (hb : BndG g') (hw : WfG g') (hF : ∀ k, F' k → F k ∨ w.heap.size ≤ k) (hk : Keeps F w w') (hi : i < L.length) (hm : L[i].member = m) : RSyncPost w F b g' m 0 (.returned (.tuple #[L[i].pv, .int .i64 0])) w' := by
  refine ⟨_, F', rfl, ⟨_, L, hg⟩, hF, hk, L[i].parts, (hg.out L[i] (List.getElem_mem hi)).2.keep still_part (Keeps.refl (fun _ => False) _) (fun _ _ _ e => e) (fun _ _ _ => trivial), ?_, fun _ => ?_, fun h => absurd rfl h⟩
  rotate_left
  · have hi' : i < g'.ones.length := by rw [hg.len]; exact hi
    have hc : g'.ones[i] = L[i].core := by simp only [← hg.ones, List.getElem_map]
    rw [parts_at hw.pair hi' (by rw [hc]; exact hm), hc]
    rfl
  have hi' : i < g'.ones.length := by rw [hg.len]; exact hi
  have hc : g'.ones[i] = L[i].core := by simp only [← hg.ones, List.getElem_map]
  have := (hb _ (List.getElem_mem hi')).2
  rw [hc] at this
  exact this
set_option maxRecDepth 100000 in
set_option maxHeartbeats 8000000 in
theorem rsync_any (w : World) (F : Nat → Prop) (b : Nat) (g : GroupC) (m gn now : Int) (tv : Value) (tops : List TopC) (round : Bool) (h : RGrp w F b g) (hw : WfG g) (hbn : BndG g) (hbs : BndG (syncG g m gn tops round now)) (ht : Out 2 rTop w (fun k => ¬ F k) tv tops) :
    Calls Tryz.prog 52 #[.pointer (some ⟨b, 0, none⟩), .int .i64 m, .int .i64 gn, tv, .bool round, .int .i64 now] w fun e w' => RSyncPost w F b (syncG g m gn tops round now) m (syncE g m gn tops now) e w' := by
  obtain ⟨v, L, h⟩ := h
  have HTO := Lib.hid ht
  obtain ⟨ta, tc, rfl, hsl, _⟩ := ht
  have HT := Lib.hid (rtime_any now w)
  have hl : L.length ≤ 20 := by have := hw.len; have := h.len; omega
  have HH := Lib.hid h
  have HW := Lib.hid hw
  have HBN := Lib.hid hbn
  have HBS := Lib.hid hbs
  have HR := Lib.hid (h.rise hw)
  have HSL := Lib.hid hsl
  clear h hw hsl hbn hbs
  cases ht : timeOk now with
  | false =>
    have HE : Hid (syncE g m gn tops now = 1) := by show _ = _; unfold syncE; rw [if_neg (by rw [ht]; simp)]
    have HG : Hid (syncG g m gn tops round now = g) := by show _ = _; unfold syncG; rw [if_neg (by rw [ht]; simp)]
    rw [ht] at HT
    clear ht
    go_enter Tryz.func52, Tryz.ntmps52
    go_wp2_with fail
    refine HT.out.mono ?_
    rintro e w1 ⟨rfl, hk⟩
    go_wp2
    go_ret2
    rw [HE.out, HG.out]
    exact RSyncPost.err (by decide) ⟨F, ⟨v, L, HH.out.keep hk fun _ _ e => e⟩, fun k e => .inl e, hk.mono fun _ _ e => e.elim⟩
  | true =>
    have HN := Lib.hid (time_yes ht)
    have HTT := Lib.hid ht
    rw [ht] at HT
    clear ht
    have bad : ∀ x : Int, (x = 10 ∨ x = 11 ∨ x = 13) → knowsE g m gn = x → syncE g m gn tops now = x → syncG g m gn tops round now = g → Calls Tryz.prog 52 #[.pointer (some ⟨b, 0, none⟩), .int .i64 m, .int .i64 gn, .slice ta tops.length tc, .bool round, .int .i64 now] w fun e w' => RSyncPost w F b (syncG g m gn tops round now) m (syncE g m gn tops now) e w' := by
      intro x hx hkx hex hgx
      have HE := Lib.hid hex
      have HG := Lib.hid hgx
      have HKE := Lib.hid hkx
      clear hkx hex hgx
      rcases hx with rfl | rfl | rfl
      all_goals
        go_enter Tryz.func52, Tryz.ntmps52
        go_wp2_with fail
        refine HT.out.mono ?_
        rintro e w1 ⟨rfl, hk1⟩
        have HK1 := Lib.hid hk1
        go_wp2_with fail
        refine (rknows_is m gn (HH.out.keep hk1 fun _ _ e => e) (by omega) HKE.out).mono ?_
        rintro e w2 ⟨rfl, rfl⟩
        clear hk1
        go_wp2
        go_ret2
        rw [HE.out, HG.out]
        exact RSyncPost.err (by decide) ⟨F, ⟨v, L, HH.out.keep HK1.out fun _ _ e => e⟩, fun k e => .inl e, HK1.out.mono fun _ _ e => e.elim⟩
    rcases known_cases g m gn with ⟨h0, hm⟩ | h0 | h0
    case inr.inl => exact bad 10 (.inl rfl) (by unfold knowsE; rw [if_neg (by omega), h0]) (by unfold syncE; rw [if_pos HTT.out, if_neg (by omega), h0]) (by unfold syncG; rw [if_pos HTT.out, if_neg (by omega)])
    case inr.inr => exact bad 11 (.inr (.inl rfl)) (by unfold knowsE; rw [if_neg (by omega), h0]) (by unfold syncE; rw [if_pos HTT.out, if_neg (by omega), h0]) (by unfold syncG; rw [if_pos HTT.out, if_neg (by omega)])
    by_cases hp1 : g.phase = 1
    · exact bad 13 (.inr (.inr rfl)) (by unfold knowsE; rw [if_pos h0, if_pos hp1]) (by unfold syncE; rw [if_pos HTT.out, if_pos h0, if_pos hp1]) (by unfold syncG; rw [if_pos HTT.out, if_pos h0, if_pos hp1])
    clear bad
    have HE : Hid (syncE g m gn tops now = if g.phase = 2 then (if m = leaderOf g then chk (subsOf (syncTouch g m now)) tops else 13) else 0) := by show _ = _; unfold syncE; rw [if_pos HTT.out, if_pos h0, if_neg hp1]
    have HG : Hid (syncG g m gn tops round now = if g.phase = 2 then (if m = leaderOf g then (if chk (subsOf (syncTouch g m now)) tops = 0 then shareG (syncTouch g m now) (dealL round (subsOf (syncTouch g m now)) tops) else syncTouch g m now) else syncTouch g m now) else syncTouch g m now) := by show _ = _; unfold syncG; rw [if_pos HTT.out, if_pos h0, if_neg hp1]
    have HKE : Hid (knowsE g m gn = 0) := by show _ = _; unfold knowsE; rw [if_pos h0, if_neg hp1]
    have HM := Lib.hid hm
    have hhas := hm
    clear h0 hm
    rcases HH.out.form with ⟨rfl, rfl⟩ | ⟨r, cap, rfl, hrb, hrl, hcap, hFr⟩
    · exact absurd hhas (by rw [show hasM g m = ([] : List OneV).any fun o => o.core.member == m by unfold hasM; rw [← HH.out.ones]; rfl]; simp)
    clear hhas
    go_enter Tryz.func52, Tryz.ntmps52
    go_wp2_with fail
    refine HT.out.mono ?_
    rintro e w1 ⟨rfl, hk1⟩
    have HK1 := Lib.hid hk1
    have HG1 := Lib.hid (HH.out.keep hk1 fun _ _ e => e)
    clear hk1
    go_wp2_with fail
    refine (rknows_is m gn HG1.out (by omega) HKE.out).mono ?_
    rintro e w2 ⟨rfl, rfl⟩
    go_wp2_with fail
    refine (rfind_has m HG1.out (by omega) HM.out).mono ?_
    rintro e w3 ⟨i, hi, rfl, rfl, hmi⟩
    have HIL : Hid (m = leaderOf g ↔ i = 0) := by
      have hgi : i < g.ones.length := by rw [HG1.out.len]; exact hi
      have hgm : g.ones[i].member = m := by simp only [← HG1.out.ones, List.getElem_map]; exact hmi
      show _ ↔ _
      rw [← lead_at HW.out hgi, hgm]
    have hcs := HG1.out.cell rfl i hi
    have hkd : K0 w3 w3.drew := (Keeps.refl _ _).drew
    have c2 : w3.drew.cell? ⟨r, i * 5 + 2, none⟩ = some (.int .i64 L[i].til) := hcs.2.2.1
    have cf : w3.drew.frozen? ⟨r, i * 5 + 2, none⟩ = false := HG1.out.row.frozenAt (i * 5 + 2)
    have c6 : w3.drew.cell? ⟨b, 6, none⟩ = some (.slice (some ⟨r, 0, none⟩) L.length cap) := block_cell HG1.out.blk 6
    have c0 : w3.drew.cell? ⟨b, 0, none⟩ = some (.int .i64 g.session) := block_cell HG1.out.blk 0
    have hbd : b < w3.drew.heap.size := cell_block1 c6
    have hrd : r < w3.drew.heap.size := cell_block1 c2
    have hss := HW.out.ses
    have hn := HN.out
    have i0 : (0 : Int) ≤ i := by omega
    have i1 : (i : Int) < L.length := by omega
    generalize L[i].til = tl at c2
    generalize hse : g.session = se at c0 hss
    have HSE := Lib.hid hse
    clear hcs hse
    go_upto_region 7 with fail
    go_cut [] (TilRel w3 F b (syncTouch g m now) r cap (L.modify i fun x => { x with til := now + se }))
    case first =>
      go_region
      all_goals (go_wp2; go_meet; case rel => ((try rw [show IntKind.i64.wrap (now + se) = now + se from IntWalk.i64_in _ (by omega)]); rw [show syncTouch g m now = touchG g m (now + se) by unfold syncTouch; rw [HSE.out]]; exact TilRel.of HG1.out HR.out hi hmi rfl ⟨rfl, rfl, rfl⟩))
    case rest =>
      obtain ⟨wh, rfl⟩ : ∃ wh : World, wh = wc := ⟨_, rfl⟩
      obtain ⟨hg2, hk2⟩ := hcut
      have hL1 : (L.modify i fun x => { x with til := now + se }).length = L.length := by simp
      have HMT : Hid (∃ h : i < (L.modify i fun x => { x with til := now + se }).length, (L.modify i fun x => { x with til := now + se })[i].member = m) := ⟨by simpa using hi, (mem_modify_member (L := L) (i := i) (f := fun x => { x with til := now + se }) (fun _ => rfl) (by simpa using hi)).trans hmi⟩
      have HR1 := Lib.hid (HR.out.modify i (fun x => { x with til := now + se }) (fun _ => rfl))
      generalize (L.modify i fun x => { x with til := now + se }) = L1 at hg2 hL1 HMT HR1
      have HK2 : Hid (Keeps F w wh) := (HK1.out.mono (S1 := F) fun _ _ e => e.elim).trans hk2 (fun _ _ e => e)
      have HG2 := Lib.hid hg2
      have HWT : Hid (WfG (syncTouch g m now)) := HW.out.touch _ _
      have HPT : Hid ((syncTouch g m now).phase = g.phase) := rfl
      have HTS : Hid (SlAt 2 rTop wh ta tc tops) := by
        have h9 := HTO.out.keep still_top HK2.out (G' := fun k => ¬ F k) (fun k _ e => e) (fun _ _ e => e)
        obtain ⟨ta', tc', e9, hs9, _⟩ := h9
        cases e9
        exact hs9
      have hl1 : L1.length ≤ 20 := by omega
      have d2 : wh.cell? ⟨b, 2, none⟩ = some (.int .i64 g.phase) := block_cell hg2.blk 2
      have d6 : wh.cell? ⟨b, 6, none⟩ = some (.slice (some ⟨r, 0, none⟩) L1.length cap) := block_cell hg2.blk 6
      have hbh := block_lt hg2.blk
      have hrh : r < wh.heap.size := own_lt hg2.row rfl
      have HRH := Lib.hid hrh
      clear c2 cf c6 c0 hbd hrd hkd hg2 hk2 HG1 hmi hrl
      by_cases hp2 : g.phase = 2
      · by_cases hz : i = 0
        · subst hz
          have hml : m = leaderOf g := HIL.out.2 rfl
          have HET : Hid (syncE g m gn tops now = chk (subsOf (syncTouch g m now)) tops) := by show _ = _; rw [HE.out, if_pos hp2, if_pos hml]
          have HGE : Hid (syncG g m gn tops round now = if chk (subsOf (syncTouch g m now)) tops = 0 then shareG (syncTouch g m now) (dealL round (subsOf (syncTouch g m now)) tops) else syncTouch g m now) := by show _ = _; rw [HG.out, if_pos hp2, if_pos hml]
          clear hml hp1 HE HG HKE
          rw [hp2] at d2
          clear hp2
          generalize syncTouch g m now = T at *
          obtain ⟨hi1, hm1⟩ := HMT.out
          have HHI1 := Lib.hid hi1
          clear hm1 hi hi1
          cases round
          all_goals
            go_wp2
            go_loopw [16, 17] (fun sv i wr => ∃ (k : Nat) (sa : Option Addr) (sc : Nat), i = .int .i64 k ∧ k ≤ L1.length ∧ sv = .slice sa k sc ∧ wr.ownsRow wh.heap.size 119 2 (.slice sa k sc) k ((L1.take k).flatMap subEnc) ∧ K0 wh wr) (fun _ i _ => L1.length - (intOf i).toNat)
            case atStart => exact ⟨0, none, 0, rfl, by omega, rfl, World.ownsRow_nil _ _ _ _, Keeps.refl _ _⟩
          · case round =>
              obtain ⟨k, sa, sc, rfl, hk, rfl, hown, hkw⟩ := hrel
              have HKR := Lib.hid hkw
              have d6 := hkw.cell' d6 (fun e => e)
              have hbw := Nat.lt_of_lt_of_le hbh hkw.size
              have hrw := Nat.lt_of_lt_of_le hrh hkw.size
              have hsz := hkw.size
              by_cases hlt : k < L1.length
              · have hcs := HG2.out.cell rfl k hlt
                have x0 : wr.drew.cell? ⟨r, k * 5, none⟩ = some (.int .i64 L1[k].member) := hkw.cell' hcs.1 (fun e => e)
                have x1 : wr.drew.cell? ⟨r, k * 5 + 1, none⟩ = some L1[k].tv := hkw.cell' hcs.2.1 (fun e => e)
                obtain ⟨⟨ua, uc, hut, _⟩, _⟩ := HG2.out.out _ (List.getElem_mem hlt)
                have HFT := Lib.hid (flat_take hlt)
                have z6 : wr.drew.cell? ⟨b, 6, none⟩ = some (.slice (some ⟨r, 0, none⟩) L1.length cap) := d6
                have zb : b < wr.drew.heap.size := hbw
                have zr : r < wr.drew.heap.size := hrw
                rw [hut] at x1 HFT
                have HHL := Lib.hid (Nat.succ_le_of_lt hlt)
                have HLT2 : Hid (k + 1 ≤ L1.length) := HHL.out
                generalize L1[k].member = m0 at x0 HFT
                generalize L1[k].topics.length = ul at x1 HFT
                generalize hxs : (L1.take k).flatMap subEnc = xs at hown HFT
                have i2 : (0 : Int) ≤ k := by omega
                have i3 : (k : Int) < L1.length := by omega
                clear hxs hcs hut
                go_wp2_with fail
                go_region_law (refine step_app1 rfl rfl Tryz.underlying122 infoSub rfl (by decide) rfl ((hown.alloc _).drew) rfl (heap_new_drew _ _ _ (by simp)) rfl rfl ⟨by omega, by decide⟩ (by simp; omega) ?_; intro g1 cap1 w4 hA)
                all_goals
                  go_wp2
                  go_roundw
                  case rel => exact ⟨k + 1, _, _, by go_num, HLT2.out, rfl, by rw [HFT.out]; exact hA.own, ((HKR.out.alloc _).drew).grown hA.grown fun q e hq => absurd (hown.lt q e).1 (by omega)⟩
                  case measure => simp [intOf]; omega
              · obtain rfl : k = L1.length := by omega
                rw [List.take_length] at hown
                obtain ⟨sa', sc', esv, hsub⟩ := rsub_row HG2.out HWT.out hkw hown
                have hlen9 : L1.length = (subsOf T).length := by rw [subsOf_len, HG2.out.len]
                obtain ⟨rfl, rfl⟩ : sa = sa' ∧ sc = sc' := by
                  have h9 := esv
                  simp only [Value.slice.injEq] at h9
                  exact ⟨h9.1, h9.2.2⟩
                have HSUB := Lib.hid hsub
                have HTP := Lib.hid (HTS.out.keep0 (fun _ _ _ _ _ h => h) hkw)
                have HKR_wr : Hid (K0 wr wr) := Keeps.refl _ _
                have HLS := Lib.hid hlen9
                rw [hlen9]
                clear esv hsub hown hkw
                rcases chk_cases (subsOf T) tops with hc | hc
                · have HC := Lib.hid hc
                  clear hc
                  go_wp2_with fail
                  refine (range10 wr wr sa ta sc tc (subsOf T) tops HSUB.out HTP.out (K0.below HKR_wr.out)).mono ?_
                  intro e v1 hq
                  rcases hq with ⟨hc2, _⟩ | ⟨_, sv0, F1, vs, rfl, hs, hF1, hkq⟩
                  case inl => exact absurd (HC.out.symm.trans hc2) (by decide)
                  have HKR_v1 : Hid (K0 wr v1) := K0.tr HKR_wr.out hkq
                  obtain ⟨sa0, sc0, rfl⟩ := own_slice hs.row
                  clear hkq
                  have hll : (dealL false (subsOf T) tops).length = L1.length := (deal_len HC.out).1.trans HLS.out.symm
                  have HS0 : Hid (SharesAt v1 F1 (.slice sa0 L1.length sc0) (dealL false (subsOf T) tops) vs) := by show SharesAt _ _ _ _ _; rw [← hll]; exact hs
                  have HF9 : Hid (∀ k, F1 k → wh.heap.size ≤ k) := fun k e => Nat.le_trans (Nat.le_trans HKR.out.size HKR_wr.out.size) (hF1 k e)
                  have hll2 : (rangeL (subsOf T) tops).length = L1.length := hll
                  rw [hll2]
                  rw [if_pos HC.out] at HGE
                  have HLL := Lib.hid hll
                  have HDB := Lib.hid (fun j (hj : j < (dealL false (subsOf T) tops).length) => (deal_len HC.out).2 j hj)
                  clear hs hF1 hll hll2
                  generalize dealL false (subsOf T) tops = ls at HS0 HLL HGE HDB
                  have HKV : Hid (K0 wh v1) := K0.tr HKR.out HKR_v1.out
                  have y6 : v1.cell? ⟨b, 6, none⟩ = some (.slice (some ⟨r, 0, none⟩) L1.length cap) := HKR_v1.out.cell' d6 (fun e => e)
                  have hbv := Nat.lt_of_lt_of_le hbw HKR_v1.out.size
                  have HM0 : Hid (RShareMid v1 v1 (.slice (some ⟨r, 0, none⟩) L1.length cap) L1 vs ls 0) := ⟨by rw [partTo_zero]; exact (HG2.out.keep HKV.out fun _ _ e => e).row, Keeps.refl _ _⟩
                  have hsr : sa0 = none ∨ ∃ rs, sa0 = some ⟨rs, 0, none⟩ := by
                    rcases HS0.out.row.2 with ⟨h1, h2⟩ | ⟨r9, cap9, cur, h1, _⟩
                    · simp only [Value.slice.injEq] at h1
                      exact .inl h1.1
                    · simp only [Value.slice.injEq] at h1
                      exact .inr ⟨r9, h1.1⟩
                  have HSR := Lib.hid hsr
                  clear hsr hsz
                  go_wp2
                  go_loopw [20] (fun iv wr2 => ∃ k : Nat, iv = .int .i64 k ∧ k ≤ L1.length ∧ RShareMid v1 wr2 (.slice (some ⟨r, 0, none⟩) L1.length cap) L1 vs ls k) (fun iv _ => L1.length - (intOf iv).toNat)
                  case atStart => exact ⟨0, rfl, by omega, HM0.out⟩
                  case round =>
                    obtain ⟨wo, rfl⟩ : ∃ wo : World, wo = wr := ⟨_, rfl⟩
                    obtain ⟨k, rfl, hk, hmid⟩ := hrel
                    have HM := Lib.hid hmid
                    have d6 : wo.cell? ⟨b, 6, none⟩ = some (.slice (some ⟨r, 0, none⟩) L1.length cap) := hmid.keep.cell' y6 (fun e => (HG2.out.own b e).2 rfl)
                    have hbo := Nat.lt_of_lt_of_le hbv hmid.keep.size
                    by_cases hlt : k < L1.length
                    · have hlk : k < ls.length := by rw [HLL.out]; exact hlt
                      have hkv : k < vs.length := by rw [HS0.out.len]; exact hlk
                      rcases HSR.out with e9 | ⟨rs, rfl⟩
                      · exfalso
                        rcases HS0.out.row.2 with ⟨h1, h2⟩ | ⟨r9, cap9, cur, h1, _⟩
                        · have := HLL.out; omega
                        · simp only [Value.slice.injEq] at h1
                          rw [e9] at h1
                          cases h1.1
                      have hrs : wh.heap.size ≤ rs := HF9.out _ (HS0.out.foot rs rfl)
                      have hrw9 : r < wh.heap.size := HRH.out
                      have hne : ¬ (Value.slice (some ⟨r, 0, none⟩) L1.length cap).ownBlock = some rs := fun e => by
                        have : r = rs := by simpa [Value.ownBlock] using e
                        omega
                      obtain ⟨a4, k4, o4, _, _⟩ := own_slAt (R := rPart) (fun p : PartC => [.string p.topic, .int .i64 p.index]) (fun _ => rfl) (fun _ => rfl) (HS0.out.parts k hlk)
                      have hsl : k * 2 + 1 < ls.length * 2 := by omega
                      have hrow9 : v1.ownsRow 0 147 2 (.slice (some ⟨rs, 0, none⟩) ls.length sc0) ls.length (shCells ls vs) := by
                        have h9 := HS0.out.row
                        rw [← HLL.out] at h9
                        exact h9
                      have s1 : wo.drew.cell? ⟨rs, k * 2 + 1, none⟩ = some vs[k] := hmid.keep.cell' ((hrow9.cellAt (k * 2 + 1) hsl).trans (shCells_value ls vs k hkv HS0.out.len)) hne
                      rw [o4] at s1
                      have HVK : Hid (vs.getD k .nilIface = .slice a4 ls[k].parts.length k4) := by show _ = _; rw [← o4]; simp [List.getD, hkv]
                      have x4 : ∃ u, wo.cell? ⟨r, k * 5 + 4, none⟩ = some u := ⟨_, (hmid.row.cellAt (k * 5 + 4) (by omega)).trans (List.getElem?_eq_getElem (by rw [hmid.row.1]; omega))⟩
                      obtain ⟨u4, x4⟩ := x4
                      have x5 : wo.drew.cell? ⟨r, k * 5 + 4, none⟩ = some u4 := x4
                      have f4 : wo.drew.frozen? ⟨r, k * 5 + 4, none⟩ = false := hmid.row.frozenAt (k * 5 + 4)
                      have z6 : wo.drew.cell? ⟨b, 6, none⟩ = some (.slice (some ⟨r, 0, none⟩) L1.length cap) := d6
                      have zb : b < wo.drew.heap.size := hbo
                      have hro2 : r < wo.drew.heap.size := own_lt hmid.row rfl
                      have hrs2 : rs < wo.drew.heap.size := cell_block1 s1
                      have HNX := Lib.hid (fun (wx wz : World) (hz : K0 wo wz) => hmid.next (wx := wx) hlt hz)
                      have HLT := Lib.hid (Nat.succ_le_of_lt hlt)
                      have HLT2 : Hid (k + 1 ≤ L1.length) := HLT.out
                      have i2 : (0 : Int) ≤ k := by omega
                      have i3 : (k : Int) < L1.length := by omega
                      clear hmid o4 x4 hrow9
                      generalize ls[k].parts.length = n4 at s1 HVK
                      generalize vs.getD k .nilIface = vk at HVK HNX
                      have HVK2 := HVK.out
                      subst HVK2
                      go_wp2_with fail
                      go_region
                      all_goals
                        go_wp2
                        go_roundw
                        case rel => exact ⟨k + 1, by go_num, HLT2.out, HNX.out _ wo (Keeps.refl _ _) rfl ⟨rfl, rfl, rfl⟩⟩
                        case measure => simp [intOf]; omega
                    · obtain rfl : k = L1.length := by omega
                      obtain ⟨F2, hg3, hF2, hk3⟩ := HG2.out.share HKV.out HS0.out HF9.out HLL.out HM.out
                      have e2 := block_free hg3.blk 2
                      have e5 := block_free hg3.blk 5
                      have c2 : wo.cell? ⟨b, 2, none⟩ = some (.int .i64 T.phase) := block_cell hg3.blk 2
                      have c5 : wo.cell? ⟨b, 5, none⟩ = some (.int .i64 T.til) := block_cell hg3.blk 5
                      have hks : Keeps (fun k => k = b) wo ((wo.setCell ⟨b, 2, none⟩ (.int .i64 3)).setCell ⟨b, 5, none⟩ (.int .i64 0)) := ((Keeps.refl (fun k => k = b) wo).setC 2 _ (fun _ => rfl)).setC 5 _ (fun _ => rfl)
                      have hg4 := hg3.head (g' := shareG T ls) hks (setCell_block (setCell_block hg3.blk 2 _) 5 _) rfl
                      have HKK : Hid (Keeps F w ((wo.setCell ⟨b, 2, none⟩ (.int .i64 3)).setCell ⟨b, 5, none⟩ (.int .i64 0))) := (HK2.out.trans hk3 (fun _ _ e => e)).trans hks (fun k hk' e => by subst e; exact HG2.out.fb)
                      have q6 : ((wo.setCell ⟨b, 2, none⟩ (.int .i64 3)).setCell ⟨b, 5, none⟩ (.int .i64 0)).cell? ⟨b, 6, none⟩ = some (.slice (some ⟨r, 0, none⟩) L1.length cap) := block_cell hg4.blk 6
                      have hpl : (partTo L1 vs ls L1.length).length = L1.length := partTo_len _ _ _ _
                      have hi9 : 0 < (partTo L1 vs ls L1.length).length := by rw [hpl]; exact HHI1.out
                      have hpl2 : (Value.slice (some ⟨r, 0, none⟩) L1.length cap) = .slice (some ⟨r, 0, none⟩) (partTo L1 vs ls L1.length).length cap := by rw [hpl]
                      have q4 := (hg4.cell hpl2 0 hi9).2.2.2.2
                      obtain ⟨_, ⟨pa, pc, hpv, _⟩⟩ := hg4.out _ (List.getElem_mem hi9)
                      have HOK := Lib.hid (RSyncPost.ok (w := w) (m := m) (hpl2 ▸ hg4) (by rw [← HGE.out]; exact HBS.out) (HWT.out.share _) (fun k e => (hF2 k e).elim .inl (fun e => .inr (Nat.le_trans HK2.out.size e))) HKK.out hi9 (by obtain ⟨h9, e9⟩ := HMT.out; exact (partTo_member _ _ _ _ _).trans e9))
                      rw [hpv] at HOK q4
                      generalize (partTo L1 vs ls L1.length)[0].parts.length = pl at HOK q4
                      have i3 : (0 : Int) < L1.length := by have := HHI1.out; have h9 : 0 < L1.length := this; omega
                      have qb := cell_block1 q6
                      have qr := cell_block1 q4
                      clear hg4 hg3 hF2 hk3 hks hpv hmid
                      generalize T.phase = tp at c2
                      generalize T.til = tt at c5
                      go_wp2
                      go_ret2
                      rw [HGE.out, HET.out, HC.out]
                      exact HOK.out
                · have HC := Lib.hid hc
                  clear hc
                  go_wp2_with fail
                  refine (range10 wr wr sa ta sc tc (subsOf T) tops HSUB.out HTP.out (K0.below HKR_wr.out)).mono ?_
                  intro e v1 hq
                  rcases hq with ⟨_, rfl, hkq⟩ | ⟨hc2, _⟩
                  case inr => exact absurd (HC.out.symm.trans hc2) (by decide)
                  have HKR_v1 : Hid (K0 wr v1) := K0.tr HKR_wr.out hkq
                  clear hkq
                  go_wp2
                  go_ret2
                  rw [HGE.out, HET.out, HC.out, if_neg (by decide)]
                  exact RSyncPost.err (by decide) ⟨F, ⟨_, _, HG2.out.keep (K0.tr HKR.out HKR_v1.out) (fun _ _ e => e)⟩, fun k e => .inl e, HK2.out.trans (K0.tr HKR.out HKR_v1.out) (fun _ _ e => e.elim)⟩
          · case round =>
              obtain ⟨k, sa, sc, rfl, hk, rfl, hown, hkw⟩ := hrel
              have HKR := Lib.hid hkw
              have d6 := hkw.cell' d6 (fun e => e)
              have hbw := Nat.lt_of_lt_of_le hbh hkw.size
              have hrw := Nat.lt_of_lt_of_le hrh hkw.size
              have hsz := hkw.size
              by_cases hlt : k < L1.length
              · have hcs := HG2.out.cell rfl k hlt
                have x0 : wr.drew.cell? ⟨r, k * 5, none⟩ = some (.int .i64 L1[k].member) := hkw.cell' hcs.1 (fun e => e)
                have x1 : wr.drew.cell? ⟨r, k * 5 + 1, none⟩ = some L1[k].tv := hkw.cell' hcs.2.1 (fun e => e)
                obtain ⟨⟨ua, uc, hut, _⟩, _⟩ := HG2.out.out _ (List.getElem_mem hlt)
                have HFT := Lib.hid (flat_take hlt)
                have z6 : wr.drew.cell? ⟨b, 6, none⟩ = some (.slice (some ⟨r, 0, none⟩) L1.length cap) := d6
                have zb : b < wr.drew.heap.size := hbw
                have zr : r < wr.drew.heap.size := hrw
                rw [hut] at x1 HFT
                have HHL := Lib.hid (Nat.succ_le_of_lt hlt)
                have HLT2 : Hid (k + 1 ≤ L1.length) := HHL.out
                generalize L1[k].member = m0 at x0 HFT
                generalize L1[k].topics.length = ul at x1 HFT
                generalize hxs : (L1.take k).flatMap subEnc = xs at hown HFT
                have i2 : (0 : Int) ≤ k := by omega
                have i3 : (k : Int) < L1.length := by omega
                clear hxs hcs hut
                go_wp2_with fail
                go_region_law (refine step_app1 rfl rfl Tryz.underlying122 infoSub rfl (by decide) rfl ((hown.alloc _).drew) rfl (heap_new_drew _ _ _ (by simp)) rfl rfl ⟨by omega, by decide⟩ (by simp; omega) ?_; intro g1 cap1 w4 hA)
                all_goals
                  go_wp2
                  go_roundw
                  case rel => exact ⟨k + 1, _, _, by go_num, HLT2.out, rfl, by rw [HFT.out]; exact hA.own, ((HKR.out.alloc _).drew).grown hA.grown fun q e hq => absurd (hown.lt q e).1 (by omega)⟩
                  case measure => simp [intOf]; omega
              · obtain rfl : k = L1.length := by omega
                rw [List.take_length] at hown
                obtain ⟨sa', sc', esv, hsub⟩ := rsub_row HG2.out HWT.out hkw hown
                have hlen9 : L1.length = (subsOf T).length := by rw [subsOf_len, HG2.out.len]
                obtain ⟨rfl, rfl⟩ : sa = sa' ∧ sc = sc' := by
                  have h9 := esv
                  simp only [Value.slice.injEq] at h9
                  exact ⟨h9.1, h9.2.2⟩
                have HSUB := Lib.hid hsub
                have HTP := Lib.hid (HTS.out.keep0 (fun _ _ _ _ _ h => h) hkw)
                have HKR_wr : Hid (K0 wr wr) := Keeps.refl _ _
                have HLS := Lib.hid hlen9
                rw [hlen9]
                clear esv hsub hown hkw
                rcases chk_cases (subsOf T) tops with hc | hc
                · have HC := Lib.hid hc
                  clear hc
                  go_wp2_with fail
                  refine (range10 wr wr sa ta sc tc (subsOf T) tops HSUB.out HTP.out (K0.below HKR_wr.out)).mono ?_
                  intro e v1 hq
                  rcases hq with ⟨hc2, _⟩ | ⟨_, sv0, F1x, vsx, rfl, hsx, hF1x, hkq⟩
                  case inl => exact absurd (HC.out.symm.trans hc2) (by decide)
                  have HKR_v1 : Hid (K0 wr v1) := K0.tr HKR_wr.out hkq
                  obtain ⟨sa0, sc0, rfl⟩ := own_slice hsx.row
                  clear hkq hsx hF1x
                  go_wp2_with fail
                  refine (round12 wr v1 sa ta sc tc (subsOf T) tops HSUB.out HTP.out (K0.below HKR_v1.out)).mono ?_
                  intro e v2 hq
                  rcases hq with ⟨hc2, _⟩ | ⟨_, sv1, F1, vs, rfl, hs, hF1, hkq⟩
                  case inl => exact absurd (HC.out.symm.trans hc2) (by decide)
                  have HKR_v2 : Hid (K0 wr v2) := K0.tr HKR_v1.out hkq
                  obtain ⟨sa1, sc1, rfl⟩ := own_slice hs.row
                  clear hkq
                  have hll : (dealL true (subsOf T) tops).length = L1.length := (deal_len HC.out).1.trans HLS.out.symm
                  have HS0 : Hid (SharesAt v2 F1 (.slice sa1 L1.length sc1) (dealL true (subsOf T) tops) vs) := by show SharesAt _ _ _ _ _; rw [← hll]; exact hs
                  have HF9 : Hid (∀ k, F1 k → wh.heap.size ≤ k) := fun k e => Nat.le_trans (Nat.le_trans HKR.out.size HKR_v1.out.size) (hF1 k e)
                  have hll2 : (roundL (subsOf T) tops).length = L1.length := hll
                  rw [hll2]
                  rw [if_pos HC.out] at HGE
                  have HLL := Lib.hid hll
                  have HDB := Lib.hid (fun j (hj : j < (dealL true (subsOf T) tops).length) => (deal_len HC.out).2 j hj)
                  clear hs hF1 hll hll2
                  generalize dealL true (subsOf T) tops = ls at HS0 HLL HGE HDB
                  have HKV : Hid (K0 wh v2) := K0.tr HKR.out HKR_v2.out
                  have y6 : v2.cell? ⟨b, 6, none⟩ = some (.slice (some ⟨r, 0, none⟩) L1.length cap) := HKR_v2.out.cell' d6 (fun e => e)
                  have hbv := Nat.lt_of_lt_of_le hbw HKR_v2.out.size
                  have HM0 : Hid (RShareMid v2 v2 (.slice (some ⟨r, 0, none⟩) L1.length cap) L1 vs ls 0) := ⟨by rw [partTo_zero]; exact (HG2.out.keep HKV.out fun _ _ e => e).row, Keeps.refl _ _⟩
                  have hsr : sa1 = none ∨ ∃ rs, sa1 = some ⟨rs, 0, none⟩ := by
                    rcases HS0.out.row.2 with ⟨h1, h2⟩ | ⟨r9, cap9, cur, h1, _⟩
                    · simp only [Value.slice.injEq] at h1
                      exact .inl h1.1
                    · simp only [Value.slice.injEq] at h1
                      exact .inr ⟨r9, h1.1⟩
                  have HSR := Lib.hid hsr
                  clear hsr hsz
                  go_wp2
                  go_loopw [20] (fun iv wr2 => ∃ k : Nat, iv = .int .i64 k ∧ k ≤ L1.length ∧ RShareMid v2 wr2 (.slice (some ⟨r, 0, none⟩) L1.length cap) L1 vs ls k) (fun iv _ => L1.length - (intOf iv).toNat)
                  case atStart => exact ⟨0, rfl, by omega, HM0.out⟩
                  case round =>
                    obtain ⟨wo, rfl⟩ : ∃ wo : World, wo = wr := ⟨_, rfl⟩
                    obtain ⟨k, rfl, hk, hmid⟩ := hrel
                    have HM := Lib.hid hmid
                    have d6 : wo.cell? ⟨b, 6, none⟩ = some (.slice (some ⟨r, 0, none⟩) L1.length cap) := hmid.keep.cell' y6 (fun e => (HG2.out.own b e).2 rfl)
                    have hbo := Nat.lt_of_lt_of_le hbv hmid.keep.size
                    by_cases hlt : k < L1.length
                    · have hlk : k < ls.length := by rw [HLL.out]; exact hlt
                      have hkv : k < vs.length := by rw [HS0.out.len]; exact hlk
                      rcases HSR.out with e9 | ⟨rs, rfl⟩
                      · exfalso
                        rcases HS0.out.row.2 with ⟨h1, h2⟩ | ⟨r9, cap9, cur, h1, _⟩
                        · have := HLL.out; omega
                        · simp only [Value.slice.injEq] at h1
                          rw [e9] at h1
                          cases h1.1
                      have hrs : wh.heap.size ≤ rs := HF9.out _ (HS0.out.foot rs rfl)
                      have hrw9 : r < wh.heap.size := HRH.out
                      have hne : ¬ (Value.slice (some ⟨r, 0, none⟩) L1.length cap).ownBlock = some rs := fun e => by
                        have : r = rs := by simpa [Value.ownBlock] using e
                        omega
                      obtain ⟨a4, k4, o4, _, _⟩ := own_slAt (R := rPart) (fun p : PartC => [.string p.topic, .int .i64 p.index]) (fun _ => rfl) (fun _ => rfl) (HS0.out.parts k hlk)
                      have hsl : k * 2 + 1 < ls.length * 2 := by omega
                      have hrow9 : v2.ownsRow 0 147 2 (.slice (some ⟨rs, 0, none⟩) ls.length sc1) ls.length (shCells ls vs) := by
                        have h9 := HS0.out.row
                        rw [← HLL.out] at h9
                        exact h9
                      have s1 : wo.drew.cell? ⟨rs, k * 2 + 1, none⟩ = some vs[k] := hmid.keep.cell' ((hrow9.cellAt (k * 2 + 1) hsl).trans (shCells_value ls vs k hkv HS0.out.len)) hne
                      rw [o4] at s1
                      have HVK : Hid (vs.getD k .nilIface = .slice a4 ls[k].parts.length k4) := by show _ = _; rw [← o4]; simp [List.getD, hkv]
                      have x4 : ∃ u, wo.cell? ⟨r, k * 5 + 4, none⟩ = some u := ⟨_, (hmid.row.cellAt (k * 5 + 4) (by omega)).trans (List.getElem?_eq_getElem (by rw [hmid.row.1]; omega))⟩
                      obtain ⟨u4, x4⟩ := x4
                      have x5 : wo.drew.cell? ⟨r, k * 5 + 4, none⟩ = some u4 := x4
                      have f4 : wo.drew.frozen? ⟨r, k * 5 + 4, none⟩ = false := hmid.row.frozenAt (k * 5 + 4)
                      have z6 : wo.drew.cell? ⟨b, 6, none⟩ = some (.slice (some ⟨r, 0, none⟩) L1.length cap) := d6
                      have zb : b < wo.drew.heap.size := hbo
                      have hro2 : r < wo.drew.heap.size := own_lt hmid.row rfl
                      have hrs2 : rs < wo.drew.heap.size := cell_block1 s1
                      have HNX := Lib.hid (fun (wx wz : World) (hz : K0 wo wz) => hmid.next (wx := wx) hlt hz)
                      have HLT := Lib.hid (Nat.succ_le_of_lt hlt)
                      have HLT2 : Hid (k + 1 ≤ L1.length) := HLT.out
                      have i2 : (0 : Int) ≤ k := by omega
                      have i3 : (k : Int) < L1.length := by omega
                      clear hmid o4 x4 hrow9
                      generalize ls[k].parts.length = n4 at s1 HVK
                      generalize vs.getD k .nilIface = vk at HVK HNX
                      have HVK2 := HVK.out
                      subst HVK2
                      go_wp2_with fail
                      go_region
                      all_goals
                        go_wp2
                        go_roundw
                        case rel => exact ⟨k + 1, by go_num, HLT2.out, HNX.out _ wo (Keeps.refl _ _) rfl ⟨rfl, rfl, rfl⟩⟩
                        case measure => simp [intOf]; omega
                    · obtain rfl : k = L1.length := by omega
                      obtain ⟨F2, hg3, hF2, hk3⟩ := HG2.out.share HKV.out HS0.out HF9.out HLL.out HM.out
                      have e2 := block_free hg3.blk 2
                      have e5 := block_free hg3.blk 5
                      have c2 : wo.cell? ⟨b, 2, none⟩ = some (.int .i64 T.phase) := block_cell hg3.blk 2
                      have c5 : wo.cell? ⟨b, 5, none⟩ = some (.int .i64 T.til) := block_cell hg3.blk 5
                      have hks : Keeps (fun k => k = b) wo ((wo.setCell ⟨b, 2, none⟩ (.int .i64 3)).setCell ⟨b, 5, none⟩ (.int .i64 0)) := ((Keeps.refl (fun k => k = b) wo).setC 2 _ (fun _ => rfl)).setC 5 _ (fun _ => rfl)
                      have hg4 := hg3.head (g' := shareG T ls) hks (setCell_block (setCell_block hg3.blk 2 _) 5 _) rfl
                      have HKK : Hid (Keeps F w ((wo.setCell ⟨b, 2, none⟩ (.int .i64 3)).setCell ⟨b, 5, none⟩ (.int .i64 0))) := (HK2.out.trans hk3 (fun _ _ e => e)).trans hks (fun k hk' e => by subst e; exact HG2.out.fb)
                      have q6 : ((wo.setCell ⟨b, 2, none⟩ (.int .i64 3)).setCell ⟨b, 5, none⟩ (.int .i64 0)).cell? ⟨b, 6, none⟩ = some (.slice (some ⟨r, 0, none⟩) L1.length cap) := block_cell hg4.blk 6
                      have hpl : (partTo L1 vs ls L1.length).length = L1.length := partTo_len _ _ _ _
                      have hi9 : 0 < (partTo L1 vs ls L1.length).length := by rw [hpl]; exact HHI1.out
                      have hpl2 : (Value.slice (some ⟨r, 0, none⟩) L1.length cap) = .slice (some ⟨r, 0, none⟩) (partTo L1 vs ls L1.length).length cap := by rw [hpl]
                      have q4 := (hg4.cell hpl2 0 hi9).2.2.2.2
                      obtain ⟨_, ⟨pa, pc, hpv, _⟩⟩ := hg4.out _ (List.getElem_mem hi9)
                      have HOK := Lib.hid (RSyncPost.ok (w := w) (m := m) (hpl2 ▸ hg4) (by rw [← HGE.out]; exact HBS.out) (HWT.out.share _) (fun k e => (hF2 k e).elim .inl (fun e => .inr (Nat.le_trans HK2.out.size e))) HKK.out hi9 (by obtain ⟨h9, e9⟩ := HMT.out; exact (partTo_member _ _ _ _ _).trans e9))
                      rw [hpv] at HOK q4
                      generalize (partTo L1 vs ls L1.length)[0].parts.length = pl at HOK q4
                      have i3 : (0 : Int) < L1.length := by have := HHI1.out; have h9 : 0 < L1.length := this; omega
                      have qb := cell_block1 q6
                      have qr := cell_block1 q4
                      clear hg4 hg3 hF2 hk3 hks hpv hmid
                      generalize T.phase = tp at c2
                      generalize T.til = tt at c5
                      go_wp2
                      go_ret2
                      rw [HGE.out, HET.out, HC.out]
                      exact HOK.out
                · have HC := Lib.hid hc
                  clear hc
                  go_wp2_with fail
                  refine (range10 wr wr sa ta sc tc (subsOf T) tops HSUB.out HTP.out (K0.below HKR_wr.out)).mono ?_
                  intro e v1 hq
                  rcases hq with ⟨_, rfl, hkq⟩ | ⟨hc2, _⟩
                  case inr => exact absurd (HC.out.symm.trans hc2) (by decide)
                  have HKR_v1 : Hid (K0 wr v1) := K0.tr HKR_wr.out hkq
                  clear hkq
                  go_wp2_with fail
                  refine (round12 wr v1 sa ta sc tc (subsOf T) tops HSUB.out HTP.out (K0.below HKR_v1.out)).mono ?_
                  intro e v2 hq
                  rcases hq with ⟨_, rfl, hkq⟩ | ⟨hc2, _⟩
                  case inr => exact absurd (HC.out.symm.trans hc2) (by decide)
                  have HKR_v2 : Hid (K0 wr v2) := K0.tr HKR_v1.out hkq
                  clear hkq
                  go_wp2
                  go_ret2
                  rw [HGE.out, HET.out, HC.out, if_neg (by decide)]
                  exact RSyncPost.err (by decide) ⟨F, ⟨_, _, HG2.out.keep (K0.tr HKR.out HKR_v2.out) (fun _ _ e => e)⟩, fun k e => .inl e, HK2.out.trans (K0.tr HKR.out HKR_v2.out) (fun _ _ e => e.elim)⟩
        · have HET : Hid (syncE g m gn tops now = 13) := by show _ = _; rw [HE.out, if_pos hp2, if_neg (fun e => hz (HIL.out.1 e))]
          have HGT : Hid (syncG g m gn tops round now = syncTouch g m now) := by show _ = _; rw [HG.out, if_pos hp2, if_neg (fun e => hz (HIL.out.1 e))]
          have i3 : (0 : Int) < i := by omega
          rw [hp2] at d2
          clear hz hp2 hp1
          go_wp2
          go_ret2
          rw [HGT.out, HET.out]
          exact RSyncPost.err (by decide) ⟨F, ⟨_, _, HG2.out⟩, fun k e => .inl e, HK2.out⟩
      · have HGT : Hid (syncG g m gn tops round now = syncTouch g m now) := by show _ = _; rw [HG.out, if_neg hp2]
        have HET : Hid (syncE g m gn tops now = 0) := by show _ = _; rw [HE.out, if_neg hp2]
        obtain ⟨hi1, hm1⟩ := HMT.out
        have d4 := (HG2.out.cell rfl i hi1).2.2.2.2
        obtain ⟨_, ⟨pa, pc, hpv, _⟩⟩ := HG2.out.out _ (List.getElem_mem hi1)
        have HOK := Lib.hid (RSyncPost.ok (w := w) (m := m) HG2.out (by rw [← HGT.out]; exact HBS.out) HWT.out (fun k e => .inl e) HK2.out hi1 hm1)
        have i2 : (i : Int) < L1.length := by omega
        rw [hpv] at HOK d4
        generalize L1[i].parts.length = pl at HOK d4
        clear hpv hm1
        generalize g.phase = ph at d2 hp1 hp2
        have p2 : (ph == 2) = false := by simpa using hp2
        clear hp1 hp2
        go_wp2
        go_ret2
        rw [HGT.out, HET.out]
        exact HOK.out
end Go.Proofs.YtklhlffdpojkoaaGreat
