/-
  The members' parts are dealt out: the walk.
-/
import Derived.Test.YtklhlffdpojkoaaGreatJ11
import Derived.Test.YtklhlffdpojkoaaGreatJ03
namespace Go.Proofs.YtklhlffdpojkoaaGreat
open Go.RowKit Go.Shelf Fx

theorem deal_at (rd round : Bool) (h : rd = round) (w0 w : World) (sa ta : Option Addr) (sc tc : Nat) (subs : List SubC) (tops : List TopC) (hs : SlAt 2 rSub w0 sa sc subs) (ht : SlAt 2 rTop w0 ta tc tops) (hb : Below w0.heap.size w0 w) :
    Calls Tryz.prog (cond round 108 107) #[.slice sa subs.length sc, .slice ta tops.length tc] w (DealPost w (chk subs tops) (dealL rd subs tops)) := by
  subst h
  exact deal_any rd w0 w sa ta sc tc subs tops hs ht hb
theorem infoSub : (Tryz.prog.info? 119).map (fun i => (i.zero, i.size, i.bytes)) = some (some (.agg #[.int .i64 0, .slice none 0 0]), 2, 32) := by kernel_rfl
theorem flat_take {L : List OneV} {k : Nat} (hk : k < L.length) : (L.take (k + 1)).flatMap subEnc = (L.take k).flatMap subEnc ++ [.int .i64 L[k].member, L[k].tv] := by
  rw [List.take_succ_eq_append_getElem hk, List.flatMap_append]
  simp [subEnc]
def SharePost (w : World) (F : Nat → Prop) (b : Nat) (g : GroupC) (tops : List TopC) (round : Bool) (v : Value) (e : Ending) (w' : World) : Prop :=
  e = .returned (.int .i64 (chk (subsOf g) tops)) ∧ ∃ F' L', GrpAt w' F' b (if chk (subsOf g) tops = 0 then shareG g (dealL round (subsOf g) tops) else g) v L' ∧ (∀ k, F' k → F k ∨ w.heap.size ≤ k) ∧ Keeps F w w'
set_option maxRecDepth 100000 in
set_option maxHeartbeats 4000000 in
theorem share_any (w : World) (F : Nat → Prop) (b : Nat) (g : GroupC) (v : Value) (L : List OneV) (ta : Option Addr) (tc : Nat) (tops : List TopC) (round : Bool) (h : GrpAt w F b g v L) (hw : WfG g) (ht : SlAt 2 rTop w ta tc tops) :
    Calls Tryz.prog 72 #[.pointer (some ⟨b, 0, none⟩), .slice ta tops.length tc, .bool round] w fun e w' => SharePost w F b g tops round v e w' := by
  obtain ⟨a0, cap0, rfl⟩ : ∃ a cap, v = .slice a L.length cap := by
    rcases h.form with ⟨h1, h2⟩ | ⟨r, cap, h1, _⟩
    · rw [h1]; exact ⟨_, _, h2⟩
    · exact ⟨_, _, h1⟩
  have hlen : L.length ≤ 20 := by rw [← h.glen]; exact hw.len
  have c6 : w.cell? ⟨b, 6, none⟩ = some (.slice a0 L.length cap0) := block_cell h.blk 6
  have hb := block_lt h.blk
  have HH := Lib.hid h
  have HW := Lib.hid hw
  have HT := Lib.hid ht
  have HCC := Lib.hid (chk_cases (subsOf g) tops)
  have HSL := Lib.hid (subsOf_len g)
  have HGL := Lib.hid h.glen
  obtain ⟨rd, hrd⟩ : ∃ rd : Bool, rd = round := ⟨_, rfl⟩
  have hres : SharePost w F b g tops rd (.slice a0 L.length cap0) = SharePost w F b g tops round (.slice a0 L.length cap0) := by rw [hrd]
  simp only [← hres]
  have HRD := Lib.hid hrd
  clear h hw ht hres hrd
  cases round
  all_goals
    go_enter Tryz.func72, Tryz.ntmps72
    go_wp2
    go_loopw [7, 21] (fun sv i wr => ∃ k : Nat, i = .int .i64 k ∧ k ≤ L.length ∧ wr.ownsRow w.heap.size 119 2 sv k ((L.take k).flatMap subEnc) ∧ K0 w wr) (fun _ i _ => L.length - (intOf i).toNat)
    case atStart => exact ⟨0, rfl, by omega, World.ownsRow_nil _ _ _ _, Keeps.refl _ _⟩
    case round =>
      obtain ⟨k, rfl, hk, hown, hkw⟩ := hrel
      have HOWN := Lib.hid hown
      have HKW := Lib.hid hkw
      by_cases hlt : k < L.length
      · have hg := HH.out.keep hkw fun _ _ e => e
        rcases HH.out.form with ⟨h0, _⟩ | ⟨r, cap, e, hrb, hrl, _, _⟩
        · subst h0; exact absurd hlt (Nat.not_lt_zero _)
        · simp only [Value.slice.injEq, true_and] at e
          obtain ⟨rfl, rfl⟩ := e
          obtain ⟨x0, x1, x2, x3, x4⟩ := hg.cell rfl k hlt
          obtain ⟨⟨a1, n1, k1, o1⟩, a4, n4, k4, o4⟩ := HH.out.slices L[k] (List.getElem_mem hlt)
          have HFT := Lib.hid (flat_take hlt)
          have hrl := Nat.lt_of_lt_of_le hrl hkw.size
          have hsz := hkw.size
          rw [o1] at x1 HFT
          rw [o4] at x4
          clear hg hkw o1 o4
          generalize L[k].member = m0 at x0 HFT
          generalize L[k].til = m2 at x2
          generalize L[k].joined = m3 at x3
          generalize hxs : (L.take k).flatMap subEnc = xs at hown HFT
          clear hxs
          have i0 : (0 : Int) ≤ k := by omega
          have i1 : (k : Int) < L.length := by omega
          have hkn : k ≤ 1000000 := by omega
          go_wp2_with (at_builtin; refine wpList_app1 rfl rfl Tryz.underlying122 infoSub rfl (by decide) rfl ((hown.alloc _).alloc _) rfl (heap_new _ _ _ (by simp)) rfl rfl ⟨by omega, by decide⟩ (by simp; omega) ?_; intro g1 cap1 w4 hA; have HA := Lib.hid hA)
          go_roundw
          case rel =>
            refine ⟨k + 1, by go_num, by omega, by rw [HFT.out]; exact HA.out.own, ((HKW.out.alloc _).alloc _).grown HA.out.grown fun q e hq => ?_⟩
            have := (hown.lt q e).1
            omega
          case measure => simp [intOf]; omega
      · obtain rfl : k = L.length := by omega
        rw [List.take_length] at hown
        obtain ⟨sa, sc, rfl, hsub⟩ := sub_row HH.out HW.out hkw hown
        have h5 := deal_at rd _ HRD.out wr wr sa ta sc tc (subsOf g) tops hsub (HT.out.keep0 (fun _ _ _ _ _ h => h) hkw) (Below.refl _ _)
        dsimp only [cond] at h5
        have HDL := Lib.hid h5
        have HDN := Lib.hid (fun hc => deal_len (round := rd) (subs := subsOf g) (tops := tops) hc)
        have c6 := hkw.cell' c6 (fun e => e)
        have hb := Nat.lt_of_lt_of_le hb hkw.size
        clear h5 hsub hown hkw
        generalize hdd : dealL rd (subsOf g) tops = l at HDL HDN
        have HDD := Lib.hid hdd
        clear hdd
        go_wp2_with fail
        refine HDL.out.mono ?_
        intro e w1 hq
        rcases hq with ⟨hc, rfl, hk1⟩ | ⟨hc, sv, F1, vs, rfl, hs, hF1, hk1⟩
        · have HC := Lib.hid hc
          have HK := Lib.hid (K0.tr HKW.out hk1)
          clear hc hk1
          go_wp2
          go_ret
          unfold SharePost
          rw [HC.out, if_neg (by decide)]
          exact ⟨rfl, F, L, HH.out.keep HK.out fun _ _ e => e, fun k e => .inl e, HK.out.mono fun _ _ e => e.elim⟩
        · have HC := Lib.hid hc
          have hll : l.length = L.length := (HDN.out hc).1.trans (HSL.out.trans HGL.out)
          have HK := Lib.hid (K0.tr HKW.out hk1)
          have HS := Lib.hid hs
          have HF1 : Hid (∀ k, F1 k → w.heap.size ≤ k) := fun k e => Nat.le_trans HKW.out.size (hF1 k e)
          obtain ⟨sa2, sc2, rfl⟩ : ∃ a c, sv = .slice a l.length c := by
            rcases hs.row.2 with ⟨h1, h2⟩ | ⟨r, cap, cur, h1, _⟩
            · rw [h2]; exact ⟨_, _, h1⟩
            · exact ⟨_, _, h1⟩
          have c6 := hk1.cell' c6 (fun e => e)
          have hb := Nat.lt_of_lt_of_le hb hk1.size
          have hmid0 : ShareMid w1 w1 (.slice a0 L.length cap0) L vs l 0 := ⟨by rw [partTo_zero]; exact (HH.out.keep HK.out fun _ _ e => e).row, Keeps.refl _ _⟩
          clear hc hs hF1 hk1 HDN HDL
          go_wp2
          go_loopw [47] (fun i wr2 => ∃ k : Nat, i = .int .i64 k ∧ k ≤ l.length ∧ ShareMid w1 wr2 (.slice a0 L.length cap0) L vs l k) (fun i _ => l.length - (intOf i).toNat)
          case atStart => exact ⟨0, rfl, by omega, hmid0⟩
          case round =>
            clear hmid0
            obtain ⟨wo, rfl⟩ : ∃ wo : World, wo = wr := ⟨_, rfl⟩
            obtain ⟨k, rfl, hk, hmid⟩ := hrel
            have HM := Lib.hid hmid
            by_cases hlt : k < l.length
            · have hltL : k < L.length := by omega
              have hkv : k < vs.length := by rw [HS.out.len]; exact hlt
              rcases HH.out.form with ⟨h0, _⟩ | ⟨r, cap, e, hrb, hrl, _, _⟩
              · subst h0; exact absurd hltL (Nat.not_lt_zero _)
              · simp only [Value.slice.injEq, true_and] at e
                obtain ⟨rfl, rfl⟩ := e
                obtain ⟨rs, rfl⟩ : ∃ rs, sa2 = some ⟨rs, 0, none⟩ := by
                  rcases HS.out.row.2 with ⟨h1, h2⟩ | ⟨r, cap, cur, h1, _⟩
                  · omega
                  · simp only [Value.slice.injEq] at h1
                    exact ⟨r, h1.1⟩
                have hrs : w.heap.size ≤ rs := HF1.out _ (HS.out.foot rs rfl)
                have hne : ¬ (Value.slice (some ⟨r, 0, none⟩) L.length cap0).ownBlock = some rs := fun e => by
                  have : r = rs := by simpa [Value.ownBlock] using e
                  omega
                obtain ⟨a4, k4, o4, _, _⟩ := own_slAt (R := rPart) (fun p : PartC => [.string p.topic, .int .i64 p.index]) (fun _ => rfl) (fun _ => rfl) (HS.out.parts k hlt)
                have s0 : wo.cell? ⟨rs, k * 2, none⟩ = some (.int .i64 l[k].member) := hmid.keep.cell' ((HS.out.row.cellAt (k * 2) (by omega)).trans (shCells_member l vs k hlt HS.out.len)) hne
                have s1 : wo.cell? ⟨rs, k * 2 + 1, none⟩ = some vs[k] := hmid.keep.cell' ((HS.out.row.cellAt (k * 2 + 1) (by omega)).trans (shCells_value l vs k hkv HS.out.len)) hne
                rw [o4] at s1
                have HVK : Hid (vs.getD k .nilIface = .slice a4 l[k].parts.length k4) := by show _ = _; rw [← o4]; simp [List.getD, hkv]
                have c6 : wo.cell? ⟨b, 6, none⟩ = some (.slice (some ⟨r, 0, none⟩) L.length cap0) := hmid.keep.cell' c6 (fun e => (HH.out.own b e).2 rfl)
                have hb := Nat.lt_of_lt_of_le hb hmid.keep.size
                have x4 : ∃ u, wo.cell? ⟨r, k * 5 + 4, none⟩ = some u := ⟨_, (hmid.row.cellAt (k * 5 + 4) (by omega)).trans (List.getElem?_eq_getElem (by rw [hmid.row.1]; omega))⟩
                obtain ⟨u4, x4⟩ := x4
                have f4 := hmid.row.frozenAt (k * 5 + 4)
                have hrl2 : r < wo.heap.size := own_lt hmid.row rfl
                have hrs2 := cell_block1 s0
                have hbr : b ≠ r := fun e => hrb e.symm
                have HNX := Lib.hid (fun (wx wz : World) (hz : K0 wo wz) => hmid.next (wx := wx) hltL hz)
                clear hmid o4
                generalize l[k].member = m0 at s0
                generalize l[k].parts.length = n4 at s1 HVK
                generalize vs.getD k .nilIface = vk at HVK HNX
                have HVK2 := HVK.out
                subst HVK2
                have i0 : (0 : Int) ≤ k := by omega
                have i1 : (k : Int) < l.length := by omega
                have i2 : (k : Int) < L.length := by omega
                have hbo : b ≠ wo.heap.size := by omega
                have hro : r ≠ wo.heap.size := by omega
                go_wp2_with fail
                go_region
                all_goals
                  go_wp2
                  go_roundw
                  case rel => exact ⟨k + 1, by go_num, by omega, (HNX.out (wo.setCell _ _) wo (Keeps.refl _ _) rfl ⟨rfl, rfl, rfl⟩).keep0 (((Keeps.refl _ _).alloc _).drew)⟩
                  case measure => simp [intOf]; omega
            · obtain rfl : k = l.length := by omega
              have hm2 := HM.out
              rw [hll] at hm2
              obtain ⟨F2, hg2, hF2, hk2⟩ := HH.out.share HK.out HS.out HF1.out hll hm2
              have HE := Lib.hid (enter_any wo F2 b _ _ _ 3 0 hg2)
              have HF2 := Lib.hid hF2
              have HK2 := Lib.hid hk2
              have HFB := Lib.hid hg2.fb
              clear hm2 hg2 hF2 hk2 hmid
              go_wp2_with fail
              refine HE.out.mono ?_
              rintro e w3 ⟨rfl, hg3, hk3⟩
              have HG3 := Lib.hid hg3
              have HK3 := Lib.hid hk3
              clear hg3 hk3
              go_wp2
              go_ret
              unfold SharePost
              rw [HC.out, if_pos rfl, HDD.out]
              exact ⟨rfl, F2, _, HG3.out, HF2.out, HK2.out.trans HK3.out fun k hk' e => (HF2.out k (e ▸ HFB.out)).elim id fun e2 => by omega⟩
end Go.Proofs.YtklhlffdpojkoaaGreat

/-
  A member syncs: the walk.
-/
namespace Go.Proofs.YtklhlffdpojkoaaGreat
open Go.RowKit Go.Shelf Fx

theorem still_top : Still rTop := fun _ _ _ _ h => h
def partsOf (g : GroupC) (m : Int) : List PartC := ((g.ones.find? fun o => o.member == m).map OneC.parts).getD []
theorem parts_at {g : GroupC} {m : Int} (hr : g.ones.Pairwise MemLt) {i : Nat} (hi : i < g.ones.length) (e : g.ones[i].member = m) : partsOf g m = g.ones[i].parts := by
  unfold partsOf
  have h1 : g.ones.find? (fun o => o.member == m) = some g.ones[i] := by
    rw [List.find?_eq_some_iff_getElem]
    refine ⟨by simpa using e, i, hi, rfl, fun j hj => ?_⟩
    have := List.pairwise_iff_getElem.1 hr j i (by omega) hi hj
    unfold MemLt at this
    simp
    omega
  rw [h1]
  rfl
def syncTouch (g : GroupC) (m now : Int) : GroupC := touchG g m (now + g.session)
def syncE (g : GroupC) (m gn : Int) (tops : List TopC) (now : Int) : Int :=
  if timeOk now then
    if knownE g m gn = 0 then
      if g.phase = 1 then 13
      else if g.phase = 2 then (if m = leaderOf g then chk (subsOf (syncTouch g m now)) tops else 13)
      else 0
    else knownE g m gn
  else 1
def syncG (g : GroupC) (m gn : Int) (tops : List TopC) (round : Bool) (now : Int) : GroupC :=
  if timeOk now then
    if knownE g m gn = 0 then
      if g.phase = 1 then g
      else if g.phase = 2 then (if m = leaderOf g then (if chk (subsOf (syncTouch g m now)) tops = 0 then shareG (syncTouch g m now) (dealL round (subsOf (syncTouch g m now)) tops) else syncTouch g m now) else syncTouch g m now)
      else syncTouch g m now
    else g
  else g
theorem WfG.touch {g : GroupC} (h : WfG g) (m t : Int) : WfG (touchG g m t) :=
  h.same (by simp [touchG]) (fun i hi => by simp only [touchG, List.getElem_map, touchO]; split <;> rfl) rfl rfl rfl h.gen
theorem WfG.share {g : GroupC} (h : WfG g) (l : List ShareC) : WfG (shareG g l) :=
  h.same (by simp [shareG, enterG]) (fun i hi => by simp [shareG, enterG, partO]) rfl rfl rfl h.gen
/-- What Sync leaves, told. -/
def SyncPost (w : World) (F : Nat → Prop) (b : Nat) (_g g' : GroupC) (m er : Int) (e : Ending) (w' : World) : Prop :=
  ∃ pv F', e = .returned (.tuple #[pv, .int .i64 er]) ∧ Grp w' F' b g' ∧ (∀ k, F' k → F k ∨ w.heap.size ≤ k) ∧ Keeps F w w' ∧ (er = 0 → Out 2 rPart w' (fun k => ¬ F' k ∧ w.heap.size ≤ k) pv (partsOf g' m)) ∧ (¬ er = 0 → pv = .slice none 0 0)
theorem SyncPost.err {w w' : World} {F : Nat → Prop} {b : Nat} {g g' : GroupC} {m er : Int} (he : ¬ er = 0) (h : GrpPost w F b g' w') : SyncPost w F b g g' m er (.returned (.tuple #[.slice none 0 0, .int .i64 er])) w' := by
  obtain ⟨F', h1, h2, h3⟩ := h
  exact ⟨_, F', rfl, h1, h2, h3, fun e => absurd e he, fun _ => rfl⟩
/-- A copy of the member's parts is answered. -/
theorem SyncPost.ok {w w1 w' : World} {F F' : Nat → Prop} {b r cap i : Nat} {g g' : GroupC} {m : Int} {L : List OneV} {pv : Value} (hg : GrpAt w1 F' b g' (.slice (some ⟨r, 0, none⟩) L.length cap) L) (hw : WfG g') (hF : ∀ k, F' k → F k ∨ w.heap.size ≤ k) (hk : Keeps F w w1)
    (hi : i < L.length) (hm : L[i].member = m) (ho : Out 2 rPart w' (fun k => w1.heap.size ≤ k) pv L[i].parts) (hk2 : K0 w1 w') : SyncPost w F b g g' m 0 (.returned (.tuple #[pv, .int .i64 0])) w' := by
  refine ⟨pv, F', rfl, ⟨_, L, hg.keep hk2 fun _ _ e => e⟩, hF, hk.trans hk2 fun _ _ e => e.elim, fun _ => ?_, fun h => absurd rfl h⟩
  have hi' : i < g'.ones.length := by rw [hg.glen]; exact hi
  have hc : g'.ones[i] = L[i].core := by simp only [← hg.ones, List.getElem_map]
  rw [parts_at hw.pair hi' (by rw [hc]; exact hm), hc]
  exact ho.keep still_part (Keeps.refl (fun _ => False) _) (fun _ _ _ e => e) (fun k _ e => ⟨fun e2 => by have := hg.lt k e2; have e : w1.heap.size ≤ k := e; omega, Nat.le_trans hk.size e⟩)
set_option maxRecDepth 100000 in
set_option maxHeartbeats 4000000 in
theorem sync_any (w : World) (F : Nat → Prop) (b : Nat) (g : GroupC) (m gn now : Int) (tv : Value) (tops : List TopC) (round : Bool) (h : Grp w F b g) (hw : WfG g) (hbn : BndG g) (hm : -9223372036854775808 ≤ m ∧ m ≤ 9223372036854775807) (ht : Out 2 rTop w (fun k => ¬ F k) tv tops) :
    Calls Tryz.prog 42 #[.pointer (some ⟨b, 0, none⟩), .int .i64 m, .int .i64 gn, tv, .bool round, .int .i64 now] w fun e w' => SyncPost w F b g (syncG g m gn tops round now) m (syncE g m gn tops now) e w' := by
  obtain ⟨v, L, h⟩ := h
  have HOUT := Lib.hid ht
  obtain ⟨ta, tc, rfl, _, _⟩ := ht
  have HT := Lib.hid (isTime_any now w)
  have HK := Lib.hid (fun (wx : World) (hk : K0 w wx) => known_any wx F b g v L m gn (h.keep hk fun _ _ e => e) hw hm)
  have HR := Lib.hid (h.rise hw)
  have HS := Lib.hid hw.ses
  have HH := Lib.hid h
  have HW := Lib.hid hw
  have HBN := Lib.hid hbn
  have HSELF : Hid (∀ wx, K0 w wx → GrpPost w F b g wx) := fun wx hk => ⟨F, ⟨v, L, h.keep hk fun _ _ e => e⟩, fun k e => .inl e, hk.mono fun _ _ e => e.elim⟩
  clear h hw hm hbn
  cases htm : timeOk now with
  | false =>
    have HE : Hid (syncE g m gn tops now = 1) := if_neg (by rw [htm]; simp)
    have HG : Hid (syncG g m gn tops round now = g) := if_neg (by rw [htm]; simp)
    rw [htm] at HT
    clear htm
    go_enter Tryz.func42, Tryz.ntmps42
    go_wp2_with fail
    refine HT.out.mono ?_
    rintro e w1 ⟨rfl, hk⟩
    go_wp2
    go_ret2
    rw [HE.out, HG.out]
    exact SyncPost.err (by decide) (HSELF.out _ hk)
  | true =>
    have hn := time_yes htm
    have HE : Hid (syncE g m gn tops now = if knownE g m gn = 0 then if g.phase = 1 then 13 else if g.phase = 2 then (if m = leaderOf g then chk (subsOf (syncTouch g m now)) tops else 13) else 0 else knownE g m gn) := if_pos htm
    have HG : Hid (syncG g m gn tops round now = if knownE g m gn = 0 then if g.phase = 1 then g else if g.phase = 2 then (if m = leaderOf g then (if chk (subsOf (syncTouch g m now)) tops = 0 then shareG (syncTouch g m now) (dealL round (subsOf (syncTouch g m now)) tops) else syncTouch g m now) else syncTouch g m now) else syncTouch g m now else g) := if_pos htm
    rw [htm] at HT
    clear htm
    go_enter Tryz.func42, Tryz.ntmps42
    go_wp2_with fail
    refine HT.out.mono ?_
    rintro e w1 ⟨rfl, hk1⟩
    have HK1 := Lib.hid hk1
    go_wp2_with fail
    refine (HK.out _ hk1).mono ?_
    rintro e w2 ⟨hk2, p, rfl, hp⟩
    have HK2 := Lib.hid (K0.tr hk1 hk2)
    have HP := Lib.hid hp
    clear hk1 hk2 hp HT HK
    by_cases h0 : knownE g m gn = 0
    · have HE := Lib.hid (HE.out.trans (if_pos h0))
      have HG := Lib.hid (HG.out.trans (if_pos h0))
      obtain ⟨i, hi, r, cap, e1, rfl, rfl⟩ := HP.out h0
      have hg2 := HH.out.keep HK2.out fun _ _ e => e
      have cp : w2.cell? ⟨b, 2, none⟩ = some (.int .i64 g.phase) := block_cell hg2.blk 2
      have hb2 := block_lt hg2.blk
      rw [h0]
      clear h0 HP
      by_cases h1 : g.phase = 1
      · have HE := Lib.hid (HE.out.trans (if_pos h1))
        have HG := Lib.hid (HG.out.trans (if_pos h1))
        rw [h1] at cp
        clear h1 hg2 e1
        go_wp2
        go_ret2
        rw [HE.out, HG.out]
        exact SyncPost.err (by decide) (HSELF.out _ HK2.out)
      · have HE := Lib.hid (HE.out.trans (if_neg h1))
        have HG := Lib.hid (HG.out.trans (if_neg h1))
        have h1' : (g.phase == 1) = false := by simpa using h1
        have hg3 := hg2.touch HR.out hi e1 (now + g.session)
        have cs : w2.cell? ⟨b, 0, none⟩ = some (.int .i64 g.session) := block_cell hg2.blk 0
        have c6 : w2.cell? ⟨b, 6, none⟩ = some (.slice (some ⟨r, 0, none⟩) L.length cap) := block_cell hg2.blk 6
        obtain ⟨zz0, zz1, ct, zz3, zz4⟩ := hg2.cell rfl i hi
        clear zz0 zz1 zz3 zz4
        have cf := hg2.row.frozenAt (i * 5 + 2)
        have hr2 : r < w2.heap.size := own_lt hg2.row rfl
        have hrb : r ≠ b := (hg2.own r rfl).2
        have hbr : b ≠ r := fun e => hrb e.symm
        have hs := HS.out
        have hpos : 0 < L.length := by omega
        have cm : w2.cell? ⟨r, 0, none⟩ = some (.int .i64 L[0].member) := by
          have cm0 := (hg2.cell rfl 0 hpos).1
          simpa using cm0
        have HLD := Lib.hid (leader_of hg2.ones hpos)
        have HKF : Hid (Keeps F w (w2.setCell ⟨r, i * 5 + 2, none⟩ (.int .i64 (now + g.session)))) := (HK2.out.mono fun _ _ e => e.elim).setC _ _ (fun _ => (hg2.own r rfl).1)
        have HW3 : Hid (WfG (syncTouch g m now)) := HW.out.touch _ _
        have HG3 : Hid (GrpAt (w2.setCell ⟨r, i * 5 + 2, none⟩ (.int .i64 (now + g.session))) F b (syncTouch g m now) (.slice (some ⟨r, 0, none⟩) L.length cap) (L.modify i fun x => { x with til := now + g.session })) := hg3
        have HPL : Hid (L[i].parts.length ≤ 100000) := (HBN.out L[i].core (by rw [← HH.out.ones]; exact List.mem_map_of_mem (List.getElem_mem hi))).2
        have HM3 : Hid (∃ hi3 : i < (L.modify i fun x => { x with til := now + g.session }).length, (L.modify i fun x => { x with til := now + g.session })[i].member = m ∧ (L.modify i fun x => { x with til := now + g.session })[i].parts = L[i].parts) := ⟨by simpa using hi, by rw [List.getElem_modify, if_pos rfl]; exact ⟨e1, rfl⟩⟩
        have HL3 : Hid ((L.modify i fun x => { x with til := now + g.session }).length = L.length) := List.length_modify _ _ _
        clear hg2 hg3 e1
        generalize L[i].til = tl at ct
        generalize L[0].member = ld at cm HLD
        generalize hss : g.session = se at cs hs HKF HG3 HM3 HL3
        generalize (L.modify i fun x => { x with til := now + se }) = L3 at HG3 HM3 HL3
        generalize syncTouch g m now = g3 at *
        have HSE := Lib.hid hss
        clear hss
        have i1 : (0 : Int) < L.length := by omega
        by_cases h2 : g.phase = 2
        · have HE := Lib.hid (HE.out.trans (if_pos h2))
          have HG := Lib.hid (HG.out.trans (if_pos h2))
          rw [h2] at cp
          clear h1 h1' h2
          by_cases hl : m = ld
          · have HE := Lib.hid (HE.out.trans (if_pos (hl.trans HLD.out.symm)))
            have HG := Lib.hid (HG.out.trans (if_pos (hl.trans HLD.out.symm)))
            have htop := HOUT.out.keep still_top HKF.out (G' := fun k => ¬ F k) (fun _ _ e => e) (fun _ _ e => e)
            obtain ⟨ta2, tc2, et, hts, _⟩ := htop
            simp only [Value.slice.injEq] at et
            obtain ⟨rfl, _, rfl⟩ := et
            have HSH := Lib.hid (share_any _ F b g3 _ L3 ta tc tops round HG3.out HW3.out hts)
            clear hts
            subst hl
            have hl' : (m != m) = false := by simp
            go_wp2_with fail
            refine HSH.out.mono ?_
            rintro e w3 ⟨rfl, F4, L4, hg4, hF40, hk4⟩
            have hF4 : ∀ k, F4 k → F k ∨ w.heap.size ≤ k := fun k e => (hF40 k e).imp_right fun e2 => Nat.le_trans HKF.out.size e2
            clear hF40
            rcases chk_cases (subsOf g3) tops with hc | hc
            · rw [hc] at HE HG
              rw [hc] at hg4 ⊢
              rw [if_pos rfl] at hg4
              have HG9 := Lib.hid (HG.out.trans (if_pos rfl))
              have HE9 := Lib.hid HE.out
              clear HE HG
              have hl4 : L4.length = L.length := by
                have := hg4.glen
                have h9 := HG3.out.glen
                rw [← HL3.out, ← h9, ← this]
                simp [shareG, enterG]
              have hi4 : i < L4.length := by omega
              have hgv : GrpAt w3 F4 b (shareG g3 (dealL round (subsOf g3) tops)) (.slice (some ⟨r, 0, none⟩) L4.length cap) L4 := by rw [hl4]; exact hg4
              obtain ⟨_, _, _, _, x4⟩ := hgv.cell rfl i hi4
              have hm4 : L4[i].member = m := by
                obtain ⟨hi3, e3, _⟩ := HM3.out
                have a1 : (shareG g3 (dealL round (subsOf g3) tops)).ones[i]'(by rw [hgv.glen]; exact hi4) = L4[i].core := by simp only [← hgv.ones, List.getElem_map]
                have a2 : g3.ones[i]'(by rw [HG3.out.glen]; exact hi3) = L3[i].core := by simp only [← HG3.out.ones, List.getElem_map]
                have a3 : L4[i].core.member = L3[i].core.member := by rw [← a1, ← a2]; simp [shareG, enterG, partO]
                exact a3.trans e3
              have hpl : L4[i].parts.length ≤ 6400 := by
                have a1 : (shareG g3 (dealL round (subsOf g3) tops)).ones[i]'(by rw [hgv.glen]; exact hi4) = L4[i].core := by simp only [← hgv.ones, List.getElem_map]
                have a2 : L4[i].parts = ((dealL round (subsOf g3) tops).getD i ⟨0, []⟩).parts := by
                  have : L4[i].parts = L4[i].core.parts := rfl
                  rw [this, ← a1]
                  simp [shareG, enterG, partO]
                rw [a2]
                by_cases hid : i < (dealL round (subsOf g3) tops).length
                · rw [List.getD, List.getElem?_eq_getElem hid]
                  exact (deal_len hc).2 i hid
                · rw [List.getD, List.getElem?_eq_none (by omega)]
                  exact Nat.zero_le _
              obtain ⟨_, pa, pn, pc, o4⟩ := hgv.slices L4[i] (List.getElem_mem hi4)
              have HCL := Lib.hid (fun (wz : World) (hk : K0 w3 wz) => clone_part wz _ _ L4[i].parts ((hgv.out L4[i] (List.getElem_mem hi4)).2.keep still_part hk (G' := fun _ => True) (fun _ _ _ e => e) (fun _ _ _ => trivial)) (by omega))
              have HFIN := Lib.hid (fun (w5 : World) (pv : Value) (ho : Out 2 rPart w5 (fun k => w3.heap.size ≤ k) pv L4[i].parts) (hk5 : K0 w3 w5) => SyncPost.ok (w := w) (g := g) hgv (HW3.out.share _) hF4 (HKF.out.trans hk4 fun _ _ e => e) hi4 hm4 ho hk5)
              rw [o4] at x4 HCL
              have hbl := cell_block1 x4
              clear hg4 hgv hm4 hpl hF4 hk4 hc o4
              go_wp2_with fail
              refine (HCL.out _ (Keeps.refl _ _)).mono ?_
              rintro e w5 ⟨pv, rfl, ho, hk5⟩
              go_wp2
              go_ret2
              rw [HE9.out, HG9.out]
              exact HFIN.out _ _ ho hk5
            · rw [hc] at HE HG
              rw [hc] at hg4 ⊢
              rw [if_neg (by decide)] at hg4
              have HG9 := Lib.hid (HG.out.trans (if_neg (by decide)))
              have HE9 := Lib.hid HE.out
              clear HE HG
              have HQ : Hid (GrpPost w F b g3 w3) := ⟨F4, ⟨_, L4, hg4⟩, hF4, HKF.out.trans hk4 fun _ _ e => e⟩
              clear hg4 hF4 hk4 hc
              go_wp2
              go_ret2
              rw [HE9.out, HG9.out]
              exact SyncPost.err (by decide) HQ.out
          · have HE := Lib.hid (HE.out.trans (if_neg (fun e => hl (e.trans HLD.out))))
            have HG := Lib.hid (HG.out.trans (if_neg (fun e => hl (e.trans HLD.out))))
            have hl' : (m != ld) = true := by simpa using hl
            have HQ : Hid (GrpPost w F b g3 (w2.setCell ⟨r, i * 5 + 2, none⟩ (.int .i64 (now + se)))) := ⟨F, ⟨_, L3, HG3.out⟩, fun k e => .inl e, HKF.out⟩
            go_wp2
            go_ret2
            rw [HE.out, HG.out]
            exact SyncPost.err (by decide) HQ.out
        · have HE := Lib.hid (HE.out.trans (if_neg h2))
          have HG := Lib.hid (HG.out.trans (if_neg h2))
          have h2' : (g.phase == 2) = false := by simpa using h2
          clear h1 h2
          generalize g.phase = ph at cp h1' h2'
          obtain ⟨hi3, hm3, hp3⟩ := HM3.out
          have hgv : GrpAt (w2.setCell ⟨r, i * 5 + 2, none⟩ (.int .i64 (now + se))) F b g3 (.slice (some ⟨r, 0, none⟩) L3.length cap) L3 := by rw [HL3.out]; exact HG3.out
          obtain ⟨_, pa, pn, pc, o4⟩ := hgv.slices L3[i] (List.getElem_mem hi3)
          have x4 : w2.cell? ⟨r, i * 5 + 4, none⟩ = some L[i].pv := ((HH.out.keep HK2.out fun _ _ e => e).cell rfl i hi).2.2.2.2
          have hpv : L3[i].pv = L[i].pv := by
            have y4 := (hgv.cell rfl i hi3).2.2.2.2
            have y5 : (w2.setCell ⟨r, i * 5 + 2, none⟩ (.int .i64 (now + se))).cell? ⟨r, i * 5 + 4, none⟩ = some L[i].pv := (World.cell?_setCell_other _ _ _ _ (by simp)).trans x4
            exact Option.some.inj (y4.symm.trans y5)
          have HCL := Lib.hid (fun (wz : World) (hk : K0 (w2.setCell ⟨r, i * 5 + 2, none⟩ (.int .i64 (now + se))) wz) => clone_part wz _ _ L3[i].parts ((hgv.out L3[i] (List.getElem_mem hi3)).2.keep still_part hk (G' := fun _ => True) (fun _ _ _ e => e) (fun _ _ _ => trivial)) (by rw [hp3]; exact HPL.out))
          have HFIN := Lib.hid (fun (w5 : World) (pv : Value) (ho : Out 2 rPart w5 (fun k => (w2.setCell ⟨r, i * 5 + 2, none⟩ (.int .i64 (now + se))).heap.size ≤ k) pv L3[i].parts) (hk5 : K0 (w2.setCell ⟨r, i * 5 + 2, none⟩ (.int .i64 (now + se))) w5) => SyncPost.ok (g := g) hgv HW3.out (fun k e => .inl e) HKF.out hi3 hm3 ho hk5)
          rw [hpv] at o4 HCL
          rw [o4] at x4 HCL
          clear hgv hm3 hp3 hpv o4
          go_wp2_with fail
          refine (HCL.out _ (Keeps.refl _ _)).mono ?_
          rintro e w5 ⟨pv, rfl, ho, hk5⟩
          go_wp2
          go_ret2
          rw [HE.out, HG.out]
          exact HFIN.out _ _ ho hk5
    · have HE9 := Lib.hid (HE.out.trans (if_neg h0))
      have HG9 := Lib.hid (HG.out.trans (if_neg h0))
      have h0' : (knownE g m gn != 0) = true := by simpa using h0
      have HN0 := Lib.hid h0
      clear h0 HP HE HG
      generalize knownE g m gn = ke at *
      go_wp2
      go_ret2
      rw [HE9.out, HG9.out]
      exact SyncPost.err HN0.out (HSELF.out _ HK2.out)
end Go.Proofs.YtklhlffdpojkoaaGreat

/-
  The reference's Check.
-/
namespace Go.Proofs.YtklhlffdpojkoaaGreat
open Go.RowKit Fx

set_option maxRecDepth 100000 in
set_option maxHeartbeats 1000000 in
theorem rises31q (w0 w : World) (sa : Option Addr) (sc : Nat) (l : List ByteArray) (hs : SlAt 1 rStr w0 sa sc l) (hb : Below w0.heap.size w0 w) :
    Calls Tryz.prog 128 #[.slice sa l.length sc] w fun e w' => e = .returned (.bool (chain sltB l)) ∧ ∃ n, w' = w.drewN n := by
  have hm := hs.len
  have HS := Lib.hid hs
  have HB := Lib.hid hb
  clear hs hb
  go_enter Tryz.func128, Tryz.ntmps128
  go_wp2
  go_loopw [3] (fun i wr => ∃ k : Nat, i = .int .i64 (k + 1 : Int) ∧ k ≤ l.length ∧ (∀ j (h : j + 1 < l.length), j < k → sltB l[j] l[j + 1] = true) ∧ ∃ n, wr = w.drewN n) (fun i _ => l.length - (intOf i).toNat)
  case atStart => exact ⟨0, rfl, by omega, fun j _ h => by omega, 0, rfl⟩
  case round =>
    obtain ⟨k, rfl, hk, hq, hn⟩ := hrel
    have HQ := Lib.hid hq
    have hbr : Below w0.heap.size w0 wr := by
      obtain ⟨n, rfl⟩ := hn
      exact ⟨HB.out.os, HB.out.tape, HB.out.output, HB.out.size, HB.out.block⟩
    have HK := Lib.hid hn
    clear hq hn
    by_cases hlt : k + 1 < l.length
    · obtain ⟨b, off, rfl, hr'⟩ := HS.out.row hlt
      obtain ⟨c0, hbl⟩ := str_cells hr' hbr k (by omega)
      obtain ⟨d0, _⟩ := str_cells hr' hbr (k + 1) hlt
      generalize hx : l[k] = x at c0
      generalize hy : l[k + 1] = y at d0
      have HX := Lib.hid hx
      have HY := Lib.hid hy
      clear hx hy
      clear hr' hbr
      have hI : IntKind.i64.wrap (k : Int) = k := IntWalk.i64_in _ (by omega)
      have i0 : (0 : Int) ≤ k := by omega
      have i1 : (k : Int) < l.length := by omega
      have i2 : (0 : Int) ≤ (k : Int) + 1 := by omega
      have i3 : (k : Int) + 1 < l.length := by omega
      have i4 : ((k : Int) + 1).toNat = k + 1 := by omega
      by_cases hd : sltB x y = true
      · have HD := Lib.hid hd
        have hd' : Op.bytesLess x.toList y.toList = true := hd
        go_wp2_with fail
        go_quiet (fail)
        go_wp2
        go_roundw
        case rel =>
          obtain ⟨n, rfl⟩ := HK.out
          exact ⟨k + 1, by go_num, by omega, fun j h hj => (Nat.lt_succ_iff_lt_or_eq.1 hj).elim (HQ.out j h) fun e => by subst e; rw [HX.out, HY.out]; exact HD.out, _, World.drewN_drewN _ _ _⟩
        case measure => simp [intOf]; omega
      · have HD : Hid (chain sltB l = false) := chain_false _ _ k hlt (by rw [HX.out, HY.out]; simpa using hd)
        have hd' : Op.bytesLess x.toList y.toList = false := by simpa [sltB] using hd
        go_wp2_with fail
        go_quiet (fail)
        go_wp2
        go_ret
        rw [HD.out]
        obtain ⟨n, rfl⟩ := HK.out
        exact ⟨rfl, _, World.drewN_drewN _ _ _⟩
    · have HD : Hid (chain sltB l = true) := (chain_iff _ _).2 (fun j h => HQ.out j h (lt_of_not' hlt h))
      clear hbr
      go_wp2
      go_ret
      rw [HD.out]
      exact ⟨rfl, HK.out⟩

theorem chk_chain {subs : List SubC} {tops : List TopC} {k : Nat} (hk : k < subs.length) (h0 : 0 < k) (h : ¬ (subs[k - 1]'(by omega)).member < subs[k].member) : chk subs tops = 1 := by
  have : chain (fun a b : Int => decide (a < b)) (subs.map SubC.member) = false := chain_false _ _ (k - 1) (by simp; omega) (by
    simp only [List.getElem_map, show k - 1 + 1 = k by omega]
    simpa using h)
  simp [chk, checkB, this]
theorem chk_chain2 {subs : List SubC} {tops : List TopC} {k : Nat} (hk : k < tops.length) (h0 : 0 < k) (h : ¬ sltB (tops[k - 1]'(by omega)).name tops[k].name = true) : chk subs tops = 1 := by
  have : chain sltB (tops.map TopC.name) = false := chain_false _ _ (k - 1) (by simp; omega) (by
    simp only [List.getElem_map, show k - 1 + 1 = k by omega]
    simpa using h)
  simp [chk, checkB, this]

set_option maxRecDepth 100000 in
set_option maxHeartbeats 4000000 in
theorem check15 (w0 w : World) (sa ta : Option Addr) (sc tc : Nat) (subs : List SubC) (tops : List TopC) (hs : SlAt 2 rSub w0 sa sc subs) (ht : SlAt 2 rTop w0 ta tc tops) (hb : Below w0.heap.size w0 w) :
    Calls Tryz.prog 116 #[.slice sa subs.length sc, .slice ta tops.length tc] w fun e w' => Same w e (.int .i64 (chk subs tops)) w' := by
  by_cases hlen : subs.length ≤ 20 ∧ tops.length ≤ 20
  · obtain ⟨l1, l2⟩ := hlen
    have HS := Lib.hid hs
    have HT := Lib.hid ht
    have HB := Lib.hid hb
    clear hs ht hb
    go_enter Tryz.func116, Tryz.ntmps116
    go_wp2
    go_loopw [5] (fun i wr => ∃ k : Nat, k ≤ subs.length ∧ i = .int .i64 k ∧ (∀ j (h : j < subs.length), j < k → subOk subs[j] = true ∧ (0 < j → (subs[j - 1]'(by omega)).member < subs[j].member)) ∧ K0 w wr) (fun i _ => subs.length - (intOf i).toNat)
    case atStart => exact ⟨0, by omega, rfl, fun j _ h => by omega, Keeps.refl _ _⟩
    case round =>
      obtain ⟨k, hk, rfl, hq, hkw⟩ := hrel
      have HQ := Lib.hid hq
      have hbr := hkw.after HB.out
      have HK := Lib.hid hkw
      clear hq hkw
      by_cases hlt : k < subs.length
      · obtain ⟨b, off, rfl, hr'⟩ := HS.out.row hlt
        obtain ⟨a1, cap1, c0, c1, hbl, hsl⟩ := sub_cells hr' hbr k hlt
        have RR := Lib.hid (fun (wx : World) (hx : Below w0.heap.size w0 wx) => rises31q w0 wx a1 cap1 subs[k].topics hsl hx)
        have hbx : Hid (∀ o n, Below w0.heap.size w0 ((wr.alloc o).drewN n)) := fun o n => by
          have := hbr.alloc hbr.size o
          exact ⟨this.os, this.tape, this.output, this.size, this.block⟩
        by_cases hok : subOk subs[k] = true
        · have HO := Lib.hid hok
          obtain ⟨o1, o2, o3, o4⟩ := subOk_parts _ hok
          rw [o4] at RR
          clear o4 hok
          by_cases h0 : 0 < k
          · obtain ⟨a2, cap2, d0, d1, _, _⟩ := sub_cells hr' hbr (k - 1) (by omega)
            clear hr' hbr hsl
            have i0 : (0 : Int) < k := by omega
            have i1 : (0 : Int) ≤ (k : Int) - 1 := by omega
            have i2 : (k : Int) - 1 < subs.length := by omega
            have i3 : ((k : Int) - 1).toNat = k - 1 := by omega
            have i4 : IntKind.i64.wrap ((k : Int) - 1) = (k : Int) - 1 := IntWalk.i64_in _ (by omega)
            by_cases hlt2 : subs[k - 1].member < subs[k].member
            · have HL := Lib.hid hlt2
              generalize subs[k - 1].member = pm at d0 hlt2
              generalize subs[k].member = m at c0 o1 o2 hlt2
              generalize subs[k].topics.length = n at c1 o3 RR
              have t1 : decide (m < 0) = false := by simp; omega
              have t2 : decide (1073741824 < m) = false := by simp; omega
              have t3 : decide (20 < (n : Int)) = false := by simp; omega
              have t4 : decide ((0 : Int) < k) = true := by simp; omega
              have t5 : decide (m ≤ pm) = false := by simp; omega
              go_wp2_with fail
              go_quiet ((go_at_call 128; exact Calls.quiet_of (RR.out _ (hbx.out _ _))))
              go_wp2
              go_roundw
              case rel => exact ⟨k + 1, by omega, by go_num, fun j h hj => (Nat.lt_succ_iff_lt_or_eq.1 hj).elim (HQ.out j h) fun e => by subst e; exact ⟨HO.out, fun _ => HL.out⟩, (HK.out.alloc _).drewN _⟩
              case measure => simp [intOf]; omega
            · have HF1 := Lib.hid (chk_chain (tops := tops) hlt h0 hlt2)
              have hlt3 : subs[k].member ≤ subs[k - 1].member := by omega
              clear hlt2
              generalize subs[k - 1].member = pm at d0 hlt3
              generalize subs[k].member = m at c0 o1 o2 hlt3
              generalize subs[k].topics.length = n at c1 o3 RR
              have t1 : decide (m < 0) = false := by simp; omega
              have t2 : decide (1073741824 < m) = false := by simp; omega
              have t3 : decide (20 < (n : Int)) = false := by simp; omega
              have t4 : decide ((0 : Int) < k) = true := by simp; omega
              have t5 : decide (m ≤ pm) = true := by simp; omega
              go_wp2_with fail
              go_quiet ((go_at_call 128; exact Calls.quiet_of (RR.out _ (hbx.out _ _))))
              go_wp2
              go_ret
              rw [HF1.out]
              exact ⟨rfl, (HK.out.alloc _).drewN _⟩
          · have t4 : decide ((0 : Int) < k) = false := by simp; omega
            clear hr' hbr hsl
            generalize subs[k].member = m at c0 o1 o2
            generalize subs[k].topics.length = n at c1 o3 RR
            have t1 : decide (m < 0) = false := by simp; omega
            have t2 : decide (1073741824 < m) = false := by simp; omega
            have t3 : decide (20 < (n : Int)) = false := by simp; omega
            go_wp2_with fail
            go_quiet ((go_at_call 128; exact Calls.quiet_of (RR.out _ (hbx.out _ _))))
            go_wp2
            go_roundw
            case rel => exact ⟨k + 1, by omega, by go_num, fun j h hj => (Nat.lt_succ_iff_lt_or_eq.1 hj).elim (HQ.out j h) fun e => by subst e; exact ⟨HO.out, fun h => absurd h h0⟩, (HK.out.alloc _).drewN _⟩
            case measure => simp [intOf]; omega
        · have HF1 := Lib.hid (chk_sub (tops := tops) hlt hok)
          clear hr' hbr hsl
          rcases subOk_cases _ hok with h | ⟨h, h'⟩ | ⟨h, h', h''⟩ | ⟨h, h', h'', h3⟩
          rotate_right
          · rw [h3] at RR
            clear hok h3
            generalize subs[k].member = m at c0 h h'
            generalize subs[k].topics.length = n at c1 h'' RR
            have t1 : decide (m < 0) = false := by simp; omega
            have t2 : decide (1073741824 < m) = false := by simp; omega
            have t3 : decide (20 < (n : Int)) = false := by simp; omega
            go_wp2_with fail
            go_quiet ((go_at_call 128; exact Calls.quiet_of (RR.out _ (hbx.out _ _))))
            go_wp2
            go_ret
            rw [HF1.out]
            exact ⟨rfl, (HK.out.alloc _).drewN _⟩
          all_goals
            clear hok RR hbx
            generalize subs[k].member = m at *
            generalize subs[k].topics.length = n at *
            try have t1 : decide (m < 0) = false := by simp; omega
            try have t1 : decide (m < 0) = true := by simp; omega
            try have t2 : decide (1073741824 < m) = false := by simp; omega
            try have t2 : decide (1073741824 < m) = true := by simp; omega
            try have t3 : decide (20 < (n : Int)) = true := by simp; omega
            go_wp2_with fail
            go_quiet (fail)
            go_wp2
            go_ret
            rw [HF1.out]
            exact ⟨rfl, (HK.out.alloc _).drewN _⟩
      · have HA : Hid (∀ j (h : j < subs.length), subOk subs[j] = true ∧ (0 < j → (subs[j - 1]'(by omega)).member < subs[j].member)) := fun j h => HQ.out j h (by omega)
        obtain ⟨wo, rfl⟩ : ∃ wo : World, wo = wr := ⟨_, rfl⟩
        have hbr2 := hbr
        clear hbr
        go_wp2_with fail
        go_loopw [7] (fun i wq => ∃ k : Nat, k ≤ tops.length ∧ i = .int .i64 k ∧ (∀ j (h : j < tops.length), j < k → topOk tops[j] = true ∧ (0 < j → sltB (tops[j - 1]'(by omega)).name tops[j].name = true)) ∧ K0 wo wq) (fun i _ => tops.length - (intOf i).toNat)
        case atStart => exact ⟨0, by omega, rfl, fun j _ h => by omega, Keeps.refl _ _⟩
        case round =>
          obtain ⟨k, hk, rfl, hq, hkw⟩ := hrel
          have HQ2 := Lib.hid hq
          have hbr := hkw.after hbr2
          have HK2 := Lib.hid (K0.tr HK.out hkw)
          have HKo := Lib.hid hkw
          clear hq hkw hbr2
          by_cases hlt2 : k < tops.length
          · obtain ⟨b, off, rfl, hr'⟩ := HT.out.row hlt2
            obtain ⟨c0, c1, hbl⟩ := top_cells hr' hbr k hlt2
            have j0 : (0 : Int) ≤ k := by omega
            have j1 : (k : Int) < tops.length := by omega
            by_cases hok : topOk tops[k] = true
            · have HO := Lib.hid hok
              obtain ⟨o1, o2⟩ := topOk_parts _ hok
              clear hok
              by_cases h0 : 0 < k
              · obtain ⟨d0, d1, _⟩ := top_cells hr' hbr (k - 1) (by omega)
                clear hr' hbr
                have i0 : (0 : Int) < k := by omega
                have i1 : (0 : Int) ≤ (k : Int) - 1 := by omega
                have i2 : (k : Int) - 1 < tops.length := by omega
                have i3 : ((k : Int) - 1).toNat = k - 1 := by omega
                have i4 : IntKind.i64.wrap ((k : Int) - 1) = (k : Int) - 1 := IntWalk.i64_in _ (by omega)
                by_cases hd : sltB tops[k - 1].name tops[k].name = true
                · have HD := Lib.hid hd
                  have hd' : Op.bytesLess tops[k - 1].name.toList tops[k].name.toList = true := hd
                  generalize tops[k - 1].name = ps at d0 hd'
                  generalize tops[k].name = s at c0 hd'
                  generalize tops[k].parts = p at c1 o1 o2
                  clear hd
                  have t1 : decide (p < 1) = false := by simp; omega
                  have t2 : decide (16 < p) = false := by simp; omega
                  have t4 : decide ((0 : Int) < k) = true := by simp; omega
                  go_wp2_with fail
                  go_quiet (fail)
                  go_wp2
                  go_roundw
                  case rel => exact ⟨k + 1, by omega, by go_num, fun j h hj => (Nat.lt_succ_iff_lt_or_eq.1 hj).elim (HQ2.out j h) fun e => by subst e; exact ⟨HO.out, fun _ => HD.out⟩, HKo.out.drewN _⟩
                  case measure => simp [intOf]; omega
                · have HF1 := Lib.hid (chk_chain2 (subs := subs) hlt2 h0 hd)
                  have hd' : Op.bytesLess tops[k - 1].name.toList tops[k].name.toList = false := by simpa [sltB] using hd
                  generalize tops[k - 1].name = ps at d0 hd'
                  generalize tops[k].name = s at c0 hd'
                  generalize tops[k].parts = p at c1 o1 o2
                  clear hd
                  have t1 : decide (p < 1) = false := by simp; omega
                  have t2 : decide (16 < p) = false := by simp; omega
                  have t4 : decide ((0 : Int) < k) = true := by simp; omega
                  go_wp2_with fail
                  go_quiet (fail)
                  go_wp2
                  go_ret
                  rw [HF1.out]
                  exact ⟨rfl, HK2.out.drewN _⟩
              · clear hr' hbr
                generalize tops[k].name = s at c0
                generalize tops[k].parts = p at c1 o1 o2
                have t1 : decide (p < 1) = false := by simp; omega
                have t2 : decide (16 < p) = false := by simp; omega
                have t4 : decide ((0 : Int) < k) = false := by simp; omega
                go_wp2_with fail
                go_quiet (fail)
                go_wp2
                go_roundw
                case rel => exact ⟨k + 1, by omega, by go_num, fun j h hj => (Nat.lt_succ_iff_lt_or_eq.1 hj).elim (HQ2.out j h) fun e => by subst e; exact ⟨HO.out, fun h => absurd h h0⟩, HKo.out.drewN _⟩
                case measure => simp [intOf]; omega
            · have HF1 := Lib.hid (chk_top (subs := subs) hlt2 hok)
              clear hr' hbr
              rcases topOk_cases _ hok with h | ⟨h, h'⟩
              all_goals
                clear hok
                generalize tops[k].name = s at *
                generalize tops[k].parts = p at *
                try have t1 : decide (p < 1) = false := by simp; omega
                try have t1 : decide (p < 1) = true := by simp; omega
                try have t2 : decide (16 < p) = true := by simp; omega
                go_wp2_with fail
                go_quiet (fail)
                go_wp2
                go_ret
                rw [HF1.out]
                exact ⟨rfl, HK2.out.drewN _⟩
          · have HA2 : Hid (chk subs tops = 0) := by
              show chk subs tops = 0
              have e1 : subs.all subOk = true := all_of (fun j h => (HA.out j h).1)
              have e2 : tops.all topOk = true := all_of (fun j h => (HQ2.out j h (by omega)).1)
              have e3 : chain (fun a b : Int => decide (a < b)) (subs.map SubC.member) = true := (chain_iff _ _).2 (fun j h => by
                simp only [List.getElem_map]
                have := (HA.out (j + 1) (by simpa using h)).2 (by omega)
                simpa using this)
              have e4 : chain sltB (tops.map TopC.name) = true := (chain_iff _ _).2 (fun j h => by
                simp only [List.getElem_map]
                have h9 : j + 1 < tops.length := by simpa using h
                have := (HQ2.out (j + 1) h9 (by omega)).2 (by omega)
                simpa using this)
              simp [chk, checkB, l1, l2, e1, e2, e3, e4]
            clear hbr
            go_wp2
            go_ret
            rw [HA2.out]
            exact ⟨rfl, HK2.out⟩
  · have hf : Hid (chk subs tops = 1) := by
      simp only [chk, checkB, Hid]
      by_cases h : subs.length ≤ 20
      · have : ¬ tops.length ≤ 20 := fun h' => hlen ⟨h, h'⟩
        simp [this]
      · simp [h]
    clear hs ht
    by_cases h2 : subs.length ≤ 20
    · have h3 : 20 < tops.length := by omega
      clear hlen
      go_enter Tryz.func116, Tryz.ntmps116
      go_wp2
      go_ret
      rw [hf.out]
      exact ⟨rfl, Keeps.refl _ _⟩
    · clear hlen
      go_enter Tryz.func116, Tryz.ntmps116
      go_wp2
      go_ret
      rw [hf.out]
      exact ⟨rfl, Keeps.refl _ _⟩
end Go.Proofs.YtklhlffdpojkoaaGreat
