/-
  The members' parts are dealt out: the walk.
-/
import Derived.Test.YtlmajhkhlmkeiaaGr
namespace Go.Proofs.Ytlmajhkhlmkeiaa
open Go.RowKit Go.Shelf Fx

theorem deal_at (rd round : Bool) (h : rd = round) (w0 w : World) (sa ta : Option Addr) (sc tc : Nat) (subs : List SubC) (tops : List TopC) (hs : SlAt 2 rSub w0 sa sc subs) (ht : SlAt 2 rTop w0 ta tc tops) (hb : Below w0.heap.size w0 w) :
    Calls Try.prog (cond round 56 55) #[.slice sa subs.length sc, .slice ta tops.length tc] w (DealPost w (chk subs tops) (dealL rd subs tops)) := by
  subst h
  exact deal_any rd w0 w sa ta sc tc subs tops hs ht hb
theorem infoSub : (Try.prog.info? 65).map (fun i => (i.zero, i.size, i.bytes)) = some (some (.agg #[.int .i64 0, .slice none 0 0]), 2, 32) := by kernel_rfl
theorem flat_take {L : List OneV} {k : Nat} (hk : k < L.length) : (L.take (k + 1)).flatMap subEnc = (L.take k).flatMap subEnc ++ [.int .i64 L[k].member, L[k].tv] := by
  rw [List.take_succ_eq_append_getElem hk, List.flatMap_append]
  simp [subEnc]
def SharePost (w : World) (F : Nat → Prop) (b : Nat) (g : GroupC) (tops : List TopC) (round : Bool) (v : Value) (e : Ending) (w' : World) : Prop :=
  e = .returned (.int .i64 (chk (subsOf g) tops)) ∧ ∃ F' L', GrpAt w' F' b (if chk (subsOf g) tops = 0 then shareG g (dealL round (subsOf g) tops) else g) v L' ∧ (∀ k, F' k → F k ∨ w.heap.size ≤ k) ∧ Keeps F w w'
set_option maxRecDepth 100000 in
set_option maxHeartbeats 4000000 in
theorem share_any (w : World) (F : Nat → Prop) (b : Nat) (g : GroupC) (v : Value) (L : List OneV) (ta : Option Addr) (tc : Nat) (tops : List TopC) (round : Bool) (h : GrpAt w F b g v L) (hw : WfG g) (ht : SlAt 2 rTop w ta tc tops) :
    Calls Try.prog 30 #[.pointer (some ⟨b, 0, none⟩), .slice ta tops.length tc, .bool round] w fun e w' => SharePost w F b g tops round v e w' := by
  obtain ⟨a0, cap0, rfl⟩ : ∃ a cap, v = .slice a L.length cap := by
    rcases h.form with ⟨h1, h2⟩ | ⟨r, cap, h1, _⟩
    · rw [h1]; exact ⟨_, _, h2⟩
    · exact ⟨_, _, h1⟩
  have hlen : L.length ≤ 20 := by rw [← h.glen]; exact hw.len
  have c6 : w.cell? ⟨b, 6, none⟩ = some (.slice a0 L.length cap0) := block_cell h.blk 6
  have hb := block_lt h.blk
  have HH := Lib.hid h
  have HW := Lib.hid hw
  have HT := Lib.hid ht
  have HCC := Lib.hid (chk_cases (subsOf g) tops)
  have HSL := Lib.hid (subsOf_len g)
  have HGL := Lib.hid h.glen
  obtain ⟨rd, hrd⟩ : ∃ rd : Bool, rd = round := ⟨_, rfl⟩
  have hres : SharePost w F b g tops rd (.slice a0 L.length cap0) = SharePost w F b g tops round (.slice a0 L.length cap0) := by rw [hrd]
  simp only [← hres]
  have HRD := Lib.hid hrd
  clear h hw ht hres hrd
  cases round
  all_goals
    go_enter Try.func30, Try.ntmps30
    go_wp2
    go_loopw [7, 21] (fun sv i wr => ∃ k : Nat, i = .int .i64 k ∧ k ≤ L.length ∧ wr.ownsRow w.heap.size 65 2 sv k ((L.take k).flatMap subEnc) ∧ K0 w wr) (fun _ i _ => L.length - (intOf i).toNat)
    case atStart => exact ⟨0, rfl, by omega, World.ownsRow_nil _ _ _ _, Keeps.refl _ _⟩
    case round =>
      obtain ⟨k, rfl, hk, hown, hkw⟩ := hrel
      have HOWN := Lib.hid hown
      have HKW := Lib.hid hkw
      by_cases hlt : k < L.length
      · have hg := HH.out.keep hkw fun _ _ e => e
        rcases HH.out.form with ⟨h0, _⟩ | ⟨r, cap, e, hrb, hrl, _, _⟩
        · subst h0; exact absurd hlt (Nat.not_lt_zero _)
        · simp only [Value.slice.injEq, true_and] at e
          obtain ⟨rfl, rfl⟩ := e
          obtain ⟨x0, x1, x2, x3, x4⟩ := hg.cell rfl k hlt
          obtain ⟨⟨a1, n1, k1, o1⟩, a4, n4, k4, o4⟩ := HH.out.slices L[k] (List.getElem_mem hlt)
          have HFT := Lib.hid (flat_take hlt)
          have hrl := Nat.lt_of_lt_of_le hrl hkw.size
          have hsz := hkw.size
          rw [o1] at x1 HFT
          rw [o4] at x4
          clear hg hkw o1 o4
          generalize L[k].member = m0 at x0 HFT
          generalize L[k].til = m2 at x2
          generalize L[k].joined = m3 at x3
          generalize hxs : (L.take k).flatMap subEnc = xs at hown HFT
          clear hxs
          have i0 : (0 : Int) ≤ k := by omega
          have i1 : (k : Int) < L.length := by omega
          have hkn : k ≤ 1000000 := by omega
          go_wp2_with (at_builtin; refine wpList_app1 rfl rfl Try.underlying67 infoSub rfl (by decide) rfl ((hown.alloc _).alloc _) rfl (heap_new _ _ _ (by simp)) rfl rfl ⟨by omega, by decide⟩ (by simp; omega) ?_; intro g1 cap1 w4 hA; have HA := Lib.hid hA)
          go_roundw
          case rel =>
            refine ⟨k + 1, by go_num, by omega, by rw [HFT.out]; exact HA.out.own, ((HKW.out.alloc _).alloc _).grown HA.out.grown fun q e hq => ?_⟩
            have := (hown.lt q e).1
            omega
          case measure => simp [intOf]; omega
      · obtain rfl : k = L.length := by omega
        rw [List.take_length] at hown
        obtain ⟨sa, sc, rfl, hsub⟩ := sub_row HH.out HW.out hkw hown
        have h5 := deal_at rd _ HRD.out wr wr sa ta sc tc (subsOf g) tops hsub (HT.out.keep0 (fun _ _ _ _ _ h => h) hkw) (Below.refl _ _)
        dsimp only [cond] at h5
        have HDL := Lib.hid h5
        have HDN := Lib.hid (fun hc => deal_len (round := rd) (subs := subsOf g) (tops := tops) hc)
        have c6 := hkw.cell' c6 (fun e => e)
        have hb := Nat.lt_of_lt_of_le hb hkw.size
        clear h5 hsub hown hkw
        generalize hdd : dealL rd (subsOf g) tops = l at HDL HDN
        have HDD := Lib.hid hdd
        clear hdd
        go_wp2_with fail
        refine HDL.out.mono ?_
        intro e w1 hq
        rcases hq with ⟨hc, rfl, hk1⟩ | ⟨hc, sv, F1, vs, rfl, hs, hF1, hk1⟩
        · have HC := Lib.hid hc
          have HK := Lib.hid (K0.tr HKW.out hk1)
          clear hc hk1
          go_wp2
          go_ret
          unfold SharePost
          rw [HC.out, if_neg (by decide)]
          exact ⟨rfl, F, L, HH.out.keep HK.out fun _ _ e => e, fun k e => .inl e, HK.out.mono fun _ _ e => e.elim⟩
        · have HC := Lib.hid hc
          have hll : l.length = L.length := (HDN.out hc).1.trans (HSL.out.trans HGL.out)
          have HK := Lib.hid (K0.tr HKW.out hk1)
          have HS := Lib.hid hs
          have HF1 : Hid (∀ k, F1 k → w.heap.size ≤ k) := fun k e => Nat.le_trans HKW.out.size (hF1 k e)
          obtain ⟨sa2, sc2, rfl⟩ : ∃ a c, sv = .slice a l.length c := by
            rcases hs.row.2 with ⟨h1, h2⟩ | ⟨r, cap, cur, h1, _⟩
            · rw [h2]; exact ⟨_, _, h1⟩
            · exact ⟨_, _, h1⟩
          have c6 := hk1.cell' c6 (fun e => e)
          have hb := Nat.lt_of_lt_of_le hb hk1.size
          have hmid0 : ShareMid w1 w1 (.slice a0 L.length cap0) L vs l 0 := ⟨by rw [partTo_zero]; exact (HH.out.keep HK.out fun _ _ e => e).row, Keeps.refl _ _⟩
          clear hc hs hF1 hk1 HDN HDL
          go_wp2
          go_loopw [47] (fun i wr2 => ∃ k : Nat, i = .int .i64 k ∧ k ≤ l.length ∧ ShareMid w1 wr2 (.slice a0 L.length cap0) L vs l k) (fun i _ => l.length - (intOf i).toNat)
          case atStart => exact ⟨0, rfl, by omega, hmid0⟩
          case round =>
            clear hmid0
            obtain ⟨wo, rfl⟩ : ∃ wo : World, wo = wr := ⟨_, rfl⟩
            obtain ⟨k, rfl, hk, hmid⟩ := hrel
            have HM := Lib.hid hmid
            by_cases hlt : k < l.length
            · have hltL : k < L.length := by omega
              have hkv : k < vs.length := by rw [HS.out.len]; exact hlt
              rcases HH.out.form with ⟨h0, _⟩ | ⟨r, cap, e, hrb, hrl, _, _⟩
              · subst h0; exact absurd hltL (Nat.not_lt_zero _)
              · simp only [Value.slice.injEq, true_and] at e
                obtain ⟨rfl, rfl⟩ := e
                obtain ⟨rs, rfl⟩ : ∃ rs, sa2 = some ⟨rs, 0, none⟩ := by
                  rcases HS.out.row.2 with ⟨h1, h2⟩ | ⟨r, cap, cur, h1, _⟩
                  · omega
                  · simp only [Value.slice.injEq] at h1
                    exact ⟨r, h1.1⟩
                have hrs : w.heap.size ≤ rs := HF1.out _ (HS.out.foot rs rfl)
                have hne : ¬ (Value.slice (some ⟨r, 0, none⟩) L.length cap0).ownBlock = some rs := fun e => by
                  have : r = rs := by simpa [Value.ownBlock] using e
                  omega
                obtain ⟨a4, k4, o4, _, _⟩ := own_slAt (R := rPart) (fun p : PartC => [.string p.topic, .int .i64 p.index]) (fun _ => rfl) (fun _ => rfl) (HS.out.parts k hlt)
                have s0 : wo.cell? ⟨rs, k * 2, none⟩ = some (.int .i64 l[k].member) := hmid.keep.cell' ((HS.out.row.cellAt (k * 2) (by omega)).trans (shCells_member l vs k hlt HS.out.len)) hne
                have s1 : wo.cell? ⟨rs, k * 2 + 1, none⟩ = some vs[k] := hmid.keep.cell' ((HS.out.row.cellAt (k * 2 + 1) (by omega)).trans (shCells_value l vs k hkv HS.out.len)) hne
                rw [o4] at s1
                have HVK : Hid (vs.getD k .nilIface = .slice a4 l[k].parts.length k4) := by show _ = _; rw [← o4]; simp [List.getD, hkv]
                have c6 : wo.cell? ⟨b, 6, none⟩ = some (.slice (some ⟨r, 0, none⟩) L.length cap0) := hmid.keep.cell' c6 (fun e => (HH.out.own b e).2 rfl)
                have hb := Nat.lt_of_lt_of_le hb hmid.keep.size
                have x4 : ∃ u, wo.cell? ⟨r, k * 5 + 4, none⟩ = some u := ⟨_, (hmid.row.cellAt (k * 5 + 4) (by omega)).trans (List.getElem?_eq_getElem (by rw [hmid.row.1]; omega))⟩
                obtain ⟨u4, x4⟩ := x4
                have f4 := hmid.row.frozenAt (k * 5 + 4)
                have hrl2 : r < wo.heap.size := own_lt hmid.row rfl
                have hrs2 := cell_block1 s0
                have hbr : b ≠ r := fun e => hrb e.symm
                have HNX := Lib.hid (fun (wx wz : World) (hz : K0 wo wz) => hmid.next (wx := wx) hltL hz)
                clear hmid o4
                generalize l[k].member = m0 at s0
                generalize l[k].parts.length = n4 at s1 HVK
                generalize vs.getD k .nilIface = vk at HVK HNX
                have HVK2 := HVK.out
                subst HVK2
                have i0 : (0 : Int) ≤ k := by omega
                have i1 : (k : Int) < l.length := by omega
                have i2 : (k : Int) < L.length := by omega
                have hbo : b ≠ wo.heap.size := by omega
                have hro : r ≠ wo.heap.size := by omega
                go_wp2_with fail
                go_region
                all_goals
                  go_wp2
                  go_roundw
                  case rel => exact ⟨k + 1, by go_num, by omega, (HNX.out (wo.setCell _ _) wo (Keeps.refl _ _) rfl ⟨rfl, rfl, rfl⟩).keep0 (((Keeps.refl _ _).alloc _).drew)⟩
                  case measure => simp [intOf]; omega
            · obtain rfl : k = l.length := by omega
              have hm2 := HM.out
              rw [hll] at hm2
              obtain ⟨F2, hg2, hF2, hk2⟩ := HH.out.share HK.out HS.out HF1.out hll hm2
              have HE := Lib.hid (enter_any wo F2 b _ _ _ 3 0 hg2)
              have HF2 := Lib.hid hF2
              have HK2 := Lib.hid hk2
              have HFB := Lib.hid hg2.fb
              clear hm2 hg2 hF2 hk2 hmid
              go_wp2_with fail
              refine HE.out.mono ?_
              rintro e w3 ⟨rfl, hg3, hk3⟩
              have HG3 := Lib.hid hg3
              have HK3 := Lib.hid hk3
              clear hg3 hk3
              go_wp2
              go_ret
              unfold SharePost
              rw [HC.out, if_pos rfl, HDD.out]
              exact ⟨rfl, F2, _, HG3.out, HF2.out, HK2.out.trans HK3.out fun k hk' e => (HF2.out k (e ▸ HFB.out)).elim id fun e2 => by omega⟩
end Go.Proofs.Ytlmajhkhlmkeiaa
