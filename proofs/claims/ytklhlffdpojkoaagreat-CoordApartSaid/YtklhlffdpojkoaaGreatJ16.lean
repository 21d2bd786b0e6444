/-
  The reference's Beat and Leave.
-/
import Derived.Test.YtklhlffdpojkoaaGreatJ15
namespace Go.Proofs.YtklhlffdpojkoaaGreat
open Go.RowKit Go.Shelf Fx

/-- Behind a change of the members' row in its place. -/
theorem RGrpAt.rowset {w w' : World} {F : Nat → Prop} {b : Nat} {g g' : GroupC} {v : Value} {L L' : List OneV} (h : RGrpAt w F b g v L) (hk : Keeps (fun k => v.ownBlock = some k) w w') (hrow : w'.ownsRow 0 111 5 v L'.length (L'.flatMap oneEnc)) (hones : L'.map OneV.core = g'.ones) (hc : gCells g' v = gCells g v)
    (hs : ∀ x ∈ L', ∃ y ∈ L, x.tv = y.tv ∧ x.topics = y.topics ∧ x.pv = y.pv ∧ x.parts = y.parts) : RGrpAt w' F b g' v L' :=
  ⟨by rw [hc]; exact (hk.block b (block_lt h.blk) (fun e => (h.own b e).2 rfl)).trans h.blk, hrow, h.fb, fun k e => Nat.lt_of_lt_of_le (h.lt k e) hk.size, h.own, hones, fun x hx => by
    obtain ⟨y, hy, e1, e2, e3, e4⟩ := hs x hx
    rw [e1, e2, e3, e4]
    exact ⟨(h.out y hy).1.keep still_str hk (fun k _ e => e.2.2) (fun _ _ e => e), (h.out y hy).2.keep still_part hk (fun k _ e => e.2.2) (fun _ _ e => e)⟩⟩
theorem RGrpAt.touch {w : World} {F : Nat → Prop} {b r cap : Nat} {g : GroupC} {L : List OneV} (h : RGrpAt w F b g (.slice (some ⟨r, 0, none⟩) L.length cap) L) (hr : RiseM L) {m : Int} {i : Nat} (hi : i < L.length) (e : L[i].member = m) (t : Int) :
    RGrpAt (w.setCell ⟨r, i * 5 + 2, none⟩ (.int .i64 t)) F b (touchG g m t) (.slice (some ⟨r, 0, none⟩) L.length cap) (L.modify i fun x => { x with til := t }) := by
  have h1 := (h.row.stored (i * 5 + 2) (.int .i64 t)).1
  rw [flat_set' oneEnc 5 oneEnc_len (fun x => { x with til := t }) 2 (.int .i64 t) (by omega) (fun _ => rfl) L i hi] at h1
  refine h.rowset ((Keeps.refl _ w).setC _ _ (fun _ => rfl)) (by rw [List.length_modify]; exact h1) ?_ rfl fun x hx => ?_
  · rw [modify_core hr hi e _ (fun o => { o with til := t }) (fun _ => rfl), h.ones]
    rfl
  · obtain ⟨k, hk, rfl⟩ := List.mem_iff_getElem.1 hx
    have hk' : k < L.length := by simpa using hk
    refine ⟨L[k], List.getElem_mem hk', ?_⟩
    rw [List.getElem_modify]
    split <;> exact ⟨rfl, rfl, rfl, rfl⟩
theorem RGrpAt.rise {w : World} {F : Nat → Prop} {b : Nat} {g : GroupC} {v : Value} {L : List OneV} (h : RGrpAt w F b g v L) (hw : WfG g) : RiseM L := by
  have hl := h.len
  have hm : ∀ i (hi : i < L.length), g.ones[i]'(by omega) = L[i].core := fun i hi => by simp only [← h.ones, List.getElem_map]
  refine ⟨fun i j hi hj hij => ?_, fun i hi => ?_⟩
  · have := hw.rise i j (by omega) (by omega) hij
    rw [hm i hi, hm j hj] at this
    exact this
  · have := hw.wf i (by omega)
    rw [hm i hi] at this
    have h2 := hw.next.2
    exact ⟨this.1, by have := this.2; show L[i].core.member ≤ _; omega⟩
set_option maxRecDepth 100000 in
set_option maxHeartbeats 1000000 in

def rbeatE (g : GroupC) (m gn now : Int) : Int := if timeOk now then (if knownE g m gn = 0 then (if g.phase = 1 ∨ g.phase = 2 then 13 else 0) else knownE g m gn) else 1
theorem known_cases (g : GroupC) (m gn : Int) : (knownE g m gn = 0 ∧ hasM g m = true) ∨ knownE g m gn = 10 ∨ knownE g m gn = 11 := by
  unfold knownE
  by_cases h : hasM g m = true
  · rw [if_pos h]
    by_cases h2 : gn = g.gen
    · rw [if_pos h2]; exact .inl ⟨rfl, h⟩
    · rw [if_neg h2]; exact .inr (.inl rfl)
  · rw [if_neg h]; exact .inr (.inr rfl)
theorem rfind_has {w : World} {F : Nat → Prop} {b : Nat} {g : GroupC} {v : Value} {L : List OneV} (m : Int) (h : RGrpAt w F b g v L) (hl : L.length ≤ 1000) (hm : hasM g m = true) :
    Calls Tryz.prog 86 #[.pointer (some ⟨b, 0, none⟩), .int .i64 m] w fun e w' => ∃ (i : Nat) (hi : i < L.length), e = .returned (.int .i64 i) ∧ w' = w ∧ L[i].member = m :=
  (rfind_any m h hl).mono fun e w' hq => by
    obtain ⟨x, rfl, rfl, hf⟩ := hq
    rcases hf.has h with ⟨_, i, hi, rfl, e⟩ | ⟨e, _⟩
    · exact ⟨i, hi, rfl, rfl, e⟩
    · rw [e] at hm; cases hm
theorem rknows_is {w : World} {F : Nat → Prop} {b : Nat} {g : GroupC} {v : Value} {L : List OneV} (m gn : Int) (h : RGrpAt w F b g v L) (hl : L.length ≤ 1000) {x : Int} (hx : knowsE g m gn = x) :
    Calls Tryz.prog 55 #[.pointer (some ⟨b, 0, none⟩), .int .i64 m, .int .i64 gn] w fun e w' => e = .returned (.int .i64 x) ∧ w' = w := by
  rw [← hx]
  exact rknows_any w F b g v L m gn h hl
set_option maxRecDepth 100000 in
set_option maxHeartbeats 2000000 in
theorem rbeat_any (w : World) (F : Nat → Prop) (b : Nat) (g : GroupC) (m gn now : Int) (h : RGrp w F b g) (hw : WfG g) :
    Calls Tryz.prog 53 #[.pointer (some ⟨b, 0, none⟩), .int .i64 m, .int .i64 gn, .int .i64 now] w fun e w' => e = .returned (.int .i64 (rbeatE g m gn now)) ∧ RGrpPost w F b (beatG g m gn now) w' := by
  obtain ⟨v, L, h⟩ := h
  have HT := Lib.hid (rtime_any now w)
  have hl : L.length ≤ 1000 := by have := hw.len; have := h.len; omega
  have HR := Lib.hid (h.rise hw)
  have HS := Lib.hid hw.ses
  have HH := Lib.hid h
  clear h hw
  cases ht : timeOk now with
  | false =>
    have HE : Hid (rbeatE g m gn now = 1) := by show _ = _; unfold rbeatE; rw [if_neg (by rw [ht]; simp)]
    have HG : Hid (beatG g m gn now = g) := by show _ = _; unfold beatG; rw [if_neg (by rw [ht]; simp)]
    rw [ht] at HT
    clear ht
    go_enter Tryz.func53, Tryz.ntmps53
    go_wp2_with fail
    refine HT.out.mono ?_
    rintro e w1 ⟨rfl, hk⟩
    go_wp2
    go_ret
    rw [HE.out, HG.out]
    exact ⟨rfl, F, ⟨v, L, HH.out.keep hk fun _ _ e => e⟩, fun k e => .inl e, hk.mono fun _ _ e => e.elim⟩
  | true =>
    have hn := time_yes ht
    have HTT := Lib.hid ht
    rw [ht] at HT
    clear ht
    have bad : ∀ x : Int, (x = 10 ∨ x = 11) → knownE g m gn = x → Calls Tryz.prog 53 #[.pointer (some ⟨b, 0, none⟩), .int .i64 m, .int .i64 gn, .int .i64 now] w fun e w' => e = .returned (.int .i64 (rbeatE g m gn now)) ∧ RGrpPost w F b (beatG g m gn now) w' := by
      intro x hx hk0
      have h0 : ¬ knownE g m gn = 0 := by omega
      have HE : Hid (rbeatE g m gn now = x) := by show _ = _; unfold rbeatE; rw [if_pos HTT.out, if_neg h0, hk0]
      have HG : Hid (beatG g m gn now = g) := by show _ = _; unfold beatG; rw [if_pos HTT.out, if_neg h0]
      have HKE : Hid (knowsE g m gn = x) := by show _ = _; unfold knowsE; rw [if_neg h0, hk0]
      clear h0 hk0
      rcases hx with rfl | rfl
      all_goals
        go_enter Tryz.func53, Tryz.ntmps53
        go_wp2_with fail
        refine HT.out.mono ?_
        rintro e w1 ⟨rfl, hk1⟩
        have HK1 := Lib.hid hk1
        go_wp2_with fail
        refine (rknows_is m gn (HH.out.keep hk1 fun _ _ e => e) hl HKE.out).mono ?_
        rintro e w2 ⟨rfl, rfl⟩
        clear hk1
        go_wp2
        go_ret
        rw [HE.out, HG.out]
        exact ⟨rfl, F, ⟨v, L, HH.out.keep HK1.out fun _ _ e => e⟩, fun k e => .inl e, HK1.out.mono fun _ _ e => e.elim⟩
    rcases known_cases g m gn with ⟨h0, hm⟩ | h0 | h0
    case inr.inl => exact bad 10 (.inl rfl) h0
    case inr.inr => exact bad 11 (.inr rfl) h0
    clear bad
    have HG : Hid (beatG g m gn now = touchG g m (now + g.session)) := by show _ = _; unfold beatG; rw [if_pos HTT.out, if_pos h0]
    have HE : Hid (rbeatE g m gn now = if g.phase = 1 ∨ g.phase = 2 then 13 else 0) := by show _ = _; unfold rbeatE; rw [if_pos HTT.out, if_pos h0]
    have HKE : Hid (∃ x : Int, knowsE g m gn = x ∧ (x = 13 ∨ x = 0)) := by
      show ∃ _, _
      refine ⟨_, rfl, ?_⟩
      unfold knowsE
      rw [if_pos h0]
      by_cases hp : g.phase = 1
      · rw [if_pos hp]; exact .inl rfl
      · rw [if_neg hp]; exact .inr rfl
    have HM := Lib.hid hm
    clear h0 hm
    obtain ⟨x, hxe, hx⟩ := HKE.out
    have HXE := Lib.hid hxe
    clear hxe HKE
    rcases hx with rfl | rfl
    all_goals
      go_enter Tryz.func53, Tryz.ntmps53
      go_wp2_with fail
      refine HT.out.mono ?_
      rintro e w1 ⟨rfl, hk1⟩
      have HK1 := Lib.hid hk1
      go_wp2_with fail
      refine (rknows_is m gn (HH.out.keep hk1 fun _ _ e => e) hl HXE.out).mono ?_
      rintro e w2 ⟨rfl, rfl⟩
      have hg2 := HH.out.keep hk1 fun _ _ e => e
      have HG2 := Lib.hid hg2
      have hgd := hg2.keep ((Keeps.refl (fun _ => False) w2).drew) (fun _ _ e => e)
      have HFI := Lib.hid (rfind_has m hgd hl HM.out)
      have cs : w2.drew.cell? ⟨b, 0, none⟩ = some (.int .i64 g.session) := block_cell hgd.blk 0
      have c6 : w2.drew.cell? ⟨b, 6, none⟩ = some v := block_cell hgd.blk 6
      have hbd := block_lt hgd.blk
      have HGD := Lib.hid hgd
      have hs := HS.out
      have hfo := hgd.form
      clear hk1 hg2 hgd
      rcases hfo with ⟨rfl, rfl⟩ | ⟨r, cap, rfl, hrb, hrl, hcap, hFr⟩
      · exact absurd HM.out (by rw [show hasM g m = ([] : List OneV).any fun o => o.core.member == m by unfold hasM; rw [← HG2.out.ones]; rfl]; simp)
      generalize hss : g.session = ss at cs hs HG
      clear hss
      go_upto_region 6 with fail
      go_cut [] (fun wz => RGrpPost w2 F b (touchG g m (now + ss)) wz)
      case first =>
        go_region_with (go_at_call 86; refine HFI.out.mono ?_; rintro e w3 ⟨i, hi, rfl, rfl, hmi⟩; have ct := (HGD.out.cell rfl i hi).2.2.1; have cf := HGD.out.row.frozenAt (i * 5 + 2); have i0 : (0 : Int) ≤ i := (by omega); have i1 : (i : Int) < L.length := (by omega); generalize L[i].til = tl at ct)
        all_goals (go_wp2; go_meet; case rel => (rw [show IntKind.i64.wrap (now + ss) = now + ss from IntWalk.i64_in _ (by omega)]; exact ⟨F, ⟨_, _, HGD.out.touch HR.out hi hmi (now + ss)⟩, fun k e => .inl e, ((Keeps.refl F w2).drew).setC _ _ (fun _ => hFr)⟩))
      case rest =>
        obtain ⟨F1, ⟨v1, L1, hg1⟩, hF1, hk1⟩ := hcut
        have c2 : wc.cell? ⟨b, 2, none⟩ = some (.int .i64 g.phase) := block_cell hg1.blk 2
        have hb1 := block_lt hg1.blk
        have HG1 := Lib.hid hg1
        have HF1 := Lib.hid hF1
        have HK2 := Lib.hid ((HK1.out.mono (S1 := F) fun _ _ e => e.elim).trans hk1 (fun _ _ e => e))
        have HP1 : Hid (RGrpPost w F b (beatG g m gn now) wc) := by
          show RGrpPost _ _ _ _ _
          rw [HG.out]
          exact ⟨F1, ⟨v1, L1, hg1⟩, fun k e => (hF1 k e).elim .inl (fun e => .inr (Nat.le_trans HK1.out.size e)), HK2.out⟩
        clear hg1 hF1 hk1 cs c6
        generalize g.phase = ph at c2 HE
        by_cases h1 : ph = 1
        · have HE2 : Hid (rbeatE g m gn now = 13) := by show _ = _; rw [HE.out, if_pos (.inl h1)]
          subst h1
          go_wp2
          go_ret
          rw [HE2.out]
          exact ⟨rfl, HP1.out⟩
        · by_cases h2 : ph = 2
          · have HE2 : Hid (rbeatE g m gn now = 13) := by show _ = _; rw [HE.out, if_pos (.inr h2)]
            clear h1
            subst h2
            go_wp2
            go_ret
            rw [HE2.out]
            exact ⟨rfl, HP1.out⟩
          · have HE2 : Hid (rbeatE g m gn now = 0) := by show _ = _; rw [HE.out, if_neg (fun e => e.elim h1 h2)]
            have q1 : (ph == 1) = false := by simpa using h1
            have q2 : (ph == 2) = false := by simpa using h2
            clear h1 h2
            go_wp2
            go_ret
            rw [HE2.out]
            exact ⟨rfl, HP1.out⟩
theorem filG_erase {g : GroupC} (hw : WfG g) {m : Int} {i : Nat} (hi : i < g.ones.length) (e : g.ones[i].member = m) : filG g (fun o => o.member == m) = dropAt g i := by
  have h : (g.ones.filter fun o => !(o.member == m)) = g.ones.eraseIdx i := by
    rw [List.eraseIdx_eq_take_drop_succ]
    have hs : g.ones = g.ones.take i ++ (g.ones[i] :: g.ones.drop (i + 1)) := by
      rw [← List.drop_eq_getElem_cons hi, List.take_append_drop]
    have h1 : (g.ones.take i).filter (fun o => !(o.member == m)) = g.ones.take i := by
      rw [List.filter_eq_self]
      intro x hx
      obtain ⟨j, hj, rfl⟩ := List.mem_iff_getElem.1 hx
      rw [List.length_take] at hj
      have := hw.rise j i (by omega) hi (by omega)
      rw [List.getElem_take]
      simp
      omega
    have h2 : (g.ones.drop (i + 1)).filter (fun o => !(o.member == m)) = g.ones.drop (i + 1) := by
      rw [List.filter_eq_self]
      intro x hx
      obtain ⟨j, hj, rfl⟩ := List.mem_iff_getElem.1 hx
      rw [List.length_drop] at hj
      have := hw.rise i (i + 1 + j) hi (by omega) (by omega)
      rw [List.getElem_drop]
      simp
      omega
    conv => lhs; rw [hs]
    rw [List.filter_append, h1, List.filter_cons_of_neg (by simp [e]), h2]
  unfold filG dropAt
  rw [h]
theorem dropG_went {g : GroupC} (hw : WfG g) {m now : Int} {i : Nat} (hi : i < g.ones.length) (e : g.ones[i].member = m) : dropG g now (fun o => o.member == m) = wentG (dropAt g i) now := by
  have hl : (dropAt g i).ones.length + 1 = g.ones.length := by show (g.ones.eraseIdx i).length + 1 = _; rw [List.length_eraseIdx, if_pos hi]; omega
  unfold dropG wentG
  rw [filG_erase hw hi e, if_neg (by omega)]
  by_cases h0 : (dropAt g i).ones.length = 0
  · rw [if_pos (.inr h0), if_pos h0]
    unfold anewG
    rw [if_pos h0]
  · rw [if_neg h0]
    by_cases hp : g.phase = 1
    · rw [if_neg (fun e => e.elim (fun e => e hp) h0), if_neg (show ¬ ¬ (dropAt g i).phase = 1 from fun e => e hp)]
    · rw [if_pos (.inl hp), if_pos (show ¬ (dropAt g i).phase = 1 from hp)]
set_option maxRecDepth 100000 in
set_option maxHeartbeats 2000000 in
theorem rleave_any (w : World) (F : Nat → Prop) (b : Nat) (g : GroupC) (m now : Int) (h : RGrp w F b g) (hw : WfG g) :
    Calls Tryz.prog 54 #[.pointer (some ⟨b, 0, none⟩), .int .i64 m, .int .i64 now] w fun e w' => e = .returned (.int .i64 (leaveE g m now)) ∧ RGrpPost w F b (leaveG g m now) w' := by
  obtain ⟨v, L, h⟩ := h
  have HT := Lib.hid (rtime_any now w)
  have hl : L.length ≤ 1000 := by have := hw.len; have := h.len; omega
  have HH := Lib.hid h
  have HW := Lib.hid hw
  clear h hw
  cases ht : timeOk now with
  | false =>
    have HE : Hid (leaveE g m now = 1) := by show _ = _; unfold leaveE; rw [if_neg (by rw [ht]; simp)]
    have HG : Hid (leaveG g m now = g) := by show _ = _; unfold leaveG; rw [if_neg (by rw [ht]; simp)]
    rw [ht] at HT
    clear ht
    go_enter Tryz.func54, Tryz.ntmps54
    go_wp2_with fail
    refine HT.out.mono ?_
    rintro e w1 ⟨rfl, hk⟩
    go_wp2
    go_ret
    rw [HE.out, HG.out]
    exact ⟨rfl, F, ⟨v, L, HH.out.keep hk fun _ _ e => e⟩, fun k e => .inl e, hk.mono fun _ _ e => e.elim⟩
  | true =>
    have hn := Lib.hid (time_yes ht)
    have HTT := Lib.hid ht
    rw [ht] at HT
    clear ht
    go_enter Tryz.func54, Tryz.ntmps54
    go_wp2_with fail
    refine HT.out.mono ?_
    rintro e w1 ⟨rfl, hk1⟩
    have HK1 := Lib.hid hk1
    have HG1 := Lib.hid (HH.out.keep hk1 fun _ _ e => e)
    clear hk1
    go_wp2_with fail
    refine (rfind_any m HG1.out hl).mono ?_
    rintro e w2 ⟨x, rfl, rfl, hf⟩
    rcases hf.has HG1.out with ⟨hm, i, hi, rfl, hmi⟩ | ⟨hm, rfl⟩
    · have HE : Hid (leaveE g m now = 0) := by show _ = _; unfold leaveE; rw [if_pos HTT.out, if_pos hm]
      have hgi : i < g.ones.length := by rw [HG1.out.len]; exact hi
      have hgm : g.ones[i].member = m := by simp only [← HG1.out.ones, List.getElem_map]; exact hmi
      have HG : Hid (leaveG g m now = wentG (dropAt g i) now) := by show _ = _; unfold leaveG; rw [if_pos HTT.out, if_pos hm, dropG_went HW.out hgi hgm]
      have HD := Lib.hid (rdrop_any w2 F b g v L i hi HG1.out hl)
      have i0 : (0 : Int) ≤ i := by omega
      clear hm hf hi hmi hgi hgm
      go_wp2_with fail
      refine HD.out.mono ?_
      rintro e w3 ⟨rfl, F2, ⟨v2, L2, hg2⟩, hF2, hk2⟩
      have hl2 : L2.length ≤ 1000 := by
        have h1 := hg2.len
        have h2 : (dropAt g i).ones.length ≤ g.ones.length := List.length_eraseIdx_le _ _
        have h3 := HW.out.len
        omega
      have HWE := Lib.hid (rwent_any w3 F2 b (dropAt g i) v2 L2 now hg2 hl2 ⟨hn.out, by have := HW.out.reb; exact ⟨by show 0 ≤ g.rebalance; omega, this.2⟩, HW.out.gen⟩)
      have HTR : Hid (∀ g2 wz, RGrpPost w3 F2 b g2 wz → RGrpPost w F b g2 wz) := fun g2 wz hq => RGrpPost.trans (fun k e => .inl e) (HK1.out.mono fun _ _ e => e.elim) (RGrpPost.trans hF2 hk2 hq)
      clear hg2 hF2 hk2 HD
      go_wp2_with fail
      refine HWE.out.mono ?_
      rintro e w4 ⟨rfl, hq⟩
      have HQ := Lib.hid (HTR.out _ _ hq)
      clear hq
      go_wp2
      go_ret
      rw [HE.out, HG.out]
      exact ⟨rfl, HQ.out⟩
    · have HE : Hid (leaveE g m now = 11) := by show _ = _; unfold leaveE; rw [if_pos HTT.out, if_neg (by rw [hm]; simp)]
      have HG : Hid (leaveG g m now = g) := by show _ = _; unfold leaveG; rw [if_pos HTT.out, if_neg (by rw [hm]; simp)]
      clear hm hf
      go_wp2
      go_ret
      rw [HE.out, HG.out]
      exact ⟨rfl, F, ⟨v, L, HG1.out⟩, fun k e => .inl e, HK1.out.mono fun _ _ e => e.elim⟩
end Go.Proofs.YtklhlffdpojkoaaGreat
