/-
  A member joins: the walk.
-/
import Derived.Test.YtklhlffdpojkoaaGreatJ09
import Derived.Deep.RegionWith
namespace Go.Proofs.YtklhlffdpojkoaaGreat
open Go.RowKit Go.Shelf Fx

theorem wf_zero : (Lit.int .i64 0).wf = true := by decide
/-- One member with its topics, in a block of one. -/
theorem one_sub {w : World} {B : Nat} {ta : Option Addr} {tc : Nat} {topics : List ByteArray} (hb : w.heap[B]? = some (.cells #[.int .i64 0, .slice ta topics.length tc] 119)) (hs : SlAt 1 rStr w ta tc topics) :
    SlAt 2 rSub w (some ⟨B, 0, none⟩) 1 [⟨0, topics⟩] := by
  refine ⟨Nat.le_refl _, by unfold maxLen; omega, fun _ => ⟨B, 0, rfl, fun i hi => ?_⟩⟩
  obtain rfl : i = 0 := by simpa using hi
  refine ⟨[.int .i64 0, .slice ta topics.length tc], rfl, fun j hj => ?_, ta, tc, rfl, hs, wf_zero⟩
  match j, hj with
  | 0, _ => exact block_cell hb 0
  | 1, _ => exact block_cell hb 1
theorem few_topics {tp : List ByteArray} (hc : chk [⟨0, tp⟩] [] = 0) : tp.length ≤ 1000 := by
  unfold chk at hc
  split at hc
  · rename_i h
    unfold checkB at h
    simp only [Bool.and_eq_true, List.all_eq_true] at h
    have := subOk_parts _ (h.1.2 ⟨0, tp⟩ (by simp))
    have := this.2.2.1
    simp only at this
    omega
  · cases hc
theorem no_tops (w : World) : SlAt 2 rTop w none 0 ([] : List TopC) := ⟨Nat.le_refl _, by unfold maxLen; omega, fun h => absurd rfl h⟩
theorem bad_time {m : Int} {topics : List ByteArray} {now : Int} (h : timeOk now = false) : joinBad m topics now = true := by simp [joinBad, h]
theorem bad_low {m : Int} {topics : List ByteArray} {now : Int} (h : m < -1) : joinBad m topics now = true := by simp [joinBad, h]
theorem bad_check {m : Int} {topics : List ByteArray} {now : Int} (h : chk [⟨0, topics⟩] [] = 1) : joinBad m topics now = true := by simp [joinBad, h]
theorem not_bad {m : Int} {topics : List ByteArray} {now : Int} (h1 : timeOk now = true) (h2 : ¬ m < -1) (h3 : chk [⟨0, topics⟩] [] = 0) : joinBad m topics now = false := by simp [joinBad, h1, h2, h3]
theorem joinE_bad {g : GroupC} {m : Int} {topics : List ByteArray} {now : Int} (h : joinBad m topics now = true) : joinE g m topics now = 1 := by unfold joinE; rw [if_pos h]
/-- What is left of Join, told. -/
def JoinPost (w : World) (F : Nat → Prop) (b : Nat) (g : GroupC) (m : Int) (topics : List ByteArray) (now : Int) (e : Ending) (w' : World) : Prop :=
  e = .returned (.tuple #[.int .i64 (if joinE g m topics now = 0 then nextM g m else 0), .int .i64 (joinE g m topics now)]) ∧ GrpPost w F b (if joinE g m topics now = 0 then joinG g m topics now else g) w'
theorem JoinPost.err {w w' : World} {F : Nat → Prop} {b : Nat} {g : GroupC} {m : Int} {topics : List ByteArray} {now x : Int} (h : joinE g m topics now = x) (hx : ¬ x = 0) (hq : GrpPost w F b g w') : JoinPost w F b g m topics now (.returned (.tuple #[.int .i64 0, .int .i64 x])) w' := by
  unfold JoinPost
  rw [h, if_neg hx, if_neg hx]
  exact ⟨rfl, hq⟩
theorem frozen_keep {w w' : World} {b o : Nat} {v : Value} (h : K0 w w') (hc : w.cell? ⟨b, o, none⟩ = some v) (hf : w.frozen? ⟨b, o, none⟩ = false) : w'.frozen? ⟨b, o, none⟩ = false :=
  (h.frozen (p := ⟨b, o, none⟩) (cell_block1 hc) (fun e => e)).trans hf
theorem ClonePost.sl {α : Type} {n : Nat} {R : Rdr α} {w w' : World} {l : List α} {e : Ending} (h : ClonePost n R w l e w') : ∃ a c, e = .returned (.slice a l.length c) ∧ Out n R w' (fun k => w.heap.size ≤ k) (.slice a l.length c) l ∧ K0 w w' := by
  obtain ⟨v, rfl, ⟨a, c, rfl, h1, h2⟩, hk⟩ := h
  exact ⟨a, c, rfl, ⟨a, c, rfl, h1, h2⟩, hk⟩
theorem kr_tr {r : Nat} {w w1 w2 : World} (h : Keeps (fun k => k = r) w w1) (h1 : K0 w1 w2) : Keeps (fun k => k = r) w w2 := h.trans h1 fun _ _ e => e.elim
theorem cell_other {w : World} {b r o i : Nat} {v u : Value} (h : w.cell? ⟨b, o, none⟩ = some v) (hbr : r ≠ b) : (w.setCell ⟨r, i, none⟩ u).cell? ⟨b, o, none⟩ = some v :=
  ((Keeps.refl (fun k => k = r) w).setC i u (fun _ => rfl)).cell' h (fun e => hbr e.symm)
theorem head_add (g : GroupC) (m : Int) : (addG g m).session = g.session := by unfold addG; split <;> rfl
theorem head_start (g : GroupC) (now : Int) : (startG g now).session = g.session := by
  unfold startG
  split
  · rfl
  · exact (anewG_head g now).1
/-- What holds behind the tests of Join. -/
theorem tail_pre {g : GroupC} {m now : Int} (hw : WfG g) (hl : m = -1 → g.ones.length < 20) (hn : g.next + 1 ≤ 1152921504606846976) (hh : hasM (addG g m) (nextM g m) = true) (hm : -9223372036854775808 ≤ m ∧ m ≤ 9223372036854775807) :
    (-9223372036854775808 ≤ nextM g m ∧ nextM g m ≤ 9223372036854775807) ∧ WfG (addG g m) ∧ WfG (startG (addG g m) now) ∧ hasM (startG (addG g m) now) (nextM g m) = true ∧ (startG (addG g m) now).session = g.session := by
  refine ⟨?_, hw.add m hl hn, (hw.add m hl hn).start now, has_start hh, (head_start _ _).trans (head_add _ _)⟩
  unfold nextM
  have := hw.next
  split
  · omega
  · exact hm
set_option maxRecDepth 100000 in
set_option maxHeartbeats 4000000 in
theorem join_any (w : World) (F : Nat → Prop) (b : Nat) (g : GroupC) (m now : Int) (tv : Value) (topics : List ByteArray) (h : Grp w F b g) (hw : WfG g) (hm : -9223372036854775808 ≤ m ∧ m ≤ 9223372036854775807) (hnx : g.next + 1 ≤ 1152921504606846976)
    (ht : Out 1 rStr w (fun k => ¬ F k) tv topics) :
    Calls Tryz.prog 39 #[.pointer (some ⟨b, 0, none⟩), .int .i64 m, tv, .int .i64 now] w fun e w' => JoinPost w F b g m topics now e w' := by
  obtain ⟨v, L, h⟩ := h
  obtain ⟨a0, cap0, rfl⟩ : ∃ a cap, v = .slice a L.length cap := by
    rcases h.form with ⟨h1, h2⟩ | ⟨r, cap, h1, _⟩
    · rw [h1]; exact ⟨_, _, h2⟩
    · exact ⟨_, _, h1⟩
  have HOUT := Lib.hid ht
  obtain ⟨ta, tc, rfl, hts, _⟩ := ht
  have hlen : L.length ≤ 20 := by rw [← h.glen]; exact hw.len
  have HT := Lib.hid (isTime_any now)
  have HCK := Lib.hid (fun (wx : World) (B : Nat) (hk : K0 w wx) (hb : wx.heap[B]? = some (.cells #[.int .i64 0, .slice ta topics.length tc] 119)) =>
    check14 wx wx (some ⟨B, 0, none⟩) none 1 0 [⟨0, topics⟩] [] (one_sub hb (hts.keep0 stable_str hk)) (no_tops wx) (Below.refl _ _))
  have HH := Lib.hid h
  have HW := Lib.hid hw
  have HNX := Lib.hid hnx
  have HMM := Lib.hid hm
  have HSELF : Hid (∀ wx, K0 w wx → GrpPost w F b g wx) := fun wx hk => ⟨F, ⟨_, L, h.keep hk fun _ _ e => e⟩, fun k e => .inl e, hk.mono fun _ _ e => e.elim⟩
  have HK0 := Lib.hid ((Keeps.refl (fun _ => False) w).alloc (.cells #[.int .i64 0, .slice ta topics.length tc] 119))
  have HC0 : Hid ((w.alloc (.cells #[.int .i64 0, .slice ta topics.length tc] 119)).heap[w.heap.size]? = some (.cells #[.int .i64 0, .slice ta topics.length tc] 119)) := heap_new _ _ _ rfl
  have hb := block_lt h.blk
  clear h hw hts hnx hm
  cases htm : timeOk now with
  | false =>
    have HE : Hid (joinE g m topics now = 1) := joinE_bad (bad_time htm)
    rw [htm] at HT
    clear htm
    go_enter Tryz.func39, Tryz.ntmps39
    go_wp2_with fail
    refine (HT.out _).mono ?_
    rintro e w1 ⟨rfl, hk⟩
    have HK := Lib.hid (HK0.out.trans hk fun _ _ e => e)
    clear hk
    go_wp2
    go_ret2
    exact JoinPost.err HE.out (by decide) (HSELF.out _ HK.out)
  | true =>
    have hn := time_yes htm
    have HTM := Lib.hid htm
    rw [htm] at HT
    clear htm
    by_cases hlo : m < -1
    · have HE : Hid (joinE g m topics now = 1) := joinE_bad (bad_low hlo)
      go_enter Tryz.func39, Tryz.ntmps39
      go_wp2_with fail
      refine (HT.out _).mono ?_
      rintro e w1 ⟨rfl, hk⟩
      have HK := Lib.hid (HK0.out.trans hk fun _ _ e => e)
      clear hk
      go_wp2
      go_ret2
      exact JoinPost.err HE.out (by decide) (HSELF.out _ HK.out)
    · rcases chk_cases [⟨0, topics⟩] [] with hc | hc
      · have HNB := Lib.hid (not_bad HTM.out hlo hc)
        have htl := few_topics hc
        rw [hc] at HCK
        clear hc
        go_enter Tryz.func39, Tryz.ntmps39
        go_wp2_with fail
        refine (HT.out _).mono ?_
        rintro e w1 ⟨rfl, hk⟩
        have c0 : w1.cell? ⟨w.heap.size, 0, none⟩ = some (.int .i64 0) := hk.cell' (block_cell HC0.out 0) (fun e => e)
        have c1 : w1.cell? ⟨w.heap.size, 1, none⟩ = some (.slice ta topics.length tc) := hk.cell' (block_cell HC0.out 1) (fun e => e)
        have hs1 := cell_block1 c0
        have HK := Lib.hid (HK0.out.trans hk fun _ _ e => e)
        have HB1 : Hid ((w1.alloc (.cells #[.int .i64 0, .slice ta topics.length tc] 119)).heap[w1.heap.size]? = some (.cells #[.int .i64 0, .slice ta topics.length tc] 119)) := heap_new _ _ _ rfl
        clear hk
        go_wp2_with fail
        refine (HCK.out _ _ (HK.out.alloc _) HB1.out).mono ?_
        rintro e w2 ⟨rfl, hk2⟩
        have HK2 := Lib.hid ((HK.out.alloc (.cells #[.int .i64 0, .slice ta topics.length tc] 119)).trans hk2 fun _ _ e => e)
        clear hk2 c0 c1 hs1 HB1 HC0 HK0 HCK HT
        have hb2 := Nat.lt_of_lt_of_le hb HK2.out.size
        clear hb
        go_upto_region 4 with fail
        go_cut [32] (fun q wq => q = .bool (!(m == -1) && !hasM g m) ∧ K0 w wq)
        case first =>
          by_cases h1 : m = -1
          · subst h1
            go_wp2
            go_meet
            case rel => exact ⟨by simp, HK2.out⟩
          · have h1' : (m != -1) = true := by simpa using h1
            have hg2 := HH.out.keep HK2.out fun _ _ e => e
            have HF := Lib.hid (find_any _ F b g _ L m hg2 (hg2.rise HW.out) HMM.out (by omega))
            have H1 := Lib.hid h1
            clear h1 hg2
            go_wp2_with fail
            refine HF.out.mono ?_
            rintro e w3 ⟨hk3, ⟨i, hi, r, cap, e1, e2, rfl⟩ | ⟨e1, rfl⟩⟩
            · have HS := Lib.hid (HH.out.has hi e1)
              have HK3 := Lib.hid (K0.tr HK2.out hk3)
              clear hk3 e1 e2
              go_wp2
              go_meet
              case rel => exact ⟨by rw [HS.out]; simp, HK3.out⟩
            · have HS := Lib.hid (HH.out.hasnt e1)
              have HK3 := Lib.hid (K0.tr HK2.out hk3)
              clear hk3 e1
              go_wp2
              go_meet
              case rel => exact ⟨by rw [HS.out]; simp [H1.out], HK3.out⟩
        case rest =>
          obtain ⟨wd, rfl⟩ : ∃ wd : World, wd = wc := ⟨_, rfl⟩
          obtain ⟨rfl, hk3⟩ := hcut
          have HK3 := Lib.hid hk3
          clear hk3 HK2
          have hb3 := Nat.lt_of_lt_of_le (block_lt HH.out.blk) HK3.out.size
          cases hq : (!(m == -1) && !hasM g m) with
          | true =>
            have HE : Hid (joinE g m topics now = 11) := by show _ = _; unfold joinE; rw [if_neg (by rw [HNB.out]; simp), if_pos hq]
            clear hq
            go_wp2
            go_ret2
            exact JoinPost.err HE.out (by decide) (HSELF.out _ HK3.out)
          | false =>
            have HQ := Lib.hid hq
            clear hq
            have hx6 : wd.cell? ⟨b, 6, none⟩ = some (.slice a0 L.length cap0) := block_cell (HH.out.keep HK3.out fun _ _ e => e).blk 6
            have HLN := Lib.hid HH.out.glen
            go_upto_region 6 with fail
            go_cut [41] (fun q wq => q = .bool (m == -1 && decide (20 ≤ g.ones.length)) ∧ wq = wd)
            case first =>
              by_cases h1 : m = -1
              · subst h1
                by_cases h20 : 20 ≤ L.length
                · have h20' : (20 : Int) ≤ L.length := by omega
                  have HE : Hid (decide (20 ≤ L.length) = true) := by simpa [Hid] using h20
                  clear h20
                  go_wp2
                  go_meet
                  case rel => exact ⟨by rw [HLN.out, HE.out]; simp, rfl⟩
                · have h20' : ¬ (20 : Int) ≤ L.length := by omega
                  have HE : Hid (decide (20 ≤ L.length) = false) := by simpa [Hid] using h20
                  clear h20
                  go_wp2
                  go_meet
                  case rel => exact ⟨by rw [HLN.out, HE.out]; simp, rfl⟩
              · have h1' : (m == -1) = false := by simpa using h1
                have H1 := Lib.hid h1'
                clear h1
                go_wp2
                go_meet
                case rel => exact ⟨by rw [H1.out]; simp, rfl⟩
            case rest =>
              obtain ⟨rfl, e2⟩ := hcut
              subst e2
              cases hq2 : (m == -1 && decide (20 ≤ g.ones.length)) with
              | true =>
                have HE : Hid (joinE g m topics now = 5) := by show _ = _; unfold joinE; rw [if_neg (by rw [HNB.out]; simp), if_neg (by rw [HQ.out]; simp), if_pos hq2]
                clear hq2
                go_wp2
                go_ret2
                exact JoinPost.err HE.out (by decide) (HSELF.out _ HK3.out)
              | false =>
                have HE : Hid (joinE g m topics now = 0) := by show _ = _; unfold joinE; rw [if_neg (by rw [HNB.out]; simp), if_neg (by rw [HQ.out]; simp), if_neg (by rw [hq2]; simp)]
                have HQ2 := Lib.hid hq2
                clear hq2
                obtain ⟨we, rfl⟩ : ∃ we : World, we = wc := ⟨_, rfl⟩
                go_upto_if 54 with fail
                go_cut [1] (fun mv wq => mv = .int .i64 (nextM g m) ∧ GrpPost w F b (addG g m) wq)
                case first =>
                  by_cases h1 : m = -1
                  · subst h1
                    have hgd := HH.out.keep HK3.out fun _ _ e => e
                    have hx4 : we.cell? ⟨b, 4, none⟩ = some (.int .i64 g.next) := block_cell hgd.blk 4
                    have hf4 := block_free hgd.blk 4
                    have hvb : (Value.slice a0 L.length cap0).ownBlock ≠ some b := fun e => (hgd.own b e).2 rfl
                    have hown1 : (we.setCell ⟨b, 4, none⟩ (.int .i64 (g.next + 1))).ownsRow 0 94 5 (.slice a0 L.length cap0) L.length (L.flatMap oneEnc) := own_keep ((Keeps.refl (fun k => k = b) we).setC 4 _ (fun _ => rfl)) hgd.row (fun k e => (hgd.own k e).2)
                    have HAD := Lib.hid (fun (o : Obj) (g1 cap1 : Nat) (w1 : World) (hA : App1 ((we.setCell ⟨b, 4, none⟩ (.int .i64 (g.next + 1))).alloc o) 0 94 5 (.slice a0 L.length cap0) L.length (L.flatMap oneEnc ++ [.int .i64 g.next, .slice none 0 0, .int .i64 0, .bool false, .slice none 0 0]) g1 cap1 w1) => hgd.add hA)
                    have HA1 : Hid (∀ (o : Obj) (xs' : List Value) (g1 cap1 : Nat) (w1 : World), App1 ((we.setCell ⟨b, 4, none⟩ (.int .i64 (g.next + 1))).alloc o) 0 94 5 (.slice a0 L.length cap0) L.length xs' g1 cap1 w1 → w1.cell? ⟨b, 6, none⟩ = some (.slice a0 L.length cap0) ∧ w1.frozen? ⟨b, 6, none⟩ = false) := by
                      intro o xs' g1 cap1 w1 hA
                      have e := hA.far (block_alloc (setCell_block hgd.blk 4 (.int .i64 (g.next + 1))) o) hvb
                      exact ⟨block_cell e 6, block_free e 6⟩
                    have hnx := HNX.out
                    have hnx0 := HW.out.next.1
                    clear hgd hvb
                    generalize hxs : L.flatMap oneEnc = xs at hown1 HAD
                    generalize hnn : g.next = nx at hx4 hown1 HAD HA1 hnx hnx0
                    have HNN := Lib.hid hnn
                    clear hxs hnn
                    go_wp2_with (at_builtin; refine wpList_app1 rfl rfl Tryz.underlying55 infoOne rfl (by decide) rfl (hown1.alloc _) rfl (heap_new _ _ _ (by simp)) rfl rfl ⟨by omega, by decide⟩ (Nat.zero_le _) ?_; intro g1 cap1 w4 hA; obtain ⟨q1, q2⟩ := HA1.out _ _ _ _ _ hA; have q3 := cell_block1 q1; have HA := Lib.hid hA)
                    go_meet
                    case rel => exact ⟨by rw [← HNN.out]; rfl, GrpPost.trans (fun k e => .inl e) (HK3.out.mono fun _ _ e => e.elim) (HAD.out _ _ _ _ HA.out)⟩
                  · have h1' : (m == -1) = false := by simpa using h1
                    have H1 := Lib.hid h1
                    clear h1
                    go_wp2
                    go_meet
                    case rel => exact ⟨by unfold nextM; rw [if_neg H1.out], by unfold addG; rw [if_neg H1.out]; exact HSELF.out _ HK3.out⟩
                case rest =>
                  obtain ⟨wf, rfl⟩ : ∃ wf : World, wf = wc := ⟨_, rfl⟩
                  obtain ⟨rfl, F1, ⟨v1, L1, hg1⟩, hF1, hk1⟩ := hcut
                  have hl20 : m = -1 → g.ones.length < 20 := fun e => by
                    have h7 := HQ2.out
                    subst e
                    simpa using h7
                  have hhas : hasM (addG g m) (nextM g m) = true := has_add (by
                    have h7 := HQ.out
                    by_cases e : m = -1
                    · exact .inl e
                    · right
                      have e2 : (m == -1) = false := by simpa using e
                      rw [e2] at h7
                      simpa using h7)
                  have HPRE := Lib.hid (tail_pre HW.out hl20 HNX.out hhas HMM.out (now := now))
                  have HP1 : Hid (∀ g2 wz, GrpPost wf F1 b g2 wz → GrpPost w F b g2 wz) := fun g2 wz hq => GrpPost.trans hF1 hk1 hq
                  have HTV := Lib.hid (HOUT.out.keep still_str hk1 (G' := fun k => ¬ F1 k) (fun k _ e => e) (fun k hk e e2 => (hF1 k e2).elim e (fun e3 => by omega)))
                  have HJ : Hid (∀ wz, GrpPost w F b (finG (setG (startG (addG g m) now) (nextM g m) topics (now + g.session)) now) wz → JoinPost w F b g m topics now (.returned (.tuple #[.int .i64 (nextM g m), .int .i64 0])) wz) := fun wz hq => by
                    unfold JoinPost
                    rw [HE.out, if_pos rfl, if_pos rfl]
                    exact ⟨rfl, hq⟩
                  clear hl20 hhas hF1 hk1 HQ HQ2 hx6
                  have HPP := Lib.hid HPRE.out.1
                  have HWA := Lib.hid HPRE.out.2.1
                  generalize nextM g m = m' at *
                  generalize addG g m = g1 at *
                  have hl1 : L1.length ≤ 20 := by rw [← hg1.glen]; exact HWA.out.len
                  have hx2 : wf.cell? ⟨b, 2, none⟩ = some (.int .i64 g1.phase) := block_cell hg1.blk 2
                  have hbf := block_lt hg1.blk
                  have HAN := Lib.hid (anew_any wf F1 b g1 v1 L1 now hg1 (by omega) hn ⟨by have := HWA.out.reb; omega, HWA.out.reb.2⟩)
                  have HG1 := Lib.hid hg1
                  clear hg1
                  go_upto_if 87 with fail
                  go_cut [] (fun wq => GrpPost wf F1 b (startG g1 now) wq)
                  case first =>
                    by_cases hp : g1.phase = 1
                    · have HST : Hid (startG g1 now = g1) := if_pos hp
                      rw [hp] at hx2
                      go_wp2
                      go_meet
                      case rel => rw [HST.out]; exact ⟨F1, ⟨v1, L1, HG1.out⟩, fun k e => .inl e, Keeps.refl _ _⟩
                    · have HST : Hid (startG g1 now = anewG g1 now) := if_neg hp
                      have hp' : (g1.phase != 1) = true := by simpa using hp
                      clear hp
                      generalize g1.phase = ph at hx2 hp'
                      go_wp2_with fail
                      refine HAN.out.mono ?_
                      rintro e wg ⟨rfl, hq⟩
                      have HQQ := Lib.hid hq
                      clear hq
                      go_wp2
                      go_meet
                      case rel => rw [HST.out]; exact HQQ.out
                  case rest =>
                    obtain ⟨wg, rfl⟩ : ∃ wg : World, wg = wc := ⟨_, rfl⟩
                    obtain ⟨F2, ⟨v2, L2, hg2⟩, hF2, hk2⟩ := hcut
                    have HP2 : Hid (∀ g2 wz, GrpPost wg F2 b g2 wz → GrpPost w F b g2 wz) := fun g2 wz hq => HP1.out _ _ (GrpPost.trans hF2 hk2 hq)
                    have HTV2 := Lib.hid (HTV.out.keep still_str hk2 (G' := fun k => ¬ F2 k) (fun k _ e => e) (fun k hk e e2 => (hF2 k e2).elim e (fun e3 => by omega)))
                    have HW2 := Lib.hid HPRE.out.2.2.1
                    have HHA := Lib.hid HPRE.out.2.2.2.1
                    have HSE := Lib.hid HPRE.out.2.2.2.2
                    clear hF2 hk2 HAN HP1 HTV hx2 hbf
                    generalize startG g1 now = g2 at *
                    have hl2 : L2.length ≤ 20 := by rw [← hg2.glen]; exact HW2.out.len
                    have HF := Lib.hid (find_any wg F2 b g2 v2 L2 m' hg2 (hg2.rise HW2.out) HPP.out (by omega))
                    have HG2 := Lib.hid hg2
                    clear hg2
                    go_wp2_with fail
                    refine HF.out.mono ?_
                    rintro e wh ⟨hk3, ⟨i, hi, r, cap, e1, rfl, rfl⟩ | ⟨e1, rfl⟩⟩
                    case inr => exact absurd HHA.out (by rw [HG2.out.hasnt e1]; simp)
                    have hg3 := HG2.out.keep hk3 fun _ _ e => e
                    have HP3 : Hid (∀ g2 wz, GrpPost wh F2 b g2 wz → GrpPost w F b g2 wz) := fun g2 wz hq => HP2.out _ _ (GrpPost.trans (fun k e => .inl e) (hk3.mono fun _ _ e => e.elim) hq)
                    have HTV3 := Lib.hid (HTV2.out.keep still_str hk3 (G' := fun k => ¬ F2 k) (fun _ _ _ e => e) (fun _ _ e => e))
                    have HSET := Lib.hid (fun (w5 : World) (tv' : Value) (hk : K0 wh w5) (ho : Out 1 rStr w5 (fun k => wh.heap.size ≤ k) tv' topics) => hg3.setOne (hg3.rise HW2.out) hi e1 (t := now + g2.session) hk ho)
                    have HCL := Lib.hid (fun (wz : World) (hk : K0 wh wz) => clone_str wz (fun k => ¬ F2 k) (.slice ta topics.length tc) topics (HTV3.out.keep still_str hk (fun _ _ _ e => e) (fun _ _ e => e)) htl)
                    have cs : wh.cell? ⟨b, 0, none⟩ = some (.int .i64 g2.session) := block_cell hg3.blk 0
                    obtain ⟨_, c1, c2, c3, _⟩ := hg3.cell rfl i hi
                    have f1 := hg3.row.frozenAt (i * 5 + 1)
                    have f2 := hg3.row.frozenAt (i * 5 + 2)
                    have f3 := hg3.row.frozenAt (i * 5 + 3)
                    have hbh := block_lt hg3.blk
                    have hrh : r < wh.heap.size := own_lt hg3.row rfl
                    have hss := HW2.out.ses
                    have HCE : Hid (∀ wz, K0 wh wz → (∃ u, wz.cell? ⟨r, i * 5 + 1, none⟩ = some u) ∧ (∃ u, wz.cell? ⟨r, i * 5 + 2, none⟩ = some u) ∧ (∃ u, wz.cell? ⟨r, i * 5 + 3, none⟩ = some u) ∧ wz.frozen? ⟨r, i * 5 + 1, none⟩ = false ∧ wz.frozen? ⟨r, i * 5 + 2, none⟩ = false ∧ wz.frozen? ⟨r, i * 5 + 3, none⟩ = false ∧ wz.cell? ⟨b, 0, none⟩ = some (.int .i64 g2.session) ∧ r < wz.heap.size) := fun wz hk =>
                      ⟨⟨_, hk.cell' c1 (fun e => e)⟩, ⟨_, hk.cell' c2 (fun e => e)⟩, ⟨_, hk.cell' c3 (fun e => e)⟩, frozen_keep hk c1 f1, frozen_keep hk c2 f2, frozen_keep hk c3 f3, hk.cell' cs (fun e => e), Nat.lt_of_lt_of_le hrh hk.size⟩
                    have hbr : b ≠ r := fun e => (hg3.own r rfl).2 e.symm
                    have hrb : r ≠ b := (hg3.own r rfl).2
                    clear hg3 hk3 e1 HF
                    generalize L2[i].tv = x1 at c1
                    generalize L2[i].til = x2 at c2
                    generalize L2[i].joined = x3 at c3
                    generalize hse : g2.session = se at cs HSET hss HCE
                    have HSE2 := Lib.hid hse
                    clear hse
                    go_upto_region 15 with fail
                    go_cut [] (fun wz => GrpPost wh F2 b (setG g2 m' topics (now + se)) wz)
                    case first =>
                      have hkk : Keeps (fun _ => False) wh wh.drew := (Keeps.refl _ _).drew
                      go_region_with (first | (go_at_call 66; refine (HCL.out _ hkk).mono ?_; intro e w' hq'; obtain ⟨va, vc, rfl, ho, hk'⟩ := hq'.sl; obtain ⟨⟨u1, y1⟩, ⟨u2, y2⟩, ⟨u3, y3⟩, z1, z2, z3, y0, yr⟩ := HCE.out _ (K0.tr hkk hk'); clear hq'))
                      all_goals (go_wp2; go_meet; case rel => (rw [show IntKind.i64.wrap (now + se) = now + se from IntWalk.i64_in _ (by omega)]; exact HSET.out _ _ (K0.tr hkk (by assumption)) (by assumption)))
                    case rest =>
                      obtain ⟨wi, rfl⟩ : ∃ wi : World, wi = wc := ⟨_, rfl⟩
                      obtain ⟨F3, ⟨v3, L3, hg4⟩, hF3, hk4⟩ := hcut
                      have HP4 : Hid (∀ g2 wz, GrpPost wi F3 b g2 wz → GrpPost w F b g2 wz) := fun g2 wz hq => HP3.out _ _ (GrpPost.trans hF3 hk4 hq)
                      have hss2 : g.session = se := by rw [← HSE.out, HSE2.out]
                      rw [hss2] at HJ
                      have hglen : (setG g2 m' topics (now + se)).ones.length = g2.ones.length := by simp [setG]
                      have hgreb : (setG g2 m' topics (now + se)).rebalance = g2.rebalance := rfl
                      have hggen : (setG g2 m' topics (now + se)).gen = g2.gen := rfl
                      clear hss2 HCE cs c1 c2 c3 f1 f2 f3 HSET HCL HP3 HP2 hF3 hk4 hbh hrh hbr hrb
                      generalize setG g2 m' topics (now + se) = g3 at *
                      have hl3 : L3.length ≤ 20 := by rw [← hg4.glen, hglen]; exact HW2.out.len
                      have HC := Lib.hid (complete_any wi F3 b g3 v3 L3 hg4 (by omega))
                      have HCL := Lib.hid (fun (wx : World) (hk : K0 wi wx) => close_any wx F3 b g3 v3 L3 now (hg4.keep hk fun _ _ e => e) (by omega) hn (by rw [hgreb]; exact ⟨by have := HW2.out.reb; omega, HW2.out.reb.2⟩) (by rw [hggen]; exact HW2.out.gen))
                      have HG4 := Lib.hid hg4
                      clear hg4 hglen hgreb hggen
                      cases hal : g3.ones.all (·.joined) with
                      | true =>
                        have HFIN : Hid (finG g3 now = closeG g3 now) := if_pos hal
                        rw [hal] at HC
                        clear hal
                        go_wp2_with fail
                        refine HC.out.mono ?_
                        rintro e wj ⟨rfl, hk5⟩
                        have HK5 := Lib.hid hk5
                        go_wp2_with fail
                        refine (HCL.out _ hk5).mono ?_
                        rintro e wk ⟨rfl, hq⟩
                        have HQ5 := Lib.hid (HP4.out _ _ (GrpPost.trans (fun k e => .inl e) (HK5.out.mono fun _ _ e => e.elim) hq))
                        clear hq hk5
                        go_wp2
                        go_ret2
                        exact HJ.out _ (by rw [HFIN.out]; exact HQ5.out)
                      | false =>
                        have HFIN : Hid (finG g3 now = g3) := if_neg (by rw [hal]; simp)
                        rw [hal] at HC
                        clear hal
                        go_wp2_with fail
                        refine HC.out.mono ?_
                        rintro e wj ⟨rfl, hk5⟩
                        have HQ5 := Lib.hid (HP4.out _ _ ⟨F3, ⟨v3, L3, HG4.out.keep hk5 fun _ _ e => e⟩, fun k e => .inl e, hk5.mono fun _ _ e => e.elim⟩)
                        clear hk5
                        go_wp2
                        go_ret2
                        exact HJ.out _ (by rw [HFIN.out]; exact HQ5.out)
      · have HE : Hid (joinE g m topics now = 1) := joinE_bad (bad_check hc)
        rw [hc] at HCK
        clear hc
        go_enter Tryz.func39, Tryz.ntmps39
        go_wp2_with fail
        refine (HT.out _).mono ?_
        rintro e w1 ⟨rfl, hk⟩
        have c0 : w1.cell? ⟨w.heap.size, 0, none⟩ = some (.int .i64 0) := hk.cell' (block_cell HC0.out 0) (fun e => e)
        have c1 : w1.cell? ⟨w.heap.size, 1, none⟩ = some (.slice ta topics.length tc) := hk.cell' (block_cell HC0.out 1) (fun e => e)
        have hs1 := cell_block1 c0
        have HK := Lib.hid (HK0.out.trans hk fun _ _ e => e)
        have HB1 : Hid ((w1.alloc (.cells #[.int .i64 0, .slice ta topics.length tc] 119)).heap[w1.heap.size]? = some (.cells #[.int .i64 0, .slice ta topics.length tc] 119)) := heap_new _ _ _ rfl
        clear hk
        go_wp2_with fail
        refine (HCK.out _ _ (HK.out.alloc _) HB1.out).mono ?_
        rintro e w2 ⟨rfl, hk2⟩
        have HK2 := Lib.hid ((HK.out.alloc (.cells #[.int .i64 0, .slice ta topics.length tc] 119)).trans hk2 fun _ _ e => e)
        clear hk2 c0 c1
        go_wp2
        go_ret2
        exact JoinPost.err HE.out (by decide) (HSELF.out _ HK2.out)
end Go.Proofs.YtklhlffdpojkoaaGreat
