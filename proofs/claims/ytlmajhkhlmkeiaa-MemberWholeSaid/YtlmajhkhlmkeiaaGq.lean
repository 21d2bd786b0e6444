/-
  The tick: the walk.
-/
import Derived.Test.YtlmajhkhlmkeiaaGp
namespace Go.Proofs.Ytlmajhkhlmkeiaa
open Go.RowKit Go.Shelf Fx

theorem leader_of {g : GroupC} {L : List OneV} (h : L.map OneV.core = g.ones) (hp : 0 < L.length) : leaderOf g = L[0].member := by
  unfold leaderOf
  rw [← h]
  cases L with
  | nil => exact absurd hp (Nat.lt_irrefl _)
  | cons x l => rfl
theorem enters_tick1 : ∀ args w, (callFunc 32 args).run Try.prog w = .ok (.enter 32 args) w :=
  enters_of Try.func32 (by kernel_rfl) rfl
theorem enters_tick2 : ∀ args w, (callFunc 33 args).run Try.prog w = .ok (.enter 33 args) w :=
  enters_of Try.func33 (by kernel_rfl) rfl
set_option maxHeartbeats 400000 in
theorem tests_tick1 {w : World} {bm : Nat} {m : Int} (hc : w.cell? ⟨bm, 0, none⟩ = some (.int .i64 m)) : Tests 32 #[.pointer (some ⟨bm, 0, none⟩)] (fun x => decide (x.til ≤ m)) w := by
  intro x
  have hb := cell_block1 hc
  obtain ⟨a, t, u, j, p, _, _⟩ := x
  go_enter Try.func32, Try.ntmps32
  go_wp2
  go_ret
  exact ⟨rfl, (Keeps.refl _ _).alloc _⟩
set_option maxHeartbeats 400000 in
theorem tests_tick2 {w : World} {bm : Nat} {m : Int} (hc : w.cell? ⟨bm, 0, none⟩ = some (.int .i64 m)) : Tests 33 #[.pointer (some ⟨bm, 0, none⟩)] (fun x => x.member == m) w := by
  intro x
  have hb := cell_block1 hc
  obtain ⟨a, t, u, j, p, _, _⟩ := x
  go_enter Try.func33, Try.ntmps33
  go_wp2
  go_ret
  exact ⟨rfl, (Keeps.refl _ _).alloc _⟩
set_option maxRecDepth 100000 in
set_option maxHeartbeats 4000000 in
theorem tick_any (w : World) (F : Nat → Prop) (b : Nat) (g : GroupC) (now : Int) (h : Grp w F b g) (hw : WfG g) (he : EmpG g) (hg : g.gen + 2 ≤ 1152921504606846976) :
    Calls Try.prog 14 #[.pointer (some ⟨b, 0, none⟩), .int .i64 now] w fun e w' => e = .returned (.tuple #[]) ∧ GrpPost w F b (tickG g now) w' := by
  obtain ⟨v, L, h⟩ := h
  have hlen : L.length ≤ 20 := by rw [← h.glen]; exact hw.len
  have HT := Lib.hid (isTime_any now)
  have HD := Lib.hid (fun (wx : World) (hk : K0 w wx) (hn : 0 ≤ now ∧ now ≤ 1099511627776) (hc : wx.cell? ⟨w.heap.size, 0, none⟩ = some (.int .i64 now)) => drop_any wx F b g v L now 32 #[.pointer (some ⟨w.heap.size, 0, none⟩)] (fun x => decide (x.til ≤ now)) (fun o => decide (o.til ≤ now)) (h.keep hk fun _ _ e => e) (by omega) hn ⟨by have := hw.reb; omega, hw.reb.2⟩ hw.gen enters_tick1
    (fun w1 hk1 => tests_tick1 (hk1.cell' hc (fun e => by have := (h.row.lt _ e).2; exact Nat.lt_irrefl _ this))) (fun _ => rfl))
  have HW1 := Lib.hid (hw.drop now (fun o => decide (o.til ≤ now)) (by omega))
  have HE1 := Lib.hid (he.drop now (fun o => decide (o.til ≤ now)))
  have HFL : Hid (¬ F w.heap.size) := fun e => Nat.lt_irrefl _ (h.lt _ e)
  have HH := Lib.hid h
  have HQ : Hid (timeOk now = true → tickG g now = if now < (dropG g now fun o => decide (o.til ≤ now)).til then dropG g now fun o => decide (o.til ≤ now)
    else if (dropG g now fun o => decide (o.til ≤ now)).phase = 1 then closeG (dropG g now fun o => decide (o.til ≤ now)) now
    else if (dropG g now fun o => decide (o.til ≤ now)).phase = 2 then dropG (dropG g now fun o => decide (o.til ≤ now)) now fun o => o.member == leaderOf (dropG g now fun o => decide (o.til ≤ now))
    else dropG g now fun o => decide (o.til ≤ now)) := fun e => if_pos e
  have hgen := (dropG_head g now (fun o => decide (o.til ≤ now))).2.2.2
  have HGN : Hid ((dropG g now fun o => decide (o.til ≤ now)).gen + 1 ≤ 1152921504606846976) := by show _ ≤ _; omega
  clear h hw he hgen
  cases ht : timeOk now with
  | false =>
    have HG : Hid (tickG g now = g) := if_neg (by rw [ht]; simp)
    rw [ht] at HT
    clear ht HQ
    go_enter Try.func14, Try.ntmps14
    go_wp2_with fail
    refine (HT.out _).mono ?_
    rintro e w1 ⟨rfl, hk⟩
    have HK := Lib.hid (((Keeps.refl (fun _ => False) w).alloc (.cells #[.int .i64 now] 3)).trans hk fun _ _ e => e)
    clear hk
    go_wp2
    (try simp only [Exit.inBlock, Exit.then])
    refine bodyPost_ret (results_none rfl _ _ _) rfl ?_
    rw [HG.out]
    exact ⟨rfl, F, ⟨v, L, HH.out.keep HK.out fun _ _ e => e⟩, fun k e => .inl e, HK.out.mono fun _ _ e => e.elim⟩
  | true =>
    have hn := time_yes ht
    have HQ := Lib.hid (HQ.out ht)
    rw [ht] at HT
    clear ht
    generalize (dropG g now fun o => decide (o.til ≤ now)) = g1 at *
    go_enter Try.func14, Try.ntmps14
    go_wp2_with fail
    refine (HT.out _).mono ?_
    rintro e w1 ⟨rfl, hk⟩
    have hc1 : w1.cell? ⟨w.heap.size, 0, none⟩ = some (.int .i64 now) := hk.cell' (block_cell (heap_new w (.cells #[.int .i64 now] 3) _ rfl) 0) (fun e => e)
    have HC1 := Lib.hid hc1
    have HK := Lib.hid (((Keeps.refl (fun _ => False) w).alloc (.cells #[.int .i64 now] 3)).trans hk fun _ _ e => e)
    have hs1 := cell_block1 hc1
    clear hk
    go_wp2_with fail
    refine (HD.out _ HK.out hn HC1.out).mono ?_
    rintro e w2 ⟨rfl, F1, ⟨v1, L1, hg1⟩, hF1, hk1⟩
    have hc2 : w2.cell? ⟨w.heap.size, 0, none⟩ = some (.int .i64 now) := hk1.cell' HC1.out HFL.out
    have hs2 := cell_block1 hc2
    have HP1 : Hid (∀ g2 wz, GrpPost w2 F1 b g2 wz → GrpPost w F b g2 wz) := fun g2 wz hq => GrpPost.trans (fun k e => .inl e) (HK.out.mono fun _ _ e => e.elim) (GrpPost.trans hF1 hk1 hq)
    have HSELF : Hid (∀ wz, K0 w2 wz → GrpPost w F b g1 wz) := fun wz hk => HP1.out _ _ ⟨F1, ⟨v1, L1, hg1.keep hk fun _ _ e => e⟩, fun k e => .inl e, hk.mono fun _ _ e => e.elim⟩
    have c5 : w2.cell? ⟨b, 5, none⟩ = some (.int .i64 g1.til) := block_cell hg1.blk 5
    have c2 : w2.cell? ⟨b, 2, none⟩ = some (.int .i64 g1.phase) := block_cell hg1.blk 2
    have hb2 := block_lt hg1.blk
    have hl1 : L1.length ≤ 20 := by rw [← hg1.glen]; exact HW1.out.len
    have HG1 := Lib.hid hg1
    clear hc1 hs1 hF1 hk1 hg1 HD HT
    by_cases h5 : now < g1.til
    · have HR : Hid (tickG g now = g1) := HQ.out.trans (if_pos h5)
      generalize g1.til = tl at c5 h5
      go_wp2
      go_quiet (fail)
      go_wp2
      (try simp only [Exit.inBlock, Exit.then])
      refine bodyPost_ret (results_none rfl _ _ _) rfl ?_
      rw [HR.out]
      exact ⟨rfl, HSELF.out _ ((Keeps.refl _ _).drewN _)⟩
    · have HQ := Lib.hid (HQ.out.trans (if_neg h5))
      have HCL := Lib.hid (fun (wx : World) (hk : K0 w2 wx) => close_any wx F1 b g1 v1 L1 now (HG1.out.keep hk fun _ _ e => e) (by omega) hn ⟨by have := HW1.out.reb; omega, HW1.out.reb.2⟩ HW1.out.gen)
      generalize g1.til = tl at c5 h5
      by_cases hp1 : g1.phase = 1
      · have HR : Hid (tickG g now = closeG g1 now) := HQ.out.trans (if_pos hp1)
        rw [hp1] at c2
        clear hp1 HQ
        go_wp2
        go_quiet (fail)
        go_wp2_with fail
        refine (HCL.out _ ((Keeps.refl _ _).drewN _)).mono ?_
        rintro e w3 ⟨rfl, hq⟩
        have HQQ := Lib.hid (HP1.out _ _ (GrpPost.trans (fun k e => .inl e) ((Keeps.refl _ _).drewN _) hq))
        clear hq
        (try go_wp2)
        go_end0
        rw [HR.out]
        exact ⟨rfl, HQQ.out⟩
      · by_cases hp2 : g1.phase = 2
        · have HR : Hid (tickG g now = dropG g1 now fun o => o.member == leaderOf g1) := HQ.out.trans ((if_neg hp1).trans (if_pos hp2))
          have hne : L1.length ≠ 0 := fun e => by
            have := HE1.out (by rw [HG1.out.glen]; exact e)
            omega
          rw [hp2] at c2
          clear hp1 hp2 HQ HCL
          rcases HG1.out.form with ⟨h0, _⟩ | ⟨r, cap, rfl, hrb, hrl, _, hFr⟩
          · exact absurd (by rw [h0]; rfl) hne
          · have hpos : 0 < L1.length := by omega
            have c6 : w2.cell? ⟨b, 6, none⟩ = some (.slice (some ⟨r, 0, none⟩) L1.length cap) := block_cell HG1.out.blk 6
            obtain ⟨c0, _⟩ := HG1.out.cell rfl 0 hpos
            have HLD := Lib.hid (leader_of HG1.out.ones hpos)
            have c0 : w2.cell? ⟨r, 0, none⟩ = some (.int .i64 L1[0].member) := by simpa using c0
            generalize L1[0].member = ld at c0 HLD
            have i1 : (0 : Int) < L1.length := by omega
            have HD2 := Lib.hid (fun (wx : World) (hk : K0 w2 wx) (n : Nat) (hn2 : w2.heap.size ≤ n) (hc : wx.cell? ⟨n, 0, none⟩ = some (.int .i64 ld)) => drop_any wx F1 b g1 _ L1 now 33 #[.pointer (some ⟨n, 0, none⟩)] (fun x => x.member == ld) (fun o => o.member == ld) (HG1.out.keep hk fun _ _ e => e) (by omega) hn ⟨by have := HW1.out.reb; omega, HW1.out.reb.2⟩ HW1.out.gen enters_tick2
              (fun w1 hk1 => tests_tick2 (hk1.cell' hc (fun e => by have h9 : n < w2.heap.size := (HG1.out.row.lt n e).2; omega))) (fun _ => rfl))
            go_upto_region 3 with fail
            go_cut [22] (fun q wq => q = .bool false ∧ K0 w2 wq)
            case first =>
              go_quiet (fail)
              go_wp2
              go_meet
              case rel => exact ⟨by simp; omega, (Keeps.refl _ _).drewN _⟩
            case rest =>
              obtain ⟨wx, rfl⟩ : ∃ wx : World, wx = wc := ⟨_, rfl⟩
              obtain ⟨rfl, hkx⟩ := hcut
              have c0 := hkx.cell' c0 (fun e => e)
              have c2 := hkx.cell' c2 (fun e => e)
              have c6 := hkx.cell' c6 (fun e => e)
              have hc2 := hkx.cell' hc2 (fun e => e)
              have hb2 := Nat.lt_of_lt_of_le hb2 hkx.size
              have hs2 := Nat.lt_of_lt_of_le hs2 hkx.size
              have hrl := Nat.lt_of_lt_of_le hrl hkx.size
              have HKX := Lib.hid hkx
              clear hkx c5
              go_wp2_with fail
              refine (HD2.out _ (HKX.out.alloc _) _ HKX.out.size (block_cell (heap_new _ _ _ rfl) 0)).mono ?_
              rintro e w3 ⟨rfl, hq⟩
              have HQQ := Lib.hid (HP1.out _ _ (GrpPost.trans (fun k e => .inl e) ((HKX.out.alloc _).mono fun _ _ e => e.elim) hq))
              clear hq
              (try go_wp2)
              go_end0
              rw [HR.out, HLD.out]
              exact ⟨rfl, HQQ.out⟩
        · have HR : Hid (tickG g now = g1) := HQ.out.trans ((if_neg hp1).trans (if_neg hp2))
          have hp1' : (g1.phase == 1) = false := by simpa using hp1
          have hp2' : (g1.phase == 2) = false := by simpa using hp2
          clear hp1 hp2 HQ
          generalize g1.phase = ph at c2 hp1' hp2'
          go_wp2
          go_quiet (fail)
          go_wp2
          go_end0
          rw [HR.out]
          exact ⟨rfl, HSELF.out _ ((Keeps.refl _ _).drewN _)⟩
end Go.Proofs.Ytlmajhkhlmkeiaa
