/-
  A batch is added to a producer's ring.
-/
import Derived.Test.YtbjpifipjcfhkaaIa
import Derived.Deep.RegionWith
import Derived.Deep.DeepCutAuto
namespace Go.Proofs.Ytbjpifipjcfhkaa
open Go.RowKit Fx

theorem cells_put (H : HeardC) {j : Nat} (h : j < 5) (s : SentC) :
    (((hcells H).setIfInBounds (1 + j * 3) (.int .i64 s.seq)).setIfInBounds (1 + j * 3 + 1) (.int .i64 s.base)).setIfInBounds (1 + j * 3 + 2) (.int .i64 s.span) = hcells ⟨H.epoch, upd H.ring j s, H.first, H.count⟩ := by
  match j, h with
  | 0, _ => rfl
  | 1, _ => rfl
  | 2, _ => rfl
  | 3, _ => rfl
  | 4, _ => rfl
set_option maxRecDepth 100000 in
set_option maxHeartbeats 4000000 in
theorem add_small {w : World} {b : Nat} {H : HeardC} (h : HAt w b H) (ok : HOk H) (hc : H.count ≤ 4) (s : SentC) :
    Calls Try.prog 30 #[.pointer (some ⟨b, 0, none⟩), .agg #[.int .i64 s.seq, .int .i64 s.base, .int .i64 s.span]] w fun e w' => e = .returned (.tuple #[]) ∧ HAt w' b ⟨H.epoch, upd H.ring (slot H H.count) s, H.first, H.count + 1⟩ ∧ Keeps (fun k => k = b) w w' := by
  have hlt := block_lt h
  have hj := slot_lt H H.count
  obtain ⟨wb, hwb⟩ : ∃ wb, wb = w.alloc (.cells #[.int .i64 s.seq, .int .i64 s.base, .int .i64 s.span] 62) := ⟨_, rfl⟩
  have hB : HAt wb b H := by rw [hwb]; exact block_alloc h _
  have hS : wb.heap[w.heap.size]? = some (.cells #[.int .i64 s.seq, .int .i64 s.base, .int .i64 s.span] 62 (0, 0)) := by rw [hwb]; exact heap_new _ _ _ rfl
  have hk : Keeps (fun k => k = b) w wb := by rw [hwb]; exact (Keeps.refl _ _).alloc _
  have A := Lib.hid (at_any hB ok H.count (by omega))
  have c17 : wb.cell? ⟨b, 17, none⟩ = some (.int .i64 H.count) := block_cell hB 17
  have s0 : wb.cell? ⟨w.heap.size, 0, none⟩ = some (.int .i64 s.seq) := block_cell hS 0
  have s1 : wb.cell? ⟨w.heap.size, 1, none⟩ = some (.int .i64 s.base) := block_cell hS 1
  have s2 : wb.cell? ⟨w.heap.size, 2, none⟩ = some (.int .i64 s.span) := block_cell hS 2
  have ltS := block_lt hS
  have ltB := block_lt hB
  have HB := Lib.hid hB
  have HK := Lib.hid hk
  have HWB := Lib.hid hwb
  have hne : ¬ (H.count : Int) = 5 := by omega
  clear h hB hS hk
  go_enter Try.func30, Try.ntmps30
  subst hwb
  go_upto_region 4 with fail
  go_cut [] (fun wr => HAt wr b ⟨H.epoch, upd H.ring (slot H H.count) s, H.first, H.count⟩ ∧ Keeps (fun k => k = b) w wr)
  case first =>
    generalize hwb : w.alloc (.cells #[.int .i64 s.seq, .int .i64 s.base, .int .i64 s.span] 62) = wb at *
    have A := Lib.hid (at_any (w := wb.drew) HB.out ok H.count (by omega))
    have HK1 : Hid (Keeps (fun k => k = b) w wb.drew) := HK.out.drew
    have HB1 : Hid (HAt wb.drew b H) := HB.out
    have c17 : wb.drew.cell? ⟨b, 17, none⟩ = some (.int .i64 H.count) := c17
    have s0 : wb.drew.cell? ⟨w.heap.size, 0, none⟩ = some (.int .i64 s.seq) := s0
    have s1 : wb.drew.cell? ⟨w.heap.size, 1, none⟩ = some (.int .i64 s.base) := s1
    have s2 : wb.drew.cell? ⟨w.heap.size, 2, none⟩ = some (.int .i64 s.span) := s2
    have HC := Lib.hid (hcells_at H hj)
    have ltS : w.heap.size < wb.drew.heap.size := ltS
    have ltB : b < wb.drew.heap.size := ltB
    go_region_with (go_at_call 26; refine A.out.mono ?_; rintro e w1 ⟨rfl, k1⟩; have f0 := block_free ((k1.block _ (block_lt HB1.out) (fun e => e)).trans HB1.out) (1 + slot H H.count * 3); have f1 := block_free ((k1.block _ (block_lt HB1.out) (fun e => e)).trans HB1.out) (1 + slot H H.count * 3 + 1); have f2 := block_free ((k1.block _ (block_lt HB1.out) (fun e => e)).trans HB1.out) (1 + slot H H.count * 3 + 2); have hb1 := (k1.block _ (block_lt HB1.out) (fun e => e)).trans HB1.out; have d0 := (block_cell hb1 _).trans HC.out.1; have d1 := (block_cell hb1 _).trans HC.out.2.1; have d2 := (block_cell hb1 _).trans HC.out.2.2; clear hb1; have g0 := k1.cell' s0 (fun e => e); have g1 := k1.cell' s1 (fun e => e); have g2 := k1.cell' s2 (fun e => e); have l1 := Nat.lt_of_lt_of_le ltS k1.size; have l2 := Nat.lt_of_lt_of_le ltB k1.size)
    all_goals (go_wp2; go_meet; exact ⟨by have hq := setCell_block (setCell_block (setCell_block ((k1.block _ (block_lt HB1.out) (fun e => e)).trans HB1.out) (1 + slot H H.count * 3) (.int .i64 s.seq)) (1 + slot H H.count * 3 + 1) (.int .i64 s.base)) (1 + slot H H.count * 3 + 2) (.int .i64 s.span); rw [cells_put H hj s] at hq; exact hq, HK1.out.trans (((k1.mono (S1 := fun k => k = b) (fun _ _ e => e.elim)).setC _ _ (fun _ => rfl)).setC _ _ (fun _ => rfl) |>.setC _ _ (fun _ => rfl)) (fun _ _ e => e)⟩)
  case rest =>
    obtain ⟨h1, k1⟩ := hcut
    have c17 : wc.cell? ⟨b, 17, none⟩ = some (.int .i64 H.count) := block_cell h1 17
    have f17 := block_free h1 17
    have lt1 := block_lt h1
    have H1 := Lib.hid h1
    clear h1 s0 s1 s2 ltS ltB A HB HK
    go_wp2
    go_end0
    refine ⟨rfl, ?_, k1.setC _ _ (fun _ => rfl)⟩
    have h2 := setCell_block H1.out 17 (.int .i64 ((H.count : Int) + 1))
    exact h2
set_option maxRecDepth 100000 in
set_option maxHeartbeats 4000000 in
theorem add_full {w : World} {b : Nat} {H : HeardC} (h : HAt w b H) (ok : HOk H) (hc : H.count = 5) (s : SentC) :
    Calls Try.prog 30 #[.pointer (some ⟨b, 0, none⟩), .agg #[.int .i64 s.seq, .int .i64 s.base, .int .i64 s.span]] w fun e w' => e = .returned (.tuple #[]) ∧ HAt w' b ⟨H.epoch, upd H.ring (slot ⟨H.epoch, H.ring, (H.first + 1) % 5, 4⟩ 4) s, (H.first + 1) % 5, 5⟩ ∧ Keeps (fun k => k = b) w w' := by
  have hlt := block_lt h
  obtain ⟨H2, hH2⟩ : ∃ H2 : HeardC, H2 = ⟨H.epoch, H.ring, (H.first + 1) % 5, 4⟩ := ⟨_, rfl⟩
  have ok2 : HOk H2 := by rw [hH2]; exact ⟨Nat.mod_lt _ (by omega), by show 4 ≤ 5; omega⟩
  have hj := slot_lt H2 4
  have hf := ok.f
  obtain ⟨wb, hwb⟩ : ∃ wb, wb = w.alloc (.cells #[.int .i64 s.seq, .int .i64 s.base, .int .i64 s.span] 62) := ⟨_, rfl⟩
  have hB : HAt wb b H := by rw [hwb]; exact block_alloc h _
  have hS : wb.heap[w.heap.size]? = some (.cells #[.int .i64 s.seq, .int .i64 s.base, .int .i64 s.span] 62 (0, 0)) := by rw [hwb]; exact heap_new _ _ _ rfl
  have hk : Keeps (fun k => k = b) w wb := by rw [hwb]; exact (Keeps.refl _ _).alloc _
  have c16 : wb.cell? ⟨b, 16, none⟩ = some (.int .i64 H.first) := block_cell hB 16
  have c17 : wb.cell? ⟨b, 17, none⟩ = some (.int .i64 5) := (block_cell hB 17).trans (by show some (Value.int .i64 (H.count : Int)) = _; rw [hc]; rfl)
  have e16 : w.cell? ⟨b, 16, none⟩ = some (.int .i64 H.first) := block_cell h 16
  have e17 : w.cell? ⟨b, 17, none⟩ = some (.int .i64 5) := (block_cell h 17).trans (by show some (Value.int .i64 (H.count : Int)) = _; rw [hc]; rfl)
  have g16 := block_free h 16
  have g17 := block_free h 17
  have f16 := block_free hB 16
  have f17 := block_free hB 17
  have ltB := block_lt hB
  have ltS := block_lt hS
  have HB := Lib.hid hB
  have HK := Lib.hid hk
  have HS := Lib.hid hS
  have HH2 := Lib.hid hH2
  have HNE : Hid (w.heap.size ≠ b) := by show w.heap.size ≠ b; omega
  have HW := Lib.hid h
  clear h hB hS hk hH2
  go_enter Try.func30, Try.ntmps30
  subst hwb
  go_upto_region 4 with fail
  go_cut [] (fun wr => HAt wr b ⟨H.epoch, upd H.ring (slot H2 4) s, H2.first, 4⟩ ∧ Keeps (fun k => k = b) w wr)
  case first =>
    have hH : HAt w b H := HW.out
    have hx1 : HAt (((w.setCell ⟨b, 16, none⟩ (.int .i64 (((H.first : Int) + 1) % 5))).setCell ⟨b, 17, none⟩ (.int .i64 4)).alloc (.cells #[.int .i64 s.seq, .int .i64 s.base, .int .i64 s.span] 62)) b H2 := by
      rw [HH2.out]
      exact block_alloc (setCell_block (setCell_block hH 16 (.int .i64 (((H.first : Int) + 1) % 5))) 17 (.int .i64 4)) _
    have hx2 : (((w.setCell ⟨b, 16, none⟩ (.int .i64 (((H.first : Int) + 1) % 5))).setCell ⟨b, 17, none⟩ (.int .i64 4)).alloc (.cells #[.int .i64 s.seq, .int .i64 s.base, .int .i64 s.span] 62)).heap[w.heap.size]? = some (.cells #[.int .i64 s.seq, .int .i64 s.base, .int .i64 s.span] 62 (0, 0)) := heap_new _ _ _ (by simp)
    have hx3 : Keeps (fun k => k = b) w (((w.setCell ⟨b, 16, none⟩ (.int .i64 (((H.first : Int) + 1) % 5))).setCell ⟨b, 17, none⟩ (.int .i64 4)).alloc (.cells #[.int .i64 s.seq, .int .i64 s.base, .int .i64 s.span] 62)) := (((Keeps.refl (fun k => k = b) w).setC _ _ (fun _ => rfl)).setC _ _ (fun _ => rfl)).alloc _
    clear hH c16 c17 f16 f17 e16 e17 g16 g17 ltB ltS HB HK HS
    generalize ((w.setCell ⟨b, 16, none⟩ (.int .i64 (((H.first : Int) + 1) % 5))).setCell ⟨b, 17, none⟩ (.int .i64 4)).alloc (.cells #[.int .i64 s.seq, .int .i64 s.base, .int .i64 s.span] 62) = wx at *
    have A := Lib.hid (at_any (w := wx.drew) hx1 ok2 4 (by omega))
    have HK1 : Hid (Keeps (fun k => k = b) w wx.drew) := hx3.drew
    have HB1 : Hid (HAt wx.drew b H2) := hx1
    have c17 : wx.drew.cell? ⟨b, 17, none⟩ = some (.int .i64 4) := (block_cell hx1 17).trans (by rw [HH2.out]; rfl)
    have s0 : wx.drew.cell? ⟨w.heap.size, 0, none⟩ = some (.int .i64 s.seq) := block_cell hx2 0
    have s1 : wx.drew.cell? ⟨w.heap.size, 1, none⟩ = some (.int .i64 s.base) := block_cell hx2 1
    have s2 : wx.drew.cell? ⟨w.heap.size, 2, none⟩ = some (.int .i64 s.span) := block_cell hx2 2
    have HC := Lib.hid (hcells_at H2 hj)
    have ltS : w.heap.size < wx.drew.heap.size := block_lt hx2
    have ltB : b < wx.drew.heap.size := block_lt hx1
    have HP := Lib.hid (cells_put H2 hj s)
    have HE : Hid (H2.epoch = H.epoch ∧ H2.ring = H.ring ∧ H2.count = 4) := by show _ ∧ _; rw [HH2.out]; exact ⟨rfl, rfl, rfl⟩
    clear hx1 hx2 hx3
    go_region_with (go_at_call 26; refine A.out.mono ?_; rintro e w1 ⟨rfl, k1⟩; have f0 := block_free ((k1.block _ (block_lt HB1.out) (fun e => e)).trans HB1.out) (1 + slot H2 4 * 3); have f1 := block_free ((k1.block _ (block_lt HB1.out) (fun e => e)).trans HB1.out) (1 + slot H2 4 * 3 + 1); have f2 := block_free ((k1.block _ (block_lt HB1.out) (fun e => e)).trans HB1.out) (1 + slot H2 4 * 3 + 2); have hb1 := (k1.block _ (block_lt HB1.out) (fun e => e)).trans HB1.out; have d0 := (block_cell hb1 _).trans HC.out.1; have d1 := (block_cell hb1 _).trans HC.out.2.1; have d2 := (block_cell hb1 _).trans HC.out.2.2; clear hb1; have g0 := k1.cell' s0 (fun e => e); have g1 := k1.cell' s1 (fun e => e); have g2 := k1.cell' s2 (fun e => e); have l1 := Nat.lt_of_lt_of_le ltS k1.size; have l2 := Nat.lt_of_lt_of_le ltB k1.size)
    all_goals (go_wp2; go_meet; exact ⟨by have hq := setCell_block (setCell_block (setCell_block ((k1.block _ (block_lt HB1.out) (fun e => e)).trans HB1.out) (1 + slot H2 4 * 3) (.int .i64 s.seq)) (1 + slot H2 4 * 3 + 1) (.int .i64 s.base)) (1 + slot H2 4 * 3 + 2) (.int .i64 s.span); rw [HP.out, HE.out.1, HE.out.2.1, HE.out.2.2] at hq; exact hq, HK1.out.trans (((k1.mono (S1 := fun k => k = b) (fun _ _ e => e.elim)).setC _ _ (fun _ => rfl)).setC _ _ (fun _ => rfl) |>.setC _ _ (fun _ => rfl)) (fun _ _ e => e)⟩)
  case rest =>
    obtain ⟨h1, k1⟩ := hcut
    have c17 : wc.cell? ⟨b, 17, none⟩ = some (.int .i64 4) := block_cell h1 17
    have f17 := block_free h1 17
    have lt1 := block_lt h1
    have H1 := Lib.hid h1
    clear h1 c16 f16 ltS ltB HB HK e16 e17 g16 g17
    go_wp2
    go_end0
    have h2 := setCell_block H1.out 17 (.int .i64 5)
    refine ⟨rfl, ?_, k1.setC _ _ (fun _ => rfl)⟩
    have e := HH2.out
    subst e
    exact h2
theorem add_any {w : World} {b : Nat} {H : HeardC} (h : HAt w b H) (ok : HOk H) (s : SentC) :
    Calls Try.prog 30 #[.pointer (some ⟨b, 0, none⟩), .agg #[.int .i64 s.seq, .int .i64 s.base, .int .i64 s.span]] w fun e w' => e = .returned (.tuple #[]) ∧ HAt w' b (addH H s) ∧ Keeps (fun k => k = b) w w' := by
  by_cases hc : H.count = 5
  · have := add_full h ok hc s
    unfold addH shed
    rw [if_pos hc]
    exact this
  · have := add_small h ok (by have := ok.c; omega) s
    unfold addH shed
    rw [if_neg hc]
    exact this
end Go.Proofs.Ytbjpifipjcfhkaa
