/-
  What a group shows of itself: the walk.
-/
import Derived.Test.YtlmajhkhlmkeiaaGn
namespace Go.Proofs.Ytlmajhkhlmkeiaa
open Go.RowKit Go.Shelf Fx

theorem ViewMid.view {w wr : World} {g : GroupC} {mv : Value} {L C : List OneV} (h : ViewMid w wr g mv L C L.length) {w' : World} (hk : Keeps (fun q => q = w.heap.size) wr w') (hl : L.map OneV.core = g.ones) : ViewAt w' w.heap.size mv g.ones := by
  have hcl := h.clen
  refine ⟨C, by rw [h.core, hl], own_keep hk (by rw [hcl]; exact own_base h.row (by omega)) (fun k e e2 => ?_), fun x hx => ?_⟩
  · have h5 := h.row.lt k e
    have e2 : k = w.heap.size := e2
    omega
  · obtain ⟨j, hj, rfl⟩ := List.mem_iff_getElem.1 hx
    have hd := h.done j hj (by omega)
    refine ⟨hd.1.keep still_str hk (fun q _ e1 e4 => ?_) (fun q _ e => ?_), hd.2.keep still_part hk (fun q _ e1 e4 => ?_) (fun q _ e => ?_)⟩
    · have e4 : q = w.heap.size := e4
      have := e1.1
      omega
    · have := e.1
      show w.heap.size ≤ q
      omega
    · have e4 : q = w.heap.size := e4
      have := e1.1
      omega
    · have := e.1
      show w.heap.size ≤ q
      omega
set_option maxRecDepth 100000 in
set_option maxHeartbeats 4000000 in
theorem view_any (w : World) (F : Nat → Prop) (b : Nat) (g : GroupC) (h : Grp w F b g) (hl : g.ones.length ≤ 1000) (htl : ∀ o ∈ g.ones, o.topics.length ≤ 1000 ∧ o.parts.length ≤ 100000) :
    Calls Try.prog 12 #[.pointer (some ⟨b, 0, none⟩)] w fun e w' => ViewPost w g e w' := by
  obtain ⟨v, L, h⟩ := h
  obtain ⟨a0, cap0, rfl⟩ : ∃ a cap, v = .slice a L.length cap := by
    rcases h.form with ⟨h1, h2⟩ | ⟨r, cap, h1, _⟩
    · rw [h1]; exact ⟨_, _, h2⟩
    · exact ⟨_, _, h1⟩
  have hlen : L.length ≤ 1000 := by rw [← h.glen]; exact hl
  have c2 : w.cell? ⟨b, 2, none⟩ = some (.int .i64 g.phase) := block_cell h.blk 2
  have c3 : w.cell? ⟨b, 3, none⟩ = some (.int .i64 g.gen) := block_cell h.blk 3
  have c4 : w.cell? ⟨b, 4, none⟩ = some (.int .i64 g.next) := block_cell h.blk 4
  have c5 : w.cell? ⟨b, 5, none⟩ = some (.int .i64 g.til) := block_cell h.blk 5
  have c6 : w.cell? ⟨b, 6, none⟩ = some (.slice a0 L.length cap0) := block_cell h.blk 6
  have hb := block_lt h.blk
  have HH := Lib.hid h
  have HTL : Hid (∀ x ∈ L, x.topics.length ≤ 1000 ∧ x.parts.length ≤ 100000) := fun x hx => htl x.core (by rw [← h.ones]; exact List.mem_map_of_mem hx)
  have HCO := Lib.hid (fun (wx : World) (hk : K0 w wx) => clone_ones wx _ L (own_keep hk h.row (fun _ _ e => e)) (fun x hx => by
    obtain ⟨⟨a, n, c, e1⟩, a2, n2, c2, e2⟩ := h.slices x hx
    rw [e1, e2]
    exact ⟨rfl, rfl⟩) hlen)
  clear h htl hl
  generalize hph : g.phase = ph at c2
  generalize hge : g.gen = ge at c3
  generalize hne : g.next = ne at c4
  generalize hti : g.til = ti at c5
  have HG1 := Lib.hid hph
  have HG2 := Lib.hid hge
  have HG3 := Lib.hid hne
  have HG4 := Lib.hid hti
  clear hph hge hne hti
  have HK2 := Lib.hid (((Keeps.refl (fun _ => False) w).alloc (.cells #[.int .i64 0, .int .i64 0, .int .i64 0, .int .i64 0, .slice none 0 0] 35)).alloc (.cells #[.int .i64 ph, .int .i64 ge, .int .i64 ne, .int .i64 ti, .slice a0 L.length cap0] 35))
  go_enter Try.func12, Try.ntmps12
  go_wp2_with fail
  refine (HCO.out _ HK2.out).mono ?_
  rintro e w1 ⟨mv, rfl, hrow0, hk1⟩
  have hrow : w1.ownsRow (w.heap.size + 2) 43 5 mv L.length (L.flatMap oneEnc) := by simpa using hrow0
  obtain ⟨am, cm, rfl⟩ : ∃ a c, mv = .slice a L.length c := by
    rcases hrow.2 with ⟨h1, h2⟩ | ⟨r, cap, cur, h1, _⟩
    · rw [h2]; exact ⟨_, _, h1⟩
    · exact ⟨_, _, h1⟩
  have hb0 : w1.heap[w.heap.size]? = some (.cells #[.int .i64 0, .int .i64 0, .int .i64 0, .int .i64 0, .slice none 0 0] 35 (0, 0)) :=
    (hk1.block _ (by simp; omega) (fun e => e)).trans (block_alloc (heap_new w _ _ rfl) _)
  have hb1 : w1.heap[w.heap.size + 1]? = some (.cells #[.int .i64 ph, .int .i64 ge, .int .i64 ne, .int .i64 ti, .slice a0 L.length cap0] 35 (0, 0)) :=
    (hk1.block _ (by simp) (fun e => e)).trans (heap_new _ _ _ (by simp))
  have hks : Keeps (fun q => q = w.heap.size + 1) w1 (w1.setCell ⟨w.heap.size + 1, 4, none⟩ (.slice am L.length cm)) := (Keeps.refl (fun q => q = w.heap.size + 1) w1).setC 4 _ (fun _ => rfl)
  have hkw := HK2.out.trans hk1 fun _ _ e => e
  have hmid0 : ViewMid w (w1.setCell ⟨w.heap.size + 1, 4, none⟩ (.slice am L.length cm)) g (.slice am L.length cm) L L 0 := by
    refine ⟨own_keep hks hrow (fun k e e2 => ?_), ?_, ?_, (hkw.mono fun _ _ e => e.elim).trans (S := fun _ => False) hks (fun k hk e => by have e : k = w.heap.size + 1 := e; omega), rfl, fun j h hj => absurd hj (Nat.not_lt_zero _), fun j _ => rfl⟩
    · have h5 := hrow.lt k e
      have e2 : k = w.heap.size + 1 := e2
      omega
    · rw [hks.block _ (block_lt hb0) (by omega)]
      exact hb0
    · rw [HG1.out, HG2.out, HG3.out, HG4.out]
      exact setCell_block hb1 4 _
  have x4 : w1.cell? ⟨w.heap.size + 1, 4, none⟩ = some (.slice a0 L.length cap0) := block_cell hb1 4
  have y4 := block_free hb1 4
  have hs1 := block_lt hb1
  clear hrow0 hrow hb0 hb1 hks hkw hk1 c2 c3 c4 c5 c6 HCO
  go_wp2
  go_loopw [20] (fun i wr => ∃ (k : Nat) (C : List OneV), i = .int .i64 k ∧ k ≤ L.length ∧ ViewMid w wr g (.slice am L.length cm) L C k) (fun i _ => L.length - (intOf i).toNat)
  case atStart => exact ⟨0, L, rfl, by omega, hmid0⟩
  case round =>
    clear hmid0 x4 y4 hs1
    obtain ⟨k, C, rfl, hk, hmid⟩ := hrel
    have HM := Lib.hid hmid
    have z1 : wr.heap[w.heap.size + 1]? = some (.cells #[.int .i64 g.phase, .int .i64 g.gen, .int .i64 g.next, .int .i64 g.til, .slice am L.length cm] 35 (0, 0)) := hmid.b1
    by_cases hlt : k < L.length
    · obtain ⟨r, rfl⟩ : ∃ r, am = some ⟨r, 0, none⟩ := by
        rcases hmid.row.2 with ⟨h1, h2⟩ | ⟨r, cap, cur, h1, _⟩
        · omega
        · simp only [Value.slice.injEq] at h1
          exact ⟨r, h1.1⟩
      have hkc : k < C.length := by rw [hmid.clen]; exact hlt
      have hck : C[k] = L[k] := by
        have := hmid.rest k (Nat.le_refl _)
        rw [List.getElem?_eq_getElem hkc, List.getElem?_eq_getElem hlt] at this
        exact Option.some.inj this
      have hcell : ∀ j, j < 5 → wr.cell? ⟨r, k * 5 + j, none⟩ = (oneEnc L[k])[j]? := fun j hj => by
        rw [hmid.row.cellAt (k * 5 + j) (by omega), flatMap_get oneEnc 5 oneEnc_len C k j hkc hj, hck]
      have hrw : w.heap.size + 2 ≤ r ∧ r < wr.heap.size := hmid.row.lt r rfl
      obtain ⟨⟨a1, n1, k1, o1⟩, a4, n4, k4, o4⟩ := HH.out.slices L[k] (List.getElem_mem hlt)
      have ho := HH.out.out L[k] (List.getElem_mem hlt)
      have htl := HTL.out L[k] (List.getElem_mem hlt)
      have c0 : wr.cell? ⟨r, k * 5, none⟩ = some (.int .i64 L[k].member) := hcell 0 (by omega)
      have c1 : wr.cell? ⟨r, k * 5 + 1, none⟩ = some L[k].tv := hcell 1 (by omega)
      have c2 : wr.cell? ⟨r, k * 5 + 2, none⟩ = some (.int .i64 L[k].til) := hcell 2 (by omega)
      have c3 : wr.cell? ⟨r, k * 5 + 3, none⟩ = some (.bool L[k].joined) := hcell 3 (by omega)
      have c4 : wr.cell? ⟨r, k * 5 + 4, none⟩ = some L[k].pv := hcell 4 (by omega)
      have f1 := hmid.row.frozenAt (k * 5 + 1)
      have f4 := hmid.row.frozenAt (k * 5 + 4)
      have v4 : wr.cell? ⟨w.heap.size + 1, 4, none⟩ = some (.slice (some ⟨r, 0, none⟩) L.length cm) := block_cell z1 4
      rw [o1] at c1 ho
      rw [o4] at c4 ho
      have HSTEP := Lib.hid (fun (wz : World) (tv pv : Value) (h1 : K0 wr wz) (h2 : Out 1 rStr wz (fun q => wr.heap.size ≤ q) tv L[k].topics) (h3 : Out 2 rPart wz (fun q => wr.heap.size ≤ q) pv L[k].parts) => hmid.next hlt h1 h2 h3)
      have HKW := Lib.hid hmid.keep
      clear hcell hck hmid
      generalize L[k].topics = tps at ho htl HSTEP
      generalize L[k].parts = pts at ho htl HSTEP
      generalize L[k].member = x0 at c0
      generalize L[k].til = x2 at c2
      generalize L[k].joined = x3 at c3
      have HCT := Lib.hid (fun (wz : World) (hk : K0 wr wz) => clone_str wz _ _ tps (ho.1.keep still_str (K0.tr HKW.out hk) (G' := fun _ => True) (fun _ _ _ e => e) (fun _ _ _ => trivial)) htl.1)
      have HCP := Lib.hid (fun (wz : World) (hk : K0 wr wz) => clone_part wz _ _ pts (ho.2.keep still_part (K0.tr HKW.out hk) (G' := fun _ => True) (fun _ _ _ e => e) (fun _ _ _ => trivial)) htl.2)
      have HCE : Hid (∀ wz, K0 wr wz → (∃ u, wz.cell? ⟨r, k * 5 + 1, none⟩ = some u) ∧ (∃ u, wz.cell? ⟨r, k * 5 + 4, none⟩ = some u) ∧ wz.frozen? ⟨r, k * 5 + 1, none⟩ = false ∧ wz.frozen? ⟨r, k * 5 + 4, none⟩ = false ∧ r < wz.heap.size) := fun wz hk =>
        ⟨⟨_, hk.cell' c1 (fun e => e)⟩, ⟨_, hk.cell' c4 (fun e => e)⟩, frozen_keep hk c1 f1, frozen_keep hk c4 f4, Nat.lt_of_lt_of_le hrw.2 hk.size⟩
      have i0 : (0 : Int) ≤ k := by omega
      have i1 : (k : Int) < L.length := by omega
      have hrn : r ≠ w.heap.size + 1 := by omega
      have hrn2 : r ≠ wr.heap.size := by omega
      clear ho htl f1 f4
      have HKB := Lib.hid ((Keeps.refl (fun _ => False) wr).alloc (.cells #[.int .i64 x0, .slice a1 n1 k1, .int .i64 x2, .bool x3, .slice a4 n4 k4] 43))
      have HBB : Hid ((wr.alloc (.cells #[.int .i64 x0, .slice a1 n1 k1, .int .i64 x2, .bool x3, .slice a4 n4 k4] 43)).heap[wr.heap.size]? = some (.cells #[.int .i64 x0, .slice a1 n1 k1, .int .i64 x2, .bool x3, .slice a4 n4 k4] 43)) := heap_new _ _ _ rfl
      go_wp2_with fail
      obtain ⟨wx, hwx⟩ : ∃ wx : World, wx = wr.alloc (.cells #[.int .i64 x0, .slice a1 n1 k1, .int .i64 x2, .bool x3, .slice a4 n4 k4] 43) := ⟨_, rfl⟩
      rw [← hwx] at HKB HBB ⊢
      clear hwx
      have g1 : wx.cell? ⟨wr.heap.size, 1, none⟩ = some (.slice a1 n1 k1) := block_cell HBB.out 1
      have g4 : wx.cell? ⟨wr.heap.size, 4, none⟩ = some (.slice a4 n4 k4) := block_cell HBB.out 4
      have v4 : wx.cell? ⟨w.heap.size + 1, 4, none⟩ = some (.slice (some ⟨r, 0, none⟩) L.length cm) := HKB.out.cell' v4 (fun e => e)
      have hkk : K0 wx wx.drew := (Keeps.refl _ _).drew
      have hcx1 := cell_block1 g1
      have hcx2 := cell_block1 v4
      clear c0 c1 c2 c3 c4 z1
      go_region_held3 (fun w' => w'.cell? ⟨w.heap.size + 1, 4, none⟩ = some (.slice (some ⟨r, 0, none⟩) L.length cm) ∧ w'.cell? ⟨wr.heap.size, 1, none⟩ = some (.slice a1 n1 k1) ∧ w'.cell? ⟨wr.heap.size, 4, none⟩ = some (.slice a4 n4 k4))
        (first | go_keep | (go_split_ands; refine ⟨?_, ?_, ?_⟩ <;> first | assumption | exact Keeps.cell' (by assumption) (by assumption) (by simp) | exact cell_other (by assumption) (by assumption)))
        (first
          | (go_at_call 24; refine (HCT.out _ (K0.tr HKB.out hkk)).mono ?_; intro e w' hq'; obtain ⟨va, vc, rfl, ho, hk'⟩ := hq'.sl; clear hq')
          | (go_at_call 28; refine (HCP.out _ (K0.tr (K0.tr HKB.out hkk) (by assumption))).mono ?_; intro e w'' hq'; obtain ⟨va2, vc2, rfl, ho2, hk''⟩ := hq'.sl; obtain ⟨⟨u1, y1⟩, ⟨u4, y4⟩, t1, t4, yr⟩ := HCE.out _ (K0.tr (K0.tr (K0.tr HKB.out hkk) (by assumption)) hk''); clear hq'))
      go_wp2
      go_roundw
      case rel => exact ⟨k + 1, _, by go_num, by omega, HSTEP.out _ _ _ (K0.tr (K0.tr (K0.tr HKB.out hkk) hk') hk'')
        (ho.keep still_str hk'' (fun _ _ _ e => e) (fun q _ e => Nat.le_trans (K0.tr HKB.out hkk).size e))
        (ho2.keep still_part (Keeps.refl (fun _ => False) _) (fun _ _ _ e => e) (fun q _ e => Nat.le_trans (K0.tr (K0.tr HKB.out hkk) hk').size e))⟩
      case measure => simp [intOf]; omega
    · obtain rfl : k = L.length := by omega
      have w0 := hmid.b0
      have hbl0 := block_lt w0
      have hbl1 := block_lt z1
      have q0 : wr.cell? ⟨w.heap.size + 1, 0, none⟩ = some (.int .i64 g.phase) := block_cell z1 0
      have q1 : wr.cell? ⟨w.heap.size + 1, 1, none⟩ = some (.int .i64 g.gen) := block_cell z1 1
      have q2 : wr.cell? ⟨w.heap.size + 1, 2, none⟩ = some (.int .i64 g.next) := block_cell z1 2
      have q3 : wr.cell? ⟨w.heap.size + 1, 3, none⟩ = some (.int .i64 g.til) := block_cell z1 3
      have q4 : wr.cell? ⟨w.heap.size + 1, 4, none⟩ = some (.slice am L.length cm) := block_cell z1 4
      have p0 : wr.cell? ⟨w.heap.size, 0, none⟩ = some (.int .i64 0) := block_cell w0 0
      have p1 : wr.cell? ⟨w.heap.size, 1, none⟩ = some (.int .i64 0) := block_cell w0 1
      have p2 : wr.cell? ⟨w.heap.size, 2, none⟩ = some (.int .i64 0) := block_cell w0 2
      have p3 : wr.cell? ⟨w.heap.size, 3, none⟩ = some (.int .i64 0) := block_cell w0 3
      have p4 : wr.cell? ⟨w.heap.size, 4, none⟩ = some (.slice none 0 0) := block_cell w0 4
      have f0 := block_free w0 0
      have f1 := block_free w0 1
      have f2 := block_free w0 2
      have f3 := block_free w0 3
      have f4 := block_free w0 4
      have HFIN := Lib.hid (setCell_block (setCell_block (setCell_block (setCell_block (setCell_block w0 0 (.int .i64 g.phase)) 1 (.int .i64 g.gen)) 2 (.int .i64 g.next)) 3 (.int .i64 g.til)) 4 (.slice am L.length cm))
      have HKF := Lib.hid ((((((Keeps.refl (fun q => q = w.heap.size) wr).setC 0 (.int .i64 g.phase) (fun _ => rfl)).setC 1 (.int .i64 g.gen) (fun _ => rfl)).setC 2 (.int .i64 g.next) (fun _ => rfl)).setC 3 (.int .i64 g.til) (fun _ => rfl)).setC 4 (.slice am L.length cm) (fun _ => rfl))
      clear w0 z1 hmid
      go_wp2
      (try simp only [Exit.inBlock, Exit.then])
      refine bodyPost_ret (results_cell_row rfl _ _ _ _ _ _ _ rfl HFIN.out Try.underlying35 rfl (by kernel_rfl)) rfl ?_
      exact ⟨_, rfl, HM.out.view HKF.out HH.out.ones, (HM.out.keep.mono fun _ _ e => e.elim).trans (S := fun _ => False) HKF.out fun q hq e => by
        have e : q = w.heap.size := e
        omega⟩
end Go.Proofs.Ytlmajhkhlmkeiaa
