/-
  What a group shows of itself (View).
-/
import Derived.Test.YtklhlffdpojkoaaGreatJ10
namespace Go.Proofs.YtklhlffdpojkoaaGreat
open Go.RowKit Go.Shelf Fx

theorem own_base {w : World} {base base' : Nat} {e : TypeId} {size : Nat} {v : Value} {n : Nat} {xs : List Value} (h : w.ownsRow base e size v n xs) (hb : base' ≤ base) : w.ownsRow base' e size v n xs := by
  refine ⟨h.1, h.2.elim .inl fun ⟨g, cap, cur, h1, h2, rest⟩ => .inr ⟨g, cap, cur, h1, by omega, rest⟩⟩
/-- The members as shown: a row of its own, with topics and partitions of its own. -/
def ViewAt (w' : World) (base : Nat) (mv : Value) (ones : List OneC) : Prop :=
  ∃ C : List OneV, C.map OneV.core = ones ∧ w'.ownsRow base 94 5 mv C.length (C.flatMap oneEnc) ∧ ∀ x ∈ C, Out 1 rStr w' (fun k => base ≤ k) x.tv x.topics ∧ Out 2 rPart w' (fun k => base ≤ k) x.pv x.parts
theorem ViewAt.keep {w w' : World} {S : Nat → Prop} {base : Nat} {mv : Value} {ones : List OneC} (h : ViewAt w base mv ones) (hk : Keeps S w w') (hS : ∀ k, S k → k < base ∨ w.heap.size ≤ k) : ViewAt w' base mv ones := by
  obtain ⟨C, h1, h2, h3⟩ := h
  refine ⟨C, h1, own_keep hk h2 (fun k e e2 => ?_), fun x hx => ⟨(h3 x hx).1.keep still_str hk (fun k hlt e e2 => ?_) (fun _ _ e => e), (h3 x hx).2.keep still_part hk (fun k hlt e e2 => ?_) (fun _ _ e => e)⟩⟩
  · have h5 := h2.lt k e
    rcases hS k e2 with h4 | h4 <;> omega
  · have e : base ≤ k := e
    rcases hS k e2 with h4 | h4 <;> omega
  · have e : base ≤ k := e
    rcases hS k e2 with h4 | h4 <;> omega
def ViewPost (w : World) (g : GroupC) (e : Ending) (w' : World) : Prop :=
  ∃ mv, e = .returned (.agg #[.int .i64 g.phase, .int .i64 g.gen, .int .i64 g.next, .int .i64 g.til, mv]) ∧ ViewAt w' w.heap.size mv g.ones ∧ K0 w w'
structure ViewMid (w wr : World) (g : GroupC) (mv : Value) (L C : List OneV) (k : Nat) : Prop where
  row : wr.ownsRow (w.heap.size + 2) 94 5 mv L.length (C.flatMap oneEnc)
  b0 : wr.heap[w.heap.size]? = some (.cells #[.int .i64 0, .int .i64 0, .int .i64 0, .int .i64 0, .slice none 0 0] 57 (0, 0))
  b1 : wr.heap[w.heap.size + 1]? = some (.cells #[.int .i64 g.phase, .int .i64 g.gen, .int .i64 g.next, .int .i64 g.til, mv] 57 (0, 0))
  keep : K0 w wr
  core : C.map OneV.core = L.map OneV.core
  done : ∀ j (h : j < C.length), j < k → Out 1 rStr wr (fun q => w.heap.size + 2 ≤ q ∧ mv.ownBlock ≠ some q) C[j].tv C[j].topics ∧ Out 2 rPart wr (fun q => w.heap.size + 2 ≤ q ∧ mv.ownBlock ≠ some q) C[j].pv C[j].parts
  rest : ∀ j, k ≤ j → C[j]? = L[j]?
theorem ViewMid.clen {w wr : World} {g : GroupC} {mv : Value} {L C : List OneV} {k : Nat} (h : ViewMid w wr g mv L C k) : C.length = L.length := by
  have := congrArg List.length h.core
  simpa using this
theorem ViewMid.next {w wr wz : World} {g : GroupC} {r cap : Nat} {L C : List OneV} {k : Nat} {tv pv : Value} (h : ViewMid w wr g (.slice (some ⟨r, 0, none⟩) L.length cap) L C k) (hk : k < L.length) (hkz : K0 wr wz)
    (ht : Out 1 rStr wz (fun q => wr.heap.size ≤ q) tv L[k].topics) (hp : Out 2 rPart wz (fun q => wr.heap.size ≤ q) pv L[k].parts) :
    ViewMid w ((wz.setCell ⟨r, k * 5 + 1, none⟩ tv).setCell ⟨r, k * 5 + 4, none⟩ pv) g (.slice (some ⟨r, 0, none⟩) L.length cap) L (C.modify k fun x => { x with tv := tv, pv := pv }) (k + 1) := by
  have hcl := h.clen
  have hrw : w.heap.size + 2 ≤ r ∧ r < wr.heap.size := h.row.lt r rfl
  have hkc : k < C.length := by omega
  have hck : C[k] = L[k] := by
    have := h.rest k (Nat.le_refl _)
    rw [List.getElem?_eq_getElem hkc, List.getElem?_eq_getElem hk] at this
    exact Option.some.inj this
  have hks : Keeps (fun q => q = r) wz ((wz.setCell ⟨r, k * 5 + 1, none⟩ tv).setCell ⟨r, k * 5 + 4, none⟩ pv) := ((Keeps.refl (fun q => q = r) wz).setC _ _ (fun _ => rfl)).setC _ _ (fun _ => rfl)
  have hka : Keeps (fun q => q = r) wr ((wz.setCell ⟨r, k * 5 + 1, none⟩ tv).setCell ⟨r, k * 5 + 4, none⟩ pv) := (hkz.mono fun _ _ e => e.elim).trans hks fun _ _ e => e
  have h0 := own_keep hkz h.row (fun _ _ e => e)
  have h1 := ((h0.stored (k * 5 + 1) tv).1.stored (k * 5 + 4) pv).1
  rw [flat_set' oneEnc 5 oneEnc_len (fun x => { x with tv := tv }) 1 tv (by omega) (fun _ => rfl) C k hkc,
    flat_set' oneEnc 5 oneEnc_len (fun x => { x with pv := pv }) 4 pv (by omega) (fun _ => rfl) _ k (by simpa using hkc), List.modify_modify_eq] at h1
  refine ⟨h1, ?_, ?_, (h.keep.mono fun _ _ e => e.elim).trans (S := fun _ => False) (S1 := fun q => q = r) hka (fun q hq e => by omega), ?_, fun j hj hjk => ?_, fun j hj => ?_⟩
  · rw [hka.block _ (block_lt h.b0) (by omega)]
    exact h.b0
  · rw [hka.block _ (block_lt h.b1) (by omega)]
    exact h.b1
  · rw [← h.core]
    apply List.ext_getElem
    · simp
    · intro j hj1 hj2
      simp only [List.getElem_map, List.getElem_modify]
      split <;> rfl
  · have hj' : j < C.length := by simpa using hj
    rw [List.getElem_modify]
    by_cases e : k = j
    · subst e
      rw [if_pos rfl]
      have e2 : C[k].topics = L[k].topics := by rw [hck]
      have e3 : C[k].parts = L[k].parts := by rw [hck]
      show Out 1 rStr _ _ tv C[k].topics ∧ Out 2 rPart _ _ pv C[k].parts
      rw [e2, e3]
      refine ⟨ht.keep still_str hks (fun q _ e1 e4 => ?_) (fun q _ e1 => ?_), hp.keep still_part hks (fun q _ e1 e4 => ?_) (fun q _ e1 => ?_)⟩
      · have e1 : wr.heap.size ≤ q := e1
        have e4 : q = r := e4
        omega
      · have e1 : wr.heap.size ≤ q := e1
        refine ⟨by omega, fun e4 => ?_⟩
        have : r = q := by simpa [Value.ownBlock] using e4
        omega
      · have e1 : wr.heap.size ≤ q := e1
        have e4 : q = r := e4
        omega
      · have e1 : wr.heap.size ≤ q := e1
        refine ⟨by omega, fun e4 => ?_⟩
        have : r = q := by simpa [Value.ownBlock] using e4
        omega
    · rw [if_neg e]
      have hd := h.done j hj' (by omega)
      refine ⟨hd.1.keep still_str hka (fun q _ e1 e4 => ?_) (fun _ _ e => e), hd.2.keep still_part hka (fun q _ e1 e4 => ?_) (fun _ _ e => e)⟩
      · have e4 : q = r := e4
        subst e4
        exact e1.2 rfl
      · have e4 : q = r := e4
        subst e4
        exact e1.2 rfl
  · have e : ¬ k = j := by omega
    have := h.rest j (by omega)
    simp [e, this]
end Go.Proofs.YtklhlffdpojkoaaGreat

/-
  What a group shows of itself: the walk.
-/
namespace Go.Proofs.YtklhlffdpojkoaaGreat
open Go.RowKit Go.Shelf Fx

theorem ViewMid.view {w wr : World} {g : GroupC} {mv : Value} {L C : List OneV} (h : ViewMid w wr g mv L C L.length) {w' : World} (hk : Keeps (fun q => q = w.heap.size) wr w') (hl : L.map OneV.core = g.ones) : ViewAt w' w.heap.size mv g.ones := by
  have hcl := h.clen
  refine ⟨C, by rw [h.core, hl], own_keep hk (by rw [hcl]; exact own_base h.row (by omega)) (fun k e e2 => ?_), fun x hx => ?_⟩
  · have h5 := h.row.lt k e
    have e2 : k = w.heap.size := e2
    omega
  · obtain ⟨j, hj, rfl⟩ := List.mem_iff_getElem.1 hx
    have hd := h.done j hj (by omega)
    refine ⟨hd.1.keep still_str hk (fun q _ e1 e4 => ?_) (fun q _ e => ?_), hd.2.keep still_part hk (fun q _ e1 e4 => ?_) (fun q _ e => ?_)⟩
    · have e4 : q = w.heap.size := e4
      have := e1.1
      omega
    · have := e.1
      show w.heap.size ≤ q
      omega
    · have e4 : q = w.heap.size := e4
      have := e1.1
      omega
    · have := e.1
      show w.heap.size ≤ q
      omega
set_option maxRecDepth 100000 in
set_option maxHeartbeats 4000000 in
theorem view_any (w : World) (F : Nat → Prop) (b : Nat) (g : GroupC) (h : Grp w F b g) (hl : g.ones.length ≤ 1000) (htl : ∀ o ∈ g.ones, o.topics.length ≤ 1000 ∧ o.parts.length ≤ 100000) :
    Calls Tryz.prog 40 #[.pointer (some ⟨b, 0, none⟩)] w fun e w' => ViewPost w g e w' := by
  obtain ⟨v, L, h⟩ := h
  obtain ⟨a0, cap0, rfl⟩ : ∃ a cap, v = .slice a L.length cap := by
    rcases h.form with ⟨h1, h2⟩ | ⟨r, cap, h1, _⟩
    · rw [h1]; exact ⟨_, _, h2⟩
    · exact ⟨_, _, h1⟩
  have hlen : L.length ≤ 1000 := by rw [← h.glen]; exact hl
  have c2 : w.cell? ⟨b, 2, none⟩ = some (.int .i64 g.phase) := block_cell h.blk 2
  have c3 : w.cell? ⟨b, 3, none⟩ = some (.int .i64 g.gen) := block_cell h.blk 3
  have c4 : w.cell? ⟨b, 4, none⟩ = some (.int .i64 g.next) := block_cell h.blk 4
  have c5 : w.cell? ⟨b, 5, none⟩ = some (.int .i64 g.til) := block_cell h.blk 5
  have c6 : w.cell? ⟨b, 6, none⟩ = some (.slice a0 L.length cap0) := block_cell h.blk 6
  have hb := block_lt h.blk
  have HH := Lib.hid h
  have HTL : Hid (∀ x ∈ L, x.topics.length ≤ 1000 ∧ x.parts.length ≤ 100000) := fun x hx => htl x.core (by rw [← h.ones]; exact List.mem_map_of_mem hx)
  have HCO := Lib.hid (fun (wx : World) (hk : K0 w wx) => clone_ones wx _ L (own_keep hk h.row (fun _ _ e => e)) (fun x hx => by
    obtain ⟨⟨a, n, c, e1⟩, a2, n2, c2, e2⟩ := h.slices x hx
    rw [e1, e2]
    exact ⟨rfl, rfl⟩) hlen)
  clear h htl hl
  generalize hph : g.phase = ph at c2
  generalize hge : g.gen = ge at c3
  generalize hne : g.next = ne at c4
  generalize hti : g.til = ti at c5
  have HG1 := Lib.hid hph
  have HG2 := Lib.hid hge
  have HG3 := Lib.hid hne
  have HG4 := Lib.hid hti
  clear hph hge hne hti
  have HK2 := Lib.hid (((Keeps.refl (fun _ => False) w).alloc (.cells #[.int .i64 0, .int .i64 0, .int .i64 0, .int .i64 0, .slice none 0 0] 57)).alloc (.cells #[.int .i64 ph, .int .i64 ge, .int .i64 ne, .int .i64 ti, .slice a0 L.length cap0] 57))
  go_enter Tryz.func40, Tryz.ntmps40
  go_wp2_with fail
  refine (HCO.out _ HK2.out).mono ?_
  rintro e w1 ⟨mv, rfl, hrow0, hk1⟩
  have hrow : w1.ownsRow (w.heap.size + 2) 94 5 mv L.length (L.flatMap oneEnc) := by simpa using hrow0
  obtain ⟨am, cm, rfl⟩ : ∃ a c, mv = .slice a L.length c := by
    rcases hrow.2 with ⟨h1, h2⟩ | ⟨r, cap, cur, h1, _⟩
    · rw [h2]; exact ⟨_, _, h1⟩
    · exact ⟨_, _, h1⟩
  have hb0 : w1.heap[w.heap.size]? = some (.cells #[.int .i64 0, .int .i64 0, .int .i64 0, .int .i64 0, .slice none 0 0] 57 (0, 0)) :=
    (hk1.block _ (by simp; omega) (fun e => e)).trans (block_alloc (heap_new w _ _ rfl) _)
  have hb1 : w1.heap[w.heap.size + 1]? = some (.cells #[.int .i64 ph, .int .i64 ge, .int .i64 ne, .int .i64 ti, .slice a0 L.length cap0] 57 (0, 0)) :=
    (hk1.block _ (by simp) (fun e => e)).trans (heap_new _ _ _ (by simp))
  have hks : Keeps (fun q => q = w.heap.size + 1) w1 (w1.setCell ⟨w.heap.size + 1, 4, none⟩ (.slice am L.length cm)) := (Keeps.refl (fun q => q = w.heap.size + 1) w1).setC 4 _ (fun _ => rfl)
  have hkw := HK2.out.trans hk1 fun _ _ e => e
  have hmid0 : ViewMid w (w1.setCell ⟨w.heap.size + 1, 4, none⟩ (.slice am L.length cm)) g (.slice am L.length cm) L L 0 := by
    refine ⟨own_keep hks hrow (fun k e e2 => ?_), ?_, ?_, (hkw.mono fun _ _ e => e.elim).trans (S := fun _ => False) hks (fun k hk e => by have e : k = w.heap.size + 1 := e; omega), rfl, fun j h hj => absurd hj (Nat.not_lt_zero _), fun j _ => rfl⟩
    · have h5 := hrow.lt k e
      have e2 : k = w.heap.size + 1 := e2
      omega
    · rw [hks.block _ (block_lt hb0) (by omega)]
      exact hb0
    · rw [HG1.out, HG2.out, HG3.out, HG4.out]
      exact setCell_block hb1 4 _
  have x4 : w1.cell? ⟨w.heap.size + 1, 4, none⟩ = some (.slice a0 L.length cap0) := block_cell hb1 4
  have y4 := block_free hb1 4
  have hs1 := block_lt hb1
  clear hrow0 hrow hb0 hb1 hks hkw hk1 c2 c3 c4 c5 c6 HCO
  go_wp2
  go_loopw [20] (fun i wr => ∃ (k : Nat) (C : List OneV), i = .int .i64 k ∧ k ≤ L.length ∧ ViewMid w wr g (.slice am L.length cm) L C k) (fun i _ => L.length - (intOf i).toNat)
  case atStart => exact ⟨0, L, rfl, by omega, hmid0⟩
  case round =>
    clear hmid0 x4 y4 hs1
    obtain ⟨k, C, rfl, hk, hmid⟩ := hrel
    have HM := Lib.hid hmid
    have z1 : wr.heap[w.heap.size + 1]? = some (.cells #[.int .i64 g.phase, .int .i64 g.gen, .int .i64 g.next, .int .i64 g.til, .slice am L.length cm] 57 (0, 0)) := hmid.b1
    by_cases hlt : k < L.length
    · obtain ⟨r, rfl⟩ : ∃ r, am = some ⟨r, 0, none⟩ := by
        rcases hmid.row.2 with ⟨h1, h2⟩ | ⟨r, cap, cur, h1, _⟩
        · omega
        · simp only [Value.slice.injEq] at h1
          exact ⟨r, h1.1⟩
      have hkc : k < C.length := by rw [hmid.clen]; exact hlt
      have hck : C[k] = L[k] := by
        have := hmid.rest k (Nat.le_refl _)
        rw [List.getElem?_eq_getElem hkc, List.getElem?_eq_getElem hlt] at this
        exact Option.some.inj this
      have hcell : ∀ j, j < 5 → wr.cell? ⟨r, k * 5 + j, none⟩ = (oneEnc L[k])[j]? := fun j hj => by
        rw [hmid.row.cellAt (k * 5 + j) (by omega), flatMap_get oneEnc 5 oneEnc_len C k j hkc hj, hck]
      have hrw : w.heap.size + 2 ≤ r ∧ r < wr.heap.size := hmid.row.lt r rfl
      obtain ⟨⟨a1, n1, k1, o1⟩, a4, n4, k4, o4⟩ := HH.out.slices L[k] (List.getElem_mem hlt)
      have ho := HH.out.out L[k] (List.getElem_mem hlt)
      have htl := HTL.out L[k] (List.getElem_mem hlt)
      have c0 : wr.cell? ⟨r, k * 5, none⟩ = some (.int .i64 L[k].member) := hcell 0 (by omega)
      have c1 : wr.cell? ⟨r, k * 5 + 1, none⟩ = some L[k].tv := hcell 1 (by omega)
      have c2 : wr.cell? ⟨r, k * 5 + 2, none⟩ = some (.int .i64 L[k].til) := hcell 2 (by omega)
      have c3 : wr.cell? ⟨r, k * 5 + 3, none⟩ = some (.bool L[k].joined) := hcell 3 (by omega)
      have c4 : wr.cell? ⟨r, k * 5 + 4, none⟩ = some L[k].pv := hcell 4 (by omega)
      have f1 := hmid.row.frozenAt (k * 5 + 1)
      have f4 := hmid.row.frozenAt (k * 5 + 4)
      have v4 : wr.cell? ⟨w.heap.size + 1, 4, none⟩ = some (.slice (some ⟨r, 0, none⟩) L.length cm) := block_cell z1 4
      rw [o1] at c1 ho
      rw [o4] at c4 ho
      have HSTEP := Lib.hid (fun (wz : World) (tv pv : Value) (h1 : K0 wr wz) (h2 : Out 1 rStr wz (fun q => wr.heap.size ≤ q) tv L[k].topics) (h3 : Out 2 rPart wz (fun q => wr.heap.size ≤ q) pv L[k].parts) => hmid.next hlt h1 h2 h3)
      have HKW := Lib.hid hmid.keep
      clear hcell hck hmid
      generalize L[k].topics = tps at ho htl HSTEP
      generalize L[k].parts = pts at ho htl HSTEP
      generalize L[k].member = x0 at c0
      generalize L[k].til = x2 at c2
      generalize L[k].joined = x3 at c3
      have HCT := Lib.hid (fun (wz : World) (hk : K0 wr wz) => clone_str wz _ _ tps (ho.1.keep still_str (K0.tr HKW.out hk) (G' := fun _ => True) (fun _ _ _ e => e) (fun _ _ _ => trivial)) htl.1)
      have HCP := Lib.hid (fun (wz : World) (hk : K0 wr wz) => clone_part wz _ _ pts (ho.2.keep still_part (K0.tr HKW.out hk) (G' := fun _ => True) (fun _ _ _ e => e) (fun _ _ _ => trivial)) htl.2)
      have HCE : Hid (∀ wz, K0 wr wz → (∃ u, wz.cell? ⟨r, k * 5 + 1, none⟩ = some u) ∧ (∃ u, wz.cell? ⟨r, k * 5 + 4, none⟩ = some u) ∧ wz.frozen? ⟨r, k * 5 + 1, none⟩ = false ∧ wz.frozen? ⟨r, k * 5 + 4, none⟩ = false ∧ r < wz.heap.size) := fun wz hk =>
        ⟨⟨_, hk.cell' c1 (fun e => e)⟩, ⟨_, hk.cell' c4 (fun e => e)⟩, frozen_keep hk c1 f1, frozen_keep hk c4 f4, Nat.lt_of_lt_of_le hrw.2 hk.size⟩
      have i0 : (0 : Int) ≤ k := by omega
      have i1 : (k : Int) < L.length := by omega
      have hrn : r ≠ w.heap.size + 1 := by omega
      have hrn2 : r ≠ wr.heap.size := by omega
      clear ho htl f1 f4
      have HKB := Lib.hid ((Keeps.refl (fun _ => False) wr).alloc (.cells #[.int .i64 x0, .slice a1 n1 k1, .int .i64 x2, .bool x3, .slice a4 n4 k4] 94))
      have HBB : Hid ((wr.alloc (.cells #[.int .i64 x0, .slice a1 n1 k1, .int .i64 x2, .bool x3, .slice a4 n4 k4] 94)).heap[wr.heap.size]? = some (.cells #[.int .i64 x0, .slice a1 n1 k1, .int .i64 x2, .bool x3, .slice a4 n4 k4] 94)) := heap_new _ _ _ rfl
      go_wp2_with fail
      obtain ⟨wx, hwx⟩ : ∃ wx : World, wx = wr.alloc (.cells #[.int .i64 x0, .slice a1 n1 k1, .int .i64 x2, .bool x3, .slice a4 n4 k4] 94) := ⟨_, rfl⟩
      rw [← hwx] at HKB HBB ⊢
      clear hwx
      have g1 : wx.cell? ⟨wr.heap.size, 1, none⟩ = some (.slice a1 n1 k1) := block_cell HBB.out 1
      have g4 : wx.cell? ⟨wr.heap.size, 4, none⟩ = some (.slice a4 n4 k4) := block_cell HBB.out 4
      have v4 : wx.cell? ⟨w.heap.size + 1, 4, none⟩ = some (.slice (some ⟨r, 0, none⟩) L.length cm) := HKB.out.cell' v4 (fun e => e)
      have hkk : K0 wx wx.drew := (Keeps.refl _ _).drew
      have hcx1 := cell_block1 g1
      have hcx2 := cell_block1 v4
      clear c0 c1 c2 c3 c4 z1
      go_region_held3 (fun w' => w'.cell? ⟨w.heap.size + 1, 4, none⟩ = some (.slice (some ⟨r, 0, none⟩) L.length cm) ∧ w'.cell? ⟨wr.heap.size, 1, none⟩ = some (.slice a1 n1 k1) ∧ w'.cell? ⟨wr.heap.size, 4, none⟩ = some (.slice a4 n4 k4))
        (first | go_keep | (go_split_ands; refine ⟨?_, ?_, ?_⟩ <;> first | assumption | exact Keeps.cell' (by assumption) (by assumption) (by simp) | exact cell_other (by assumption) (by assumption)))
        (first
          | (go_at_call 66; refine (HCT.out _ (K0.tr HKB.out hkk)).mono ?_; intro e w' hq'; obtain ⟨va, vc, rfl, ho, hk'⟩ := hq'.sl; clear hq')
          | (go_at_call 70; refine (HCP.out _ (K0.tr (K0.tr HKB.out hkk) (by assumption))).mono ?_; intro e w'' hq'; obtain ⟨va2, vc2, rfl, ho2, hk''⟩ := hq'.sl; obtain ⟨⟨u1, y1⟩, ⟨u4, y4⟩, t1, t4, yr⟩ := HCE.out _ (K0.tr (K0.tr (K0.tr HKB.out hkk) (by assumption)) hk''); clear hq'))
      go_wp2
      go_roundw
      case rel => exact ⟨k + 1, _, by go_num, by omega, HSTEP.out _ _ _ (K0.tr (K0.tr (K0.tr HKB.out hkk) hk') hk'')
        (ho.keep still_str hk'' (fun _ _ _ e => e) (fun q _ e => Nat.le_trans (K0.tr HKB.out hkk).size e))
        (ho2.keep still_part (Keeps.refl (fun _ => False) _) (fun _ _ _ e => e) (fun q _ e => Nat.le_trans (K0.tr (K0.tr HKB.out hkk) hk').size e))⟩
      case measure => simp [intOf]; omega
    · obtain rfl : k = L.length := by omega
      have w0 := hmid.b0
      have hbl0 := block_lt w0
      have hbl1 := block_lt z1
      have q0 : wr.cell? ⟨w.heap.size + 1, 0, none⟩ = some (.int .i64 g.phase) := block_cell z1 0
      have q1 : wr.cell? ⟨w.heap.size + 1, 1, none⟩ = some (.int .i64 g.gen) := block_cell z1 1
      have q2 : wr.cell? ⟨w.heap.size + 1, 2, none⟩ = some (.int .i64 g.next) := block_cell z1 2
      have q3 : wr.cell? ⟨w.heap.size + 1, 3, none⟩ = some (.int .i64 g.til) := block_cell z1 3
      have q4 : wr.cell? ⟨w.heap.size + 1, 4, none⟩ = some (.slice am L.length cm) := block_cell z1 4
      have p0 : wr.cell? ⟨w.heap.size, 0, none⟩ = some (.int .i64 0) := block_cell w0 0
      have p1 : wr.cell? ⟨w.heap.size, 1, none⟩ = some (.int .i64 0) := block_cell w0 1
      have p2 : wr.cell? ⟨w.heap.size, 2, none⟩ = some (.int .i64 0) := block_cell w0 2
      have p3 : wr.cell? ⟨w.heap.size, 3, none⟩ = some (.int .i64 0) := block_cell w0 3
      have p4 : wr.cell? ⟨w.heap.size, 4, none⟩ = some (.slice none 0 0) := block_cell w0 4
      have f0 := block_free w0 0
      have f1 := block_free w0 1
      have f2 := block_free w0 2
      have f3 := block_free w0 3
      have f4 := block_free w0 4
      have HFIN := Lib.hid (setCell_block (setCell_block (setCell_block (setCell_block (setCell_block w0 0 (.int .i64 g.phase)) 1 (.int .i64 g.gen)) 2 (.int .i64 g.next)) 3 (.int .i64 g.til)) 4 (.slice am L.length cm))
      have HKF := Lib.hid ((((((Keeps.refl (fun q => q = w.heap.size) wr).setC 0 (.int .i64 g.phase) (fun _ => rfl)).setC 1 (.int .i64 g.gen) (fun _ => rfl)).setC 2 (.int .i64 g.next) (fun _ => rfl)).setC 3 (.int .i64 g.til) (fun _ => rfl)).setC 4 (.slice am L.length cm) (fun _ => rfl))
      clear w0 z1 hmid
      go_wp2
      (try simp only [Exit.inBlock, Exit.then])
      refine bodyPost_ret (results_cell_row rfl _ _ _ _ _ _ _ rfl HFIN.out Tryz.underlying57 rfl (by kernel_rfl)) rfl ?_
      exact ⟨_, rfl, HM.out.view HKF.out HH.out.ones, (HM.out.keep.mono fun _ _ e => e.elim).trans (S := fun _ => False) HKF.out fun q hq e => by
        have e : q = w.heap.size := e
        omega⟩
end Go.Proofs.YtklhlffdpojkoaaGreat

/-
  What stays of a group whatever is done with it; the tick.
-/
namespace Go.Proofs.YtklhlffdpojkoaaGreat
open Go.RowKit Go.Shelf Fx

def MemLt (a b : OneC) : Prop := a.member < b.member
theorem WfG.pair {g : GroupC} (h : WfG g) : g.ones.Pairwise MemLt := List.pairwise_iff_getElem.2 fun i j hi hj hij => h.rise i j hi hj hij
theorem WfG.mem {g : GroupC} (h : WfG g) : ∀ o ∈ g.ones, 0 ≤ o.member ∧ o.member < g.next := fun o ho => by
  obtain ⟨i, hi, rfl⟩ := List.mem_iff_getElem.1 ho
  exact h.wf i hi
theorem WfG.of {g g' : GroupC} (h : WfG g) (hp : g'.ones.Pairwise MemLt) (hm : ∀ o ∈ g'.ones, 0 ≤ o.member ∧ o.member < g.next) (hl : g'.ones.length ≤ 20) (h1 : g'.session = g.session) (h2 : g'.rebalance = g.rebalance) (h3 : g'.next = g.next) (h4 : 0 ≤ g'.gen ∧ g'.gen ≤ 1152921504606846976) : WfG g' :=
  ⟨fun i j hi hj hij => List.pairwise_iff_getElem.1 hp i j hi hj hij, fun i hi => by rw [h3]; exact hm _ (List.getElem_mem hi), hl, by rw [h1]; exact h.ses, by rw [h2]; exact h.reb, by rw [h3]; exact h.next, h4⟩
theorem WfG.fil {g : GroupC} (h : WfG g) (q : OneC → Bool) : WfG (filG g q) :=
  h.of (h.pair.filter _) (fun o ho => h.mem o (List.mem_filter.1 ho).1) (Nat.le_trans (List.length_filter_le _ _) h.len) rfl rfl rfl h.gen
theorem WfG.enter {g : GroupC} (h : WfG g) (p t : Int) : WfG (enterG g p t) := ⟨h.rise, h.wf, h.len, h.ses, h.reb, h.next, h.gen⟩
theorem WfG.close {g : GroupC} (h : WfG g) (now : Int) (hg : g.gen + 1 ≤ 1152921504606846976) : WfG (closeG g now) := by
  unfold closeG
  have h1 := h.fil fun o => !o.joined
  split
  · exact h1.enter 0 0
  · have h2 : WfG { filG g (fun o => !o.joined) with gen := g.gen + 1 } := ⟨h1.rise, h1.wf, h1.len, h1.ses, h1.reb, h1.next, ⟨by have := h.gen; show 0 ≤ g.gen + 1; omega, hg⟩⟩
    exact h2.enter _ _
theorem closeG_head (g : GroupC) (now : Int) : (closeG g now).session = g.session ∧ (closeG g now).rebalance = g.rebalance ∧ (closeG g now).next = g.next ∧ (g.gen ≤ (closeG g now).gen ∧ (closeG g now).gen ≤ g.gen + 1) := by
  unfold closeG
  split
  · exact ⟨rfl, rfl, rfl, by show g.gen ≤ g.gen; omega, by show g.gen ≤ g.gen + 1; omega⟩
  · exact ⟨rfl, rfl, rfl, by show g.gen ≤ g.gen + 1; omega, by show g.gen + 1 ≤ g.gen + 1; omega⟩
theorem WfG.drop {g : GroupC} (h : WfG g) (now : Int) (q : OneC → Bool) (hg : g.gen + 1 ≤ 1152921504606846976) : WfG (dropG g now q) := by
  unfold dropG
  have h1 := h.fil q
  split
  · exact h1
  · split
    · exact h1.anew now
    · split
      · exact h1.close now hg
      · exact h1
theorem dropG_head (g : GroupC) (now : Int) (q : OneC → Bool) : (dropG g now q).session = g.session ∧ (dropG g now q).rebalance = g.rebalance ∧ (dropG g now q).next = g.next ∧ (g.gen ≤ (dropG g now q).gen ∧ (dropG g now q).gen ≤ g.gen + 1) := by
  unfold dropG
  split
  · exact ⟨rfl, rfl, rfl, by show g.gen ≤ g.gen; omega, by show g.gen ≤ g.gen + 1; omega⟩
  · split
    · obtain ⟨a1, a2, a3, a4⟩ := anewG_head (filG g q) now
      exact ⟨a1, a2, a3, by rw [a4]; show g.gen ≤ g.gen; omega, by rw [a4]; show g.gen ≤ g.gen + 1; omega⟩
    · split
      · exact closeG_head (filG g q) now
      · exact ⟨rfl, rfl, rfl, by show g.gen ≤ g.gen; omega, by show g.gen ≤ g.gen + 1; omega⟩
/-- A group without members is in phase 0. -/
def EmpG (g : GroupC) : Prop := g.ones.length = 0 → g.phase = 0
theorem EmpG.new (s r : Int) : EmpG (newG s r) := fun _ => rfl
theorem EmpG.anew (g : GroupC) (now : Int) : EmpG (anewG g now) := fun h => by
  rw [anewG_len] at h
  unfold anewG
  rw [if_pos h]
  rfl
theorem EmpG.close (g : GroupC) (now : Int) : EmpG (closeG g now) := by
  unfold closeG
  split
  · exact fun _ => rfl
  · rename_i h
    exact fun h2 => absurd h2 h
theorem EmpG.drop {g : GroupC} (h : EmpG g) (now : Int) (q : OneC → Bool) : EmpG (dropG g now q) := by
  unfold dropG
  split
  · rename_i h1
    exact fun h2 => h (by rw [← h1]; exact h2)
  · split
    · exact EmpG.anew _ _
    · rename_i h1
      split
      · exact EmpG.close _ _
      · exact fun h2 => absurd h2 (by omega)
/-- Nobody has too much. -/
def BndG (g : GroupC) : Prop := ∀ o ∈ g.ones, o.topics.length ≤ 1000 ∧ o.parts.length ≤ 100000
theorem BndG.fil {g : GroupC} (h : BndG g) (q : OneC → Bool) : BndG (filG g q) := fun o ho => h o (List.mem_filter.1 ho).1
theorem BndG.anew {g : GroupC} (h : BndG g) (now : Int) : BndG (anewG g now) := by
  unfold anewG
  split
  · exact h
  · intro o ho
    obtain ⟨x, hx, rfl⟩ := List.mem_map.1 ho
    exact ⟨(h x hx).1, Nat.zero_le _⟩
theorem BndG.close {g : GroupC} (h : BndG g) (now : Int) : BndG (closeG g now) := by
  unfold closeG
  split
  · exact h.fil _
  · exact h.fil _
theorem BndG.drop {g : GroupC} (h : BndG g) (now : Int) (q : OneC → Bool) : BndG (dropG g now q) := by
  unfold dropG
  split
  · exact h.fil _
  · split
    · exact (h.fil q).anew now
    · split
      · exact (h.fil q).close now
      · exact h.fil _
theorem BndG.new (s r : Int) : BndG (newG s r) := fun o ho => by cases ho
theorem BndG.join {g : GroupC} (h : BndG g) (m : Int) (topics : List ByteArray) (now : Int) (ht : topics.length ≤ 1000) : BndG (joinG g m topics now) := by
  have h1 : BndG (addG g m) := by
    unfold addG
    split
    · intro o ho
      rcases List.mem_append.1 ho with ho | ho
      · exact h o ho
      · rw [List.mem_singleton] at ho
        subst ho
        exact ⟨Nat.zero_le _, Nat.zero_le _⟩
    · exact h
  have h2 : BndG (startG (addG g m) now) := by
    unfold startG
    split
    · exact h1
    · exact h1.anew now
  have h3 : BndG (setG (startG (addG g m) now) (nextM g m) topics (now + g.session)) := by
    intro o ho
    obtain ⟨x, hx, rfl⟩ := List.mem_map.1 ho
    unfold setO
    split
    · exact ⟨ht, (h2 x hx).2⟩
    · exact h2 x hx
  unfold joinG finG
  split
  · exact h3.close now
  · exact h3
theorem has_len {g : GroupC} {m : Int} (h : hasM g m = true) : g.ones.length ≠ 0 := fun e => by
  have : g.ones = [] := List.eq_nil_of_length_eq_zero e
  unfold hasM at h
  rw [this] at h
  cases h
theorem setG_len (g : GroupC) (m : Int) (topics : List ByteArray) (t : Int) : (setG g m topics t).ones.length = g.ones.length := by simp [setG]
theorem WfG.set {g : GroupC} (h : WfG g) (m : Int) (topics : List ByteArray) (t : Int) : WfG (setG g m topics t) :=
  h.same (setG_len _ _ _ _) (fun i hi => by simp only [setG, List.getElem_map, setO]; split <;> rfl) rfl rfl rfl h.gen
/-- What joins leaves of a group. -/
theorem join_keeps {g : GroupC} {m now : Int} (topics : List ByteArray) (hw : WfG g) (hm : -9223372036854775808 ≤ m ∧ m ≤ 9223372036854775807) (hn : g.next + 1 ≤ 1152921504606846976) (hg : g.gen + 1 ≤ 1152921504606846976) (he : joinE g m topics now = 0) :
    WfG (joinG g m topics now) ∧ EmpG (joinG g m topics now) ∧ g.gen ≤ (joinG g m topics now).gen ∧ (joinG g m topics now).gen ≤ g.gen + 1 ∧ g.next ≤ (joinG g m topics now).next ∧ (joinG g m topics now).next ≤ g.next + 1 ∧ (joinG g m topics now).session = g.session ∧ (joinG g m topics now).rebalance = g.rebalance := by
  unfold joinE at he
  split at he
  · cases he
  · split at he
    · cases he
    · rename_i h2
      split at he
      · cases he
      · rename_i h3
        have hl : m = -1 → g.ones.length < 20 := fun e => by
          subst e
          simpa using h3
        have hh : hasM (addG g m) (nextM g m) = true := has_add (by
          by_cases e : m = -1
          · exact .inl e
          · right
            have e2 : (m == -1) = false := by simpa using e
            rw [e2] at h2
            simpa using h2)
        obtain ⟨_, w1, w2, w3, w4⟩ := tail_pre hw hl hn hh hm (now := now)
        have hgen : (startG (addG g m) now).gen = g.gen := by
          unfold startG
          have : (addG g m).gen = g.gen := by unfold addG; split <;> rfl
          split
          · exact this
          · rw [(anewG_head _ _).2.2.2, this]
        have hreb : (startG (addG g m) now).rebalance = g.rebalance := by
          unfold startG
          have : (addG g m).rebalance = g.rebalance := by unfold addG; split <;> rfl
          split
          · exact this
          · rw [(anewG_head _ _).2.1, this]
        have hnx : (startG (addG g m) now).next = (addG g m).next := by
          unfold startG
          split
          · rfl
          · rw [(anewG_head _ _).2.2.1]
        have hnx2 : g.next ≤ (addG g m).next ∧ (addG g m).next ≤ g.next + 1 := by
          unfold addG
          split
          · exact ⟨by show g.next ≤ g.next + 1; omega, by show g.next + 1 ≤ g.next + 1; omega⟩
          · omega
        have w5 := w2.set (nextM g m) topics (now + g.session)
        unfold joinG finG
        split
        · have hc := closeG_head (setG (startG (addG g m) now) (nextM g m) topics (now + g.session)) now
          have e1 : (setG (startG (addG g m) now) (nextM g m) topics (now + g.session)).gen = g.gen := hgen
          have e2 : (setG (startG (addG g m) now) (nextM g m) topics (now + g.session)).next = (addG g m).next := hnx
          exact ⟨w5.close now (by rw [e1]; exact hg), EmpG.close _ _, by omega, by omega, by rw [hc.2.2.1, e2]; exact hnx2.1, by rw [hc.2.2.1, e2]; exact hnx2.2, hc.1.trans w4, hc.2.1.trans hreb⟩
        · refine ⟨w5, fun h => ?_, ?_, ?_, ?_, ?_, w4, hreb⟩
          · rw [setG_len] at h
            exact absurd h (has_len w3)
          · show g.gen ≤ (startG (addG g m) now).gen; omega
          · show (startG (addG g m) now).gen ≤ g.gen + 1; omega
          · show g.next ≤ (startG (addG g m) now).next; omega
          · show (startG (addG g m) now).next ≤ g.next + 1; omega
def leaderOf (g : GroupC) : Int := match g.ones with
  | o :: _ => o.member
  | [] => 0
def tickG (g : GroupC) (now : Int) : GroupC :=
  if timeOk now then
    if now < (dropG g now fun o => decide (o.til ≤ now)).til then dropG g now fun o => decide (o.til ≤ now)
    else if (dropG g now fun o => decide (o.til ≤ now)).phase = 1 then closeG (dropG g now fun o => decide (o.til ≤ now)) now
    else if (dropG g now fun o => decide (o.til ≤ now)).phase = 2 then dropG (dropG g now fun o => decide (o.til ≤ now)) now fun o => o.member == leaderOf (dropG g now fun o => decide (o.til ≤ now))
    else dropG g now fun o => decide (o.til ≤ now)
  else g
theorem tick_keeps {g : GroupC} (now : Int) (hw : WfG g) (he : EmpG g) (hb : BndG g) (hg : g.gen + 2 ≤ 1152921504606846976) :
    WfG (tickG g now) ∧ EmpG (tickG g now) ∧ BndG (tickG g now) ∧ g.gen ≤ (tickG g now).gen ∧ (tickG g now).gen ≤ g.gen + 2 ∧ (tickG g now).next = g.next ∧ (tickG g now).session = g.session ∧ (tickG g now).rebalance = g.rebalance := by
  unfold tickG
  have h1 := hw.drop now (fun o => decide (o.til ≤ now)) (by omega)
  have h2 := he.drop now (fun o => decide (o.til ≤ now))
  have h3 := hb.drop now (fun o => decide (o.til ≤ now))
  have h4 := dropG_head g now (fun o => decide (o.til ≤ now))
  generalize (dropG g now fun o => decide (o.til ≤ now)) = g1 at *
  split
  · split
    · exact ⟨h1, h2, h3, by omega, by omega, h4.2.2.1, h4.1, h4.2.1⟩
    · split
      · have h5 := closeG_head g1 now
        exact ⟨h1.close now (by omega), EmpG.close _ _, h3.close now, by omega, by omega, h5.2.2.1.trans h4.2.2.1, h5.1.trans h4.1, h5.2.1.trans h4.2.1⟩
      · split
        · have h5 := dropG_head g1 now (fun o => o.member == leaderOf g1)
          exact ⟨h1.drop now _ (by omega), h2.drop now _, h3.drop now _, by omega, by omega, h5.2.2.1.trans h4.2.2.1, h5.1.trans h4.1, h5.2.1.trans h4.2.1⟩
        · exact ⟨h1, h2, h3, by omega, by omega, h4.2.2.1, h4.1, h4.2.1⟩
  · exact ⟨hw, he, hb, by omega, by omega, rfl, rfl, rfl⟩
end Go.Proofs.YtklhlffdpojkoaaGreat

/-
  The tick: the walk.
-/
namespace Go.Proofs.YtklhlffdpojkoaaGreat
open Go.RowKit Go.Shelf Fx

theorem leader_of {g : GroupC} {L : List OneV} (h : L.map OneV.core = g.ones) (hp : 0 < L.length) : leaderOf g = L[0].member := by
  unfold leaderOf
  rw [← h]
  cases L with
  | nil => exact absurd hp (Nat.lt_irrefl _)
  | cons x l => rfl
theorem enters_tick1 : ∀ args w, (callFunc 77 args).run Tryz.prog w = .ok (.enter 77 args) w :=
  enters_of Tryz.func77 (by kernel_rfl) rfl
theorem enters_tick2 : ∀ args w, (callFunc 78 args).run Tryz.prog w = .ok (.enter 78 args) w :=
  enters_of Tryz.func78 (by kernel_rfl) rfl
set_option maxHeartbeats 400000 in
theorem tests_tick1 {w : World} {bm : Nat} {m : Int} (hc : w.cell? ⟨bm, 0, none⟩ = some (.int .i64 m)) : Tests 77 #[.pointer (some ⟨bm, 0, none⟩)] (fun x => decide (x.til ≤ m)) w := by
  intro x
  have hb := cell_block1 hc
  obtain ⟨a, t, u, j, p, _, _⟩ := x
  go_enter Tryz.func77, Tryz.ntmps77
  go_wp2
  go_ret
  exact ⟨rfl, (Keeps.refl _ _).alloc _⟩
set_option maxHeartbeats 400000 in
theorem tests_tick2 {w : World} {bm : Nat} {m : Int} (hc : w.cell? ⟨bm, 0, none⟩ = some (.int .i64 m)) : Tests 78 #[.pointer (some ⟨bm, 0, none⟩)] (fun x => x.member == m) w := by
  intro x
  have hb := cell_block1 hc
  obtain ⟨a, t, u, j, p, _, _⟩ := x
  go_enter Tryz.func78, Tryz.ntmps78
  go_wp2
  go_ret
  exact ⟨rfl, (Keeps.refl _ _).alloc _⟩
set_option maxRecDepth 100000 in
set_option maxHeartbeats 4000000 in
theorem tick_any (w : World) (F : Nat → Prop) (b : Nat) (g : GroupC) (now : Int) (h : Grp w F b g) (hw : WfG g) (he : EmpG g) (hg : g.gen + 2 ≤ 1152921504606846976) :
    Calls Tryz.prog 45 #[.pointer (some ⟨b, 0, none⟩), .int .i64 now] w fun e w' => e = .returned (.tuple #[]) ∧ GrpPost w F b (tickG g now) w' := by
  obtain ⟨v, L, h⟩ := h
  have hlen : L.length ≤ 20 := by rw [← h.glen]; exact hw.len
  have HT := Lib.hid (isTime_any now)
  have HD := Lib.hid (fun (wx : World) (hk : K0 w wx) (hn : 0 ≤ now ∧ now ≤ 1099511627776) (hc : wx.cell? ⟨w.heap.size, 0, none⟩ = some (.int .i64 now)) => drop_any wx F b g v L now 77 #[.pointer (some ⟨w.heap.size, 0, none⟩)] (fun x => decide (x.til ≤ now)) (fun o => decide (o.til ≤ now)) (h.keep hk fun _ _ e => e) (by omega) hn ⟨by have := hw.reb; omega, hw.reb.2⟩ hw.gen enters_tick1
    (fun w1 hk1 => tests_tick1 (hk1.cell' hc (fun e => by have := (h.row.lt _ e).2; exact Nat.lt_irrefl _ this))) (fun _ => rfl))
  have HW1 := Lib.hid (hw.drop now (fun o => decide (o.til ≤ now)) (by omega))
  have HE1 := Lib.hid (he.drop now (fun o => decide (o.til ≤ now)))
  have HFL : Hid (¬ F w.heap.size) := fun e => Nat.lt_irrefl _ (h.lt _ e)
  have HH := Lib.hid h
  have HQ : Hid (timeOk now = true → tickG g now = if now < (dropG g now fun o => decide (o.til ≤ now)).til then dropG g now fun o => decide (o.til ≤ now)
    else if (dropG g now fun o => decide (o.til ≤ now)).phase = 1 then closeG (dropG g now fun o => decide (o.til ≤ now)) now
    else if (dropG g now fun o => decide (o.til ≤ now)).phase = 2 then dropG (dropG g now fun o => decide (o.til ≤ now)) now fun o => o.member == leaderOf (dropG g now fun o => decide (o.til ≤ now))
    else dropG g now fun o => decide (o.til ≤ now)) := fun e => if_pos e
  have hgen := (dropG_head g now (fun o => decide (o.til ≤ now))).2.2.2
  have HGN : Hid ((dropG g now fun o => decide (o.til ≤ now)).gen + 1 ≤ 1152921504606846976) := by show _ ≤ _; omega
  clear h hw he hgen
  cases ht : timeOk now with
  | false =>
    have HG : Hid (tickG g now = g) := if_neg (by rw [ht]; simp)
    rw [ht] at HT
    clear ht HQ
    go_enter Tryz.func45, Tryz.ntmps45
    go_wp2_with fail
    refine (HT.out _).mono ?_
    rintro e w1 ⟨rfl, hk⟩
    have HK := Lib.hid (((Keeps.refl (fun _ => False) w).alloc (.cells #[.int .i64 now] 3)).trans hk fun _ _ e => e)
    clear hk
    go_wp2
    (try simp only [Exit.inBlock, Exit.then])
    refine bodyPost_ret (results_none rfl _ _ _) rfl ?_
    rw [HG.out]
    exact ⟨rfl, F, ⟨v, L, HH.out.keep HK.out fun _ _ e => e⟩, fun k e => .inl e, HK.out.mono fun _ _ e => e.elim⟩
  | true =>
    have hn := time_yes ht
    have HQ := Lib.hid (HQ.out ht)
    rw [ht] at HT
    clear ht
    generalize (dropG g now fun o => decide (o.til ≤ now)) = g1 at *
    go_enter Tryz.func45, Tryz.ntmps45
    go_wp2_with fail
    refine (HT.out _).mono ?_
    rintro e w1 ⟨rfl, hk⟩
    have hc1 : w1.cell? ⟨w.heap.size, 0, none⟩ = some (.int .i64 now) := hk.cell' (block_cell (heap_new w (.cells #[.int .i64 now] 3) _ rfl) 0) (fun e => e)
    have HC1 := Lib.hid hc1
    have HK := Lib.hid (((Keeps.refl (fun _ => False) w).alloc (.cells #[.int .i64 now] 3)).trans hk fun _ _ e => e)
    have hs1 := cell_block1 hc1
    clear hk
    go_wp2_with fail
    refine (HD.out _ HK.out hn HC1.out).mono ?_
    rintro e w2 ⟨rfl, F1, ⟨v1, L1, hg1⟩, hF1, hk1⟩
    have hc2 : w2.cell? ⟨w.heap.size, 0, none⟩ = some (.int .i64 now) := hk1.cell' HC1.out HFL.out
    have hs2 := cell_block1 hc2
    have HP1 : Hid (∀ g2 wz, GrpPost w2 F1 b g2 wz → GrpPost w F b g2 wz) := fun g2 wz hq => GrpPost.trans (fun k e => .inl e) (HK.out.mono fun _ _ e => e.elim) (GrpPost.trans hF1 hk1 hq)
    have HSELF : Hid (∀ wz, K0 w2 wz → GrpPost w F b g1 wz) := fun wz hk => HP1.out _ _ ⟨F1, ⟨v1, L1, hg1.keep hk fun _ _ e => e⟩, fun k e => .inl e, hk.mono fun _ _ e => e.elim⟩
    have c5 : w2.cell? ⟨b, 5, none⟩ = some (.int .i64 g1.til) := block_cell hg1.blk 5
    have c2 : w2.cell? ⟨b, 2, none⟩ = some (.int .i64 g1.phase) := block_cell hg1.blk 2
    have hb2 := block_lt hg1.blk
    have hl1 : L1.length ≤ 20 := by rw [← hg1.glen]; exact HW1.out.len
    have HG1 := Lib.hid hg1
    clear hc1 hs1 hF1 hk1 hg1 HD HT
    by_cases h5 : now < g1.til
    · have HR : Hid (tickG g now = g1) := HQ.out.trans (if_pos h5)
      generalize g1.til = tl at c5 h5
      go_wp2
      go_quiet (fail)
      go_wp2
      (try simp only [Exit.inBlock, Exit.then])
      refine bodyPost_ret (results_none rfl _ _ _) rfl ?_
      rw [HR.out]
      exact ⟨rfl, HSELF.out _ ((Keeps.refl _ _).drewN _)⟩
    · have HQ := Lib.hid (HQ.out.trans (if_neg h5))
      have HCL := Lib.hid (fun (wx : World) (hk : K0 w2 wx) => close_any wx F1 b g1 v1 L1 now (HG1.out.keep hk fun _ _ e => e) (by omega) hn ⟨by have := HW1.out.reb; omega, HW1.out.reb.2⟩ HW1.out.gen)
      generalize g1.til = tl at c5 h5
      by_cases hp1 : g1.phase = 1
      · have HR : Hid (tickG g now = closeG g1 now) := HQ.out.trans (if_pos hp1)
        rw [hp1] at c2
        clear hp1 HQ
        go_wp2
        go_quiet (fail)
        go_wp2_with fail
        refine (HCL.out _ ((Keeps.refl _ _).drewN _)).mono ?_
        rintro e w3 ⟨rfl, hq⟩
        have HQQ := Lib.hid (HP1.out _ _ (GrpPost.trans (fun k e => .inl e) ((Keeps.refl _ _).drewN _) hq))
        clear hq
        (try go_wp2)
        go_end0
        rw [HR.out]
        exact ⟨rfl, HQQ.out⟩
      · by_cases hp2 : g1.phase = 2
        · have HR : Hid (tickG g now = dropG g1 now fun o => o.member == leaderOf g1) := HQ.out.trans ((if_neg hp1).trans (if_pos hp2))
          have hne : L1.length ≠ 0 := fun e => by
            have := HE1.out (by rw [HG1.out.glen]; exact e)
            omega
          rw [hp2] at c2
          clear hp1 hp2 HQ HCL
          rcases HG1.out.form with ⟨h0, _⟩ | ⟨r, cap, rfl, hrb, hrl, _, hFr⟩
          · exact absurd (by rw [h0]; rfl) hne
          · have hpos : 0 < L1.length := by omega
            have c6 : w2.cell? ⟨b, 6, none⟩ = some (.slice (some ⟨r, 0, none⟩) L1.length cap) := block_cell HG1.out.blk 6
            obtain ⟨c0, _⟩ := HG1.out.cell rfl 0 hpos
            have HLD := Lib.hid (leader_of HG1.out.ones hpos)
            have c0 : w2.cell? ⟨r, 0, none⟩ = some (.int .i64 L1[0].member) := by simpa using c0
            generalize L1[0].member = ld at c0 HLD
            have i1 : (0 : Int) < L1.length := by omega
            have HD2 := Lib.hid (fun (wx : World) (hk : K0 w2 wx) (n : Nat) (hn2 : w2.heap.size ≤ n) (hc : wx.cell? ⟨n, 0, none⟩ = some (.int .i64 ld)) => drop_any wx F1 b g1 _ L1 now 78 #[.pointer (some ⟨n, 0, none⟩)] (fun x => x.member == ld) (fun o => o.member == ld) (HG1.out.keep hk fun _ _ e => e) (by omega) hn ⟨by have := HW1.out.reb; omega, HW1.out.reb.2⟩ HW1.out.gen enters_tick2
              (fun w1 hk1 => tests_tick2 (hk1.cell' hc (fun e => by have h9 : n < w2.heap.size := (HG1.out.row.lt n e).2; omega))) (fun _ => rfl))
            go_upto_region 3 with fail
            go_cut [22] (fun q wq => q = .bool false ∧ K0 w2 wq)
            case first =>
              go_quiet (fail)
              go_wp2
              go_meet
              case rel => exact ⟨by simp; omega, (Keeps.refl _ _).drewN _⟩
            case rest =>
              obtain ⟨wx, rfl⟩ : ∃ wx : World, wx = wc := ⟨_, rfl⟩
              obtain ⟨rfl, hkx⟩ := hcut
              have c0 := hkx.cell' c0 (fun e => e)
              have c2 := hkx.cell' c2 (fun e => e)
              have c6 := hkx.cell' c6 (fun e => e)
              have hc2 := hkx.cell' hc2 (fun e => e)
              have hb2 := Nat.lt_of_lt_of_le hb2 hkx.size
              have hs2 := Nat.lt_of_lt_of_le hs2 hkx.size
              have hrl := Nat.lt_of_lt_of_le hrl hkx.size
              have HKX := Lib.hid hkx
              clear hkx c5
              go_wp2_with fail
              refine (HD2.out _ (HKX.out.alloc _) _ HKX.out.size (block_cell (heap_new _ _ _ rfl) 0)).mono ?_
              rintro e w3 ⟨rfl, hq⟩
              have HQQ := Lib.hid (HP1.out _ _ (GrpPost.trans (fun k e => .inl e) ((HKX.out.alloc _).mono fun _ _ e => e.elim) hq))
              clear hq
              (try go_wp2)
              go_end0
              rw [HR.out, HLD.out]
              exact ⟨rfl, HQQ.out⟩
        · have HR : Hid (tickG g now = g1) := HQ.out.trans ((if_neg hp1).trans (if_neg hp2))
          have hp1' : (g1.phase == 1) = false := by simpa using hp1
          have hp2' : (g1.phase == 2) = false := by simpa using hp2
          clear hp1 hp2 HQ
          generalize g1.phase = ph at c2 hp1' hp2'
          go_wp2
          go_quiet (fail)
          go_wp2
          go_end0
          rw [HR.out]
          exact ⟨rfl, HSELF.out _ ((Keeps.refl _ _).drewN _)⟩
end Go.Proofs.YtklhlffdpojkoaaGreat

/-
  The members' parts are dealt out: what it comes to.
-/
namespace Go.Proofs.YtklhlffdpojkoaaGreat
open Go.RowKit Go.Shelf Fx

def subsOf (g : GroupC) : List SubC := g.ones.map fun o => ⟨o.member, o.topics⟩
def dealL (round : Bool) (subs : List SubC) (tops : List TopC) : List ShareC := if round then roundL subs tops else rangeL subs tops
def partO (l : List ShareC) (i : Nat) (o : OneC) : OneC := { o with parts := (l.getD i ⟨0, []⟩).parts }
def shareG (g : GroupC) (l : List ShareC) : GroupC := enterG { g with ones := g.ones.mapIdx (partO l) } 3 0
def subEnc (x : OneV) : List Value := [.int .i64 x.member, x.tv]
theorem subEnc_len (x : OneV) : (subEnc x).length = 2 := rfl
theorem subsOf_len (g : GroupC) : (subsOf g).length = g.ones.length := by simp [subsOf]
theorem sub_row {w w' : World} {F : Nat → Prop} {b base : Nat} {g : GroupC} {v sv : Value} {L : List OneV} (h : GrpAt w F b g v L) (hw : WfG g) (hk : K0 w w') (hr : w'.ownsRow base 119 2 sv L.length (L.flatMap subEnc)) :
    ∃ a c, sv = .slice a (subsOf g).length c ∧ SlAt 2 rSub w' a c (subsOf g) := by
  have hl : (subsOf g).length = L.length := by rw [subsOf_len, h.glen]
  have hg : ∀ i (hi : i < L.length), (subsOf g)[i]'(by rw [hl]; exact hi) = ⟨L[i].member, L[i].topics⟩ := fun i hi => by
    have h1 : (subsOf g) = L.map fun x => ⟨x.member, x.topics⟩ := by
      unfold subsOf
      rw [← h.ones, List.map_map]
      rfl
    simp only [h1, List.getElem_map]
  have hm : ∀ i (hi : i < L.length), 0 ≤ L[i].member ∧ L[i].member ≤ 1152921504606846976 := (h.rise hw).wf
  rw [hl]
  rcases hr.2 with ⟨rfl, h0⟩ | ⟨r, cap, cur, rfl, hb, hgg, hc, hmx, _⟩
  · refine ⟨none, 0, by rw [h0], ⟨by rw [hl]; omega, by unfold maxLen; omega, fun h9 => absurd (List.eq_nil_of_length_eq_zero (by rw [hl]; exact h0)) h9⟩⟩
  · refine ⟨_, cap, rfl, ⟨by rw [hl]; exact hc, hmx, fun _ => ⟨r, 0, rfl, fun i hi => ?_⟩⟩⟩
    rw [hl] at hi
    obtain ⟨⟨a, cp, e1, e2, _⟩, _⟩ := h.out L[i] (List.getElem_mem hi)
    have hmi := hm i hi
    refine ⟨[.int .i64 L[i].member, L[i].tv], rfl, fun j hj => ?_, a, cp, ?_, ?_, ?_⟩
    · rw [Nat.zero_add, hr.cellAt (i * 2 + j) (by omega)]
      exact flatMap_get subEnc 2 subEnc_len L i j hi hj
    · rw [hg i hi, e1]
    · rw [hg i hi]
      exact e2.keep0 stable_str hk
    · rw [hg i hi]
      have hmin : IntKind.i64.min = -9223372036854775808 := rfl
      have hmax : IntKind.i64.max = 9223372036854775807 := rfl
      simp only [Lit.wf, Bool.and_eq_true, decide_eq_true_eq]
      omega
theorem deal_any (round : Bool) (w0 w : World) (sa ta : Option Addr) (sc tc : Nat) (subs : List SubC) (tops : List TopC) (hs : SlAt 2 rSub w0 sa sc subs) (ht : SlAt 2 rTop w0 ta tc tops) (hb : Below w0.heap.size w0 w) :
    Calls Tryz.prog (cond round 108 107) #[.slice sa subs.length sc, .slice ta tops.length tc] w (DealPost w (chk subs tops) (dealL round subs tops)) := by
  cases round
  · exact range9 w0 w sa ta sc tc subs tops hs ht hb
  · exact round11 w0 w sa ta sc tc subs tops hs ht hb
theorem deal_len {round : Bool} {subs : List SubC} {tops : List TopC} (h : chk subs tops = 0) : (dealL round subs tops).length = subs.length ∧ ∀ i (hi : i < (dealL round subs tops).length), (dealL round subs tops)[i].parts.length ≤ 6400 := by
  obtain ⟨h1, h2, h3⟩ := chk_ok h
  cases round
  · have h4 := LOk.range h1 h3 tops.length (Nat.le_refl _)
    exact ⟨h4.1, fun i hi => by have := h4.2 i hi; show (rangeTo subs tops tops.length)[i].parts.length ≤ 6400; omega⟩
  · have h4 := LOk.round (subs := subs) h3 tops.length (Nat.le_refl _)
    exact ⟨h4.1, fun i hi => by have := h4.2 i hi; show (roundTo subs tops tops.length).1[i].parts.length ≤ 6400; omega⟩
/-- The first k members have their parts. -/
def partTo (L : List OneV) (vs : List Value) (l : List ShareC) (k : Nat) : List OneV := L.mapIdx fun i x => if i < k then { x with pv := vs.getD i .nilIface, parts := (l.getD i ⟨0, []⟩).parts } else x
theorem partTo_len (L : List OneV) (vs : List Value) (l : List ShareC) (k : Nat) : (partTo L vs l k).length = L.length := by simp [partTo]
theorem partTo_zero (L : List OneV) (vs : List Value) (l : List ShareC) : partTo L vs l 0 = L := by
  apply List.ext_getElem
  · simp [partTo]
  · intro i h1 h2
    simp [partTo]
theorem partTo_at {L : List OneV} {vs : List Value} {l : List ShareC} {k : Nat} (hk : k < L.length) : (partTo L vs l k)[k]'(by rw [partTo_len]; exact hk) = L[k] := by simp [partTo]
theorem partTo_succ {L : List OneV} {vs : List Value} {l : List ShareC} {k : Nat} (_hk : k < L.length) : (partTo L vs l k).modify k (fun x => { x with pv := vs.getD k .nilIface, parts := (l.getD k ⟨0, []⟩).parts }) = partTo L vs l (k + 1) := by
  apply List.ext_getElem
  · simp [partTo_len]
  · intro i h1 h2
    simp only [partTo, List.getElem_modify, List.getElem_mapIdx]
    by_cases e : k = i
    · subst e
      rw [if_pos rfl, if_neg (Nat.lt_irrefl _), if_pos (Nat.lt_succ_self _)]
    · rw [if_neg e]
      by_cases h : i < k
      · rw [if_pos h, if_pos (by omega)]
      · rw [if_neg h, if_neg (by omega)]
theorem partTo_core (L : List OneV) (vs : List Value) (l : List ShareC) : (partTo L vs l L.length).map OneV.core = (L.map OneV.core).mapIdx (partO l) := by
  apply List.ext_getElem
  · simp [partTo]
  · intro i h1 h2
    have : i < L.length := by simpa using h2
    simp [partTo, this, partO, OneV.core]
structure ShareMid (w wr : World) (v : Value) (L : List OneV) (vs : List Value) (l : List ShareC) (k : Nat) : Prop where
  row : wr.ownsRow 0 94 5 v L.length ((partTo L vs l k).flatMap oneEnc)
  keep : Keeps (fun k => v.ownBlock = some k) w wr
theorem ShareMid.next {w wr wx : World} {r cap : Nat} {L : List OneV} {vs : List Value} {l : List ShareC} {k : Nat} (h : ShareMid w wr (.slice (some ⟨r, 0, none⟩) L.length cap) L vs l k) (hk : k < L.length) {wz : World} (hz : K0 wr wz)
    (hx : wx.heap = (wz.setCell ⟨r, k * 5 + 4, none⟩ (vs.getD k .nilIface)).heap) (ht : wx.os = wz.os ∧ wx.tape = wz.tape ∧ wx.output = wz.output) : ShareMid w wx (.slice (some ⟨r, 0, none⟩) L.length cap) L vs l (k + 1) := by
  have hk1 : Keeps (fun k => (Value.slice (some ⟨r, 0, none⟩) L.length cap).ownBlock = some k) w (wz.setCell ⟨r, k * 5 + 4, none⟩ (vs.getD k .nilIface)) := (h.keep.trans hz fun _ _ e => e.elim).setC _ _ (fun _ => rfl)
  have h1 := ((own_keep hz h.row (fun _ _ e => e)).stored (k * 5 + 4) (vs.getD k .nilIface)).1
  rw [flat_set' oneEnc 5 oneEnc_len (fun x => { x with pv := vs.getD k .nilIface, parts := (l.getD k ⟨0, []⟩).parts }) 4 (vs.getD k .nilIface) (by omega) (fun _ => rfl) (partTo L vs l k) k (by rw [partTo_len]; exact hk), partTo_succ hk] at h1
  obtain ⟨t1, t2, t3⟩ := ht
  exact ⟨⟨h1.1, by rw [hx]; exact h1.2⟩, ⟨t1.trans hk1.os, t2.trans hk1.tape, t3.trans hk1.output, by rw [hx]; exact hk1.size, fun j a b => by rw [hx]; exact hk1.block j a b⟩⟩
theorem ShareMid.keep0 {w wr wx : World} {v : Value} {L : List OneV} {vs : List Value} {l : List ShareC} {k : Nat} (h : ShareMid w wr v L vs l k) (hk : K0 wr wx) : ShareMid w wx v L vs l k :=
  ⟨own_keep hk h.row (fun _ _ e => e), h.keep.trans hk fun _ _ e => e.elim⟩
/-- All have their parts: the group. -/
theorem GrpAt.share {w w1 wr : World} {F : Nat → Prop} {b : Nat} {g : GroupC} {v sv : Value} {L : List OneV} {F1 : Nat → Prop} {l : List ShareC} {vs : List Value} (h : GrpAt w F b g v L) (hk : K0 w w1) (hs : SharesAt w1 F1 sv l vs) (hF : ∀ k, F1 k → w.heap.size ≤ k) (hl : l.length = L.length)
    (hm : ShareMid w1 wr v L vs l L.length) : ∃ F2, GrpAt wr F2 b { g with ones := g.ones.mapIdx (partO l) } v (partTo L vs l L.length) ∧ (∀ k, F2 k → F k ∨ w.heap.size ≤ k) ∧ Keeps F w wr := by
  have hka : Keeps (fun k => v.ownBlock = some k) w wr := (hk.mono fun _ _ e => e.elim).trans hm.keep fun _ _ e => e
  have hst := h.step (g' := { g with ones := g.ones.mapIdx (partO l) }) (v' := v) (L' := partTo L vs l L.length) (hka.mono (S1 := fun k => k = b ∨ v.ownBlock = some k) fun _ _ e => .inr e) (fun k e => e)
    ((hka.block b (block_lt h.blk) (fun e => (h.own b e).2 rfl)).trans h.blk) (by rw [partTo_len]; exact hm.row) (fun k e => .inl e) (by rw [partTo_core, h.ones]) (fun x hx => by
      obtain ⟨i, hi, rfl⟩ := List.mem_iff_getElem.1 hx
      have hi' : i < L.length := by simpa [partTo_len] using hi
      exact .inl ⟨L[i], List.getElem_mem hi', by simp [partTo, hi'], by simp [partTo, hi']⟩) (fun x hx => by
      obtain ⟨i, hi, rfl⟩ := List.mem_iff_getElem.1 hx
      have hi' : i < L.length := by simpa [partTo_len] using hi
      have hil : i < l.length := by omega
      have hiv : i < vs.length := by rw [hs.len]; exact hil
      obtain ⟨a, c, e1, e2, e3⟩ := own_slAt (R := rPart) (fun p : PartC => [.string p.topic, .int .i64 p.index]) (fun _ => rfl) (fun _ => rfl) (hs.parts i hil)
      right
      have ev : (partTo L vs l L.length)[i].pv = .slice a l[i].parts.length c := by simp [partTo, hi', hiv, e1]
      have ep : (partTo L vs l L.length)[i].parts = l[i].parts := by simp [partTo, hi', hil]
      rw [ev, ep]
      have hout : Out 2 rPart w1 (fun k => F1 k) (.slice a l[i].parts.length c) l[i].parts := ⟨a, c, rfl, e2, fun x ex hne => by
        subst ex
        have h9 : vs[i].ownBlock = some x.block := by
          rw [e1]
          obtain ⟨b', off', e9, _⟩ := e2.2.2 hne
          cases e9
          rfl
        exact ⟨(e3 _ h9).2, hs.footP i hiv _ h9⟩⟩
      refine hout.keep still_part hm.keep (fun k hk' e e2 => ?_) (fun k hk' e => ⟨hF k e, ?_, fun e2 => ?_⟩)
      · have := (h.row.lt k e2).2
        have := hF k e
        omega
      · have := hF k e
        have := block_lt h.blk
        omega
      · have := (h.row.lt k e2).2
        have := hF k e
        omega)
  exact ⟨_, hst, fun k e => e.elim .inl fun e => .inr e.1, hka.mono fun k _ e => (h.own k e).1⟩
end Go.Proofs.YtklhlffdpojkoaaGreat
