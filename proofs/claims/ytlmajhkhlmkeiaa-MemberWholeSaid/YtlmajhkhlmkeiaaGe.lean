/-
  A group enters a phase, begins anew.
-/
import Derived.Test.YtlmajhkhlmkeiaaGd
import Derived.RegionTactic
import Derived.Deep.DeepCutAuto
namespace Go.Proofs.Ytlmajhkhlmkeiaa
open Go.RowKit Go.Shelf Fx

theorem GrpAt.head {w w' : World} {F : Nat → Prop} {b : Nat} {g g' : GroupC} {v : Value} {L : List OneV} (h : GrpAt w F b g v L) (hk : Keeps (fun k => k = b) w w') (hblk : w'.heap[b]? = some (.cells (gCells g' v) 63 (0, 0))) (ho : g'.ones = g.ones) : GrpAt w' F b g' v L :=
  ⟨hblk, own_keep hk h.row (fun k e => (h.own k e).2), h.fb, fun k e => Nat.lt_of_lt_of_le (h.lt k e) hk.size, h.own, by rw [ho]; exact h.ones, fun x hx =>
    ⟨(h.out x hx).1.keep still_str hk (fun k _ e => e.2.1) (fun _ _ e => e), (h.out x hx).2.keep still_part hk (fun k _ e => e.2.1) (fun _ _ e => e)⟩⟩
def enterG (g : GroupC) (p t : Int) : GroupC := { g with phase := p, til := t }
set_option maxRecDepth 100000 in
set_option maxHeartbeats 1000000 in
theorem enter_any (w : World) (F : Nat → Prop) (b : Nat) (g : GroupC) (v : Value) (L : List OneV) (p t : Int) (h : GrpAt w F b g v L) :
    Calls Try.prog 50 #[.pointer (some ⟨b, 0, none⟩), .int .i64 p, .int .i64 t] w fun e w' => e = .returned (.tuple #[]) ∧ GrpAt w' F b (enterG g p t) v L ∧ Keeps (fun k => k = b) w w' := by
  have HG := Lib.hid h
  have hb := block_lt h.blk
  have c2 : w.cell? ⟨b, 2, none⟩ = some (.int .i64 g.phase) := block_cell h.blk 2
  have c5 : w.cell? ⟨b, 5, none⟩ = some (.int .i64 g.til) := block_cell h.blk 5
  have f2 := block_free h.blk 2
  have f5 := block_free h.blk 5
  have HK : Hid (Keeps (fun k => k = b) w ((w.setCell ⟨b, 2, none⟩ (.int .i64 p)).setCell ⟨b, 5, none⟩ (.int .i64 t))) := ((Keeps.refl (fun k => k = b) w).setC 2 _ (fun _ => rfl)).setC 5 _ (fun _ => rfl)
  have HB : Hid (((w.setCell ⟨b, 2, none⟩ (.int .i64 p)).setCell ⟨b, 5, none⟩ (.int .i64 t)).heap[b]? = some (.cells (gCells (enterG g p t) v) 63 (0, 0))) := setCell_block (setCell_block h.blk 2 _) 5 _
  clear h
  go_enter Try.func50, Try.ntmps50
  go_wp2
  go_end0
  exact ⟨rfl, HG.out.head HK.out HB.out rfl, HK.out⟩

def freeO (o : OneC) : OneC := { o with joined := false, parts := [] }
def freeV (x : OneV) : OneV := { x with joined := false, pv := .slice none 0 0, parts := [] }
def freeTo (L : List OneV) (k : Nat) : List OneV := L.mapIdx fun i x => if i < k then freeV x else x
theorem freeTo_zero (L : List OneV) : freeTo L 0 = L := by
  apply List.ext_getElem
  · simp [freeTo]
  · intro i h1 h2
    simp [freeTo]
theorem freeTo_len (L : List OneV) (k : Nat) : (freeTo L k).length = L.length := by simp [freeTo]
theorem freeTo_at {L : List OneV} {k : Nat} (hk : k < L.length) : (freeTo L k)[k]'(by rw [freeTo_len]; exact hk) = L[k] := by simp [freeTo]
theorem freeTo_succ {L : List OneV} {k : Nat} (hk : k < L.length) : (freeTo L k).modify k freeV = freeTo L (k + 1) := by
  apply List.ext_getElem
  · simp [freeTo_len]
  · intro i h1 h2
    simp only [freeTo, List.getElem_modify, List.getElem_mapIdx]
    by_cases e : k = i
    · subst e
      rw [if_pos rfl, if_neg (Nat.lt_irrefl _), if_pos (Nat.lt_succ_self _)]
    · rw [if_neg e]
      by_cases h : i < k
      · rw [if_pos h, if_pos (by omega)]
      · rw [if_neg h, if_neg (by omega)]
theorem freeTo_all (L : List OneV) : freeTo L L.length = L.map freeV := by
  apply List.ext_getElem
  · simp [freeTo]
  · intro i h1 h2
    have : i < L.length := by simpa using h2
    simp [freeTo, this]
theorem freeTo_cells {L : List OneV} {k : Nat} (hk : k < L.length) : (((freeTo L k).flatMap oneEnc).set (k * 5 + 3) (.bool false)).set (k * 5 + 4) (.slice none 0 0) = (freeTo L (k + 1)).flatMap oneEnc := by
  have hk' : k < (freeTo L k).length := by rw [freeTo_len]; exact hk
  rw [flat_set' oneEnc 5 oneEnc_len (fun x => { x with joined := false }) 3 (.bool false) (by omega) (fun _ => rfl) _ _ hk']
  rw [flat_set' oneEnc 5 oneEnc_len (fun x => { x with pv := .slice none 0 0, parts := [] }) 4 (.slice none 0 0) (by omega) (fun _ => rfl) _ _ (by simpa using hk')]
  rw [List.modify_modify_eq, ← freeTo_succ hk]
  rfl
/-- The first k members are free. -/
structure FreeMid (w wr : World) (b : Nat) (g : GroupC) (v : Value) (L : List OneV) (k : Nat) : Prop where
  row : wr.ownsRow 0 43 5 v L.length ((freeTo L k).flatMap oneEnc)
  keep : Keeps (fun k => v.ownBlock = some k) w wr
theorem FreeMid.next {w wr wx : World} {b r cap : Nat} {g : GroupC} {L : List OneV} {k : Nat} (h : FreeMid w wr b g (.slice (some ⟨r, 0, none⟩) L.length cap) L k) (hk : k < L.length)
    (hx : wx.heap = ((wr.setCell ⟨r, k * 5 + 3, none⟩ (.bool false)).setCell ⟨r, k * 5 + 4, none⟩ (.slice none 0 0)).heap ∨ wx.heap = ((wr.setCell ⟨r, k * 5 + 4, none⟩ (.slice none 0 0)).setCell ⟨r, k * 5 + 3, none⟩ (.bool false)).heap)
    (ht : wx.os = wr.os ∧ wx.tape = wr.tape ∧ wx.output = wr.output) : FreeMid w wx b g (.slice (some ⟨r, 0, none⟩) L.length cap) L (k + 1) := by
  have hk1 : Keeps (fun k => (Value.slice (some ⟨r, 0, none⟩) L.length cap).ownBlock = some k) w ((wr.setCell ⟨r, k * 5 + 3, none⟩ (.bool false)).setCell ⟨r, k * 5 + 4, none⟩ (.slice none 0 0)) := (h.keep.setC _ _ (fun _ => rfl)).setC _ _ (fun _ => rfl)
  have hk2 : Keeps (fun k => (Value.slice (some ⟨r, 0, none⟩) L.length cap).ownBlock = some k) w ((wr.setCell ⟨r, k * 5 + 4, none⟩ (.slice none 0 0)).setCell ⟨r, k * 5 + 3, none⟩ (.bool false)) := (h.keep.setC _ _ (fun _ => rfl)).setC _ _ (fun _ => rfl)
  have h1 := ((h.row.stored (k * 5 + 3) (.bool false)).1.stored (k * 5 + 4) (.slice none 0 0)).1
  have h2 := ((h.row.stored (k * 5 + 4) (.slice none 0 0)).1.stored (k * 5 + 3) (.bool false)).1
  rw [freeTo_cells hk] at h1
  rw [List.set_comm _ _ (by omega), freeTo_cells hk] at h2
  obtain ⟨t1, t2, t3⟩ := ht
  rcases hx with hx | hx
  · exact ⟨⟨h1.1, by rw [hx]; exact h1.2⟩, ⟨t1.trans hk1.os, t2.trans hk1.tape, t3.trans hk1.output, by rw [hx]; exact hk1.size, fun j a b => by rw [hx]; exact hk1.block j a b⟩⟩
  · exact ⟨⟨h2.1, by rw [hx]; exact h2.2⟩, ⟨t1.trans hk2.os, t2.trans hk2.tape, t3.trans hk2.output, by rw [hx]; exact hk2.size, fun j a b => by rw [hx]; exact hk2.block j a b⟩⟩
/-- A group that begins anew. -/
def anewG (g : GroupC) (now : Int) : GroupC := if g.ones.length = 0 then enterG g 0 0 else { enterG g 1 (now + g.rebalance) with ones := g.ones.map freeO }
set_option maxRecDepth 100000 in
set_option maxHeartbeats 2000000 in
theorem anew_any (w : World) (F : Nat → Prop) (b : Nat) (g : GroupC) (v : Value) (L : List OneV) (now : Int) (h : GrpAt w F b g v L) (hl : L.length ≤ 1000) (hn : 0 ≤ now ∧ now ≤ 1099511627776) (hr : 0 ≤ g.rebalance ∧ g.rebalance ≤ 100000) :
    Calls Try.prog 23 #[.pointer (some ⟨b, 0, none⟩), .int .i64 now] w fun e w' => e = .returned (.tuple #[]) ∧ GrpPost w F b (anewG g now) w' := by
  have hb := block_lt h.blk
  have hlen : g.ones.length = L.length := by rw [← h.ones]; simp
  rcases h.form with ⟨rfl, rfl⟩ | ⟨r, cap, rfl, hrb, hrl, hcap, hFr⟩
  · have HE := Lib.hid (enter_any w F b g _ _ 0 0 h)
    have hx : w.cell? ⟨b, 6, none⟩ = some (.slice none 0 0) := block_cell h.blk 6
    have HF := Lib.hid h.fb
    clear h
    go_enter Try.func23, Try.ntmps23
    go_wp2_with fail
    refine HE.out.mono ?_
    rintro e w' ⟨rfl, hg, hk'⟩
    go_wp2
    (try simp only [Exit.inBlock, Exit.then])
    refine bodyPost_ret (results_none rfl _ _ _) rfl ?_
    have e : anewG g now = enterG g 0 0 := if_pos (by simpa using hlen)
    rw [e]
    exact ⟨rfl, F, ⟨_, _, hg⟩, fun k e => .inl e, hk'.mono fun k _ e => by subst e; exact HF.out⟩
  · have hx : w.cell? ⟨b, 6, none⟩ = some (.slice (some ⟨r, 0, none⟩) L.length cap) := block_cell h.blk 6
    have hy : w.cell? ⟨b, 1, none⟩ = some (.int .i64 g.rebalance) := block_cell h.blk 1
    by_cases h0 : L.length = 0
    · have HE := Lib.hid (enter_any w F b g _ _ 0 0 h)
      have h0' : (L.length : Int) = 0 := by omega
      have HF := Lib.hid h.fb
      clear h
      go_enter Try.func23, Try.ntmps23
      go_wp2_with fail
      refine HE.out.mono ?_
      rintro e w' ⟨rfl, hg, hk'⟩
      go_wp2
      (try simp only [Exit.inBlock, Exit.then])
      refine bodyPost_ret (results_none rfl _ _ _) rfl ?_
      have e : anewG g now = enterG g 0 0 := if_pos (by omega)
      rw [e]
      exact ⟨rfl, F, ⟨_, _, hg⟩, fun k e => .inl e, hk'.mono fun k _ e => by subst e; exact HF.out⟩
    · have HE := Lib.hid (enter_any w F b g _ _ 1 (now + g.rebalance) h)
      have HH := Lib.hid h
      have h0' : ¬ (L.length : Int) = 0 := by omega
      clear h
      generalize hrb2 : g.rebalance = rb at hy hr HE
      have HRB := Lib.hid hrb2
      clear hrb2
      go_enter Try.func23, Try.ntmps23
      go_wp2_with fail
      refine HE.out.mono ?_
      rintro e w1 ⟨rfl, hg, hk1⟩
      have hx1 : w1.cell? ⟨b, 6, none⟩ = some (.slice (some ⟨r, 0, none⟩) L.length cap) := block_cell hg.blk 6
      have hb1 := block_lt hg.blk
      have HG := Lib.hid hg
      have HK1 := Lib.hid hk1
      have hmid0 : FreeMid w1 w1 b g (.slice (some ⟨r, 0, none⟩) L.length cap) L 0 := ⟨by rw [freeTo_zero]; exact hg.row, Keeps.refl _ _⟩
      clear hg hk1 hx hb hy
      go_wp2
      go_loopw [28] (fun i wr => ∃ k : Nat, i = .int .i64 k ∧ k ≤ L.length ∧ FreeMid w1 wr b g (.slice (some ⟨r, 0, none⟩) L.length cap) L k) (fun i _ => L.length - (intOf i).toNat)
      case atStart => exact ⟨0, rfl, by omega, hmid0⟩
      case round =>
        obtain ⟨k, rfl, hk, hmid⟩ := hrel
        have HM := Lib.hid hmid
        by_cases hlt : k < L.length
        · have hx2 := hmid.keep.cell' hx1 (fun e => hrb (by simpa [Value.ownBlock] using e))
          have hb2 := Nat.lt_of_lt_of_le hb1 hmid.keep.size
          have hcell : ∀ j, j < 5 → wr.cell? ⟨r, k * 5 + j, none⟩ = (oneEnc L[k])[j]? := fun j hj => by
            rw [hmid.row.cellAt (k * 5 + j) (by omega), flatMap_get oneEnc 5 oneEnc_len (freeTo L k) k j (by rw [freeTo_len]; exact hlt) hj, freeTo_at hlt]
          have c3 : wr.cell? ⟨r, k * 5 + 3, none⟩ = some (.bool L[k].joined) := hcell 3 (by omega)
          have c4 : wr.cell? ⟨r, k * 5 + 4, none⟩ = some L[k].pv := hcell 4 (by omega)
          have f3 := hmid.row.frozenAt (k * 5 + 3)
          have f4 := hmid.row.frozenAt (k * 5 + 4)
          have hrl2 := own_lt hmid.row rfl
          have hbr : b ≠ r := fun e => hrb e.symm
          clear hmid hcell
          generalize L[k].joined = q3 at c3
          generalize L[k].pv = q4 at c4
          have i0 : (0 : Int) ≤ k := by omega
          have i1 : (k : Int) < L.length := by omega
          go_wp2_with fail
          go_region
          all_goals
            go_wp2
            go_roundw
            case rel => exact ⟨k + 1, by go_num, by omega, HM.out.next hlt (by first | exact .inl rfl | exact .inr rfl) ⟨rfl, rfl, rfl⟩⟩
            case measure => simp [intOf]; omega
        · obtain rfl : k = L.length := by omega
          clear hmid
          go_wp2
          go_end0
          have HB : Hid (0 < L.length) := by show 0 < _; omega
          have e : anewG g now = { enterG g 1 (now + rb) with ones := g.ones.map freeO } := by rw [← HRB.out]; exact if_neg (by rw [hlen]; have := HB.out; omega)
          have hrow := HM.out.row
          rw [freeTo_all] at hrow
          have hstep := HG.out.step (g' := anewG g now) (L' := L.map freeV) HM.out.keep (fun k e => .inr e) (by
            rw [e]
            exact (HM.out.keep.block b (block_lt HG.out.blk) (fun e => hrb (by simpa [Value.ownBlock] using e))).trans HG.out.blk) (by rw [List.length_map]; exact hrow) (fun k e => .inl e)
            (by
              have h9 : L.map OneV.core = g.ones := HG.out.ones
              rw [e]
              show (L.map freeV).map OneV.core = g.ones.map freeO
              rw [← h9, List.map_map, List.map_map]
              rfl)
            (fun x hx => by obtain ⟨y, hy, rfl⟩ := List.mem_map.1 hx; exact .inl ⟨y, hy, rfl, rfl⟩)
            (fun x hx => by obtain ⟨y, hy, rfl⟩ := List.mem_map.1 hx; exact .inr (Out.nil _ _ _ _))
          refine ⟨rfl, _, ⟨_, _, hstep⟩, fun k e => e.elim .inl fun e => .inr (Nat.le_trans HK1.out.size e.1), ?_⟩
          exact (HK1.out.mono (S1 := F) fun k _ e => by subst e; exact HG.out.fb).trans HM.out.keep fun k _ e => (HG.out.own k e).1
end Go.Proofs.Ytlmajhkhlmkeiaa
