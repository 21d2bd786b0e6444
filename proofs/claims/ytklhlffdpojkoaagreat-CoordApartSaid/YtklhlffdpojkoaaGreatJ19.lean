/-
  The reference's Sync: what it stores.
-/
import Derived.Test.YtklhlffdpojkoaaGreatJ18
namespace Go.Proofs.YtklhlffdpojkoaaGreat
open Go.RowKit Go.Shelf Fx

theorem rsub_row {w w' : World} {F : Nat → Prop} {b base : Nat} {g : GroupC} {v sv : Value} {L : List OneV} (h : RGrpAt w F b g v L) (hw : WfG g) (hk : K0 w w') (hr : w'.ownsRow base 119 2 sv L.length (L.flatMap subEnc)) :
    ∃ a c, sv = .slice a (subsOf g).length c ∧ SlAt 2 rSub w' a c (subsOf g) := by
  have hl : (subsOf g).length = L.length := by rw [subsOf_len, h.len]
  have hg : ∀ i (hi : i < L.length), (subsOf g)[i]'(by rw [hl]; exact hi) = ⟨L[i].member, L[i].topics⟩ := fun i hi => by
    have h1 : (subsOf g) = L.map fun x => ⟨x.member, x.topics⟩ := by
      unfold subsOf
      rw [← h.ones, List.map_map]
      rfl
    simp only [h1, List.getElem_map]
  have hm : ∀ i (hi : i < L.length), 0 ≤ L[i].member ∧ L[i].member ≤ 1152921504606846976 := (h.rise hw).wf
  rw [hl]
  rcases hr.2 with ⟨rfl, h0⟩ | ⟨r, cap, cur, rfl, hb, hgg, hc, hmx, _⟩
  · refine ⟨none, 0, by rw [h0], ⟨by rw [hl]; omega, by unfold maxLen; omega, fun h9 => absurd (List.eq_nil_of_length_eq_zero (by rw [hl]; exact h0)) h9⟩⟩
  · refine ⟨_, cap, rfl, ⟨by rw [hl]; exact hc, hmx, fun _ => ⟨r, 0, rfl, fun i hi => ?_⟩⟩⟩
    rw [hl] at hi
    obtain ⟨⟨a, cp, e1, e2, _⟩, _⟩ := h.out L[i] (List.getElem_mem hi)
    have hmi := hm i hi
    refine ⟨[.int .i64 L[i].member, L[i].tv], rfl, fun j hj => ?_, a, cp, ?_, ?_, ?_⟩
    · rw [Nat.zero_add, hr.cellAt (i * 2 + j) (by omega)]
      exact flatMap_get subEnc 2 subEnc_len L i j hi hj
    · rw [hg i hi, e1]
    · rw [hg i hi]
      exact e2.keep0 stable_str hk
    · rw [hg i hi]
      have hmin : IntKind.i64.min = -9223372036854775808 := rfl
      have hmax : IntKind.i64.max = 9223372036854775807 := rfl
      simp only [Lit.wf, Bool.and_eq_true, decide_eq_true_eq]
      omega
structure RShareMid (w wr : World) (v : Value) (L : List OneV) (vs : List Value) (l : List ShareC) (k : Nat) : Prop where
  row : wr.ownsRow 0 111 5 v L.length ((partTo L vs l k).flatMap oneEnc)
  keep : Keeps (fun k => v.ownBlock = some k) w wr
theorem RShareMid.next {w wr wx : World} {r cap : Nat} {L : List OneV} {vs : List Value} {l : List ShareC} {k : Nat} (h : RShareMid w wr (.slice (some ⟨r, 0, none⟩) L.length cap) L vs l k) (hk : k < L.length) {wz : World} (hz : K0 wr wz)
    (hx : wx.heap = (wz.setCell ⟨r, k * 5 + 4, none⟩ (vs.getD k .nilIface)).heap) (ht : wx.os = wz.os ∧ wx.tape = wz.tape ∧ wx.output = wz.output) : RShareMid w wx (.slice (some ⟨r, 0, none⟩) L.length cap) L vs l (k + 1) := by
  have hk1 : Keeps (fun k => (Value.slice (some ⟨r, 0, none⟩) L.length cap).ownBlock = some k) w (wz.setCell ⟨r, k * 5 + 4, none⟩ (vs.getD k .nilIface)) := (h.keep.trans hz fun _ _ e => e.elim).setC _ _ (fun _ => rfl)
  have h1 := ((own_keep hz h.row (fun _ _ e => e)).stored (k * 5 + 4) (vs.getD k .nilIface)).1
  rw [flat_set' oneEnc 5 oneEnc_len (fun x => { x with pv := vs.getD k .nilIface, parts := (l.getD k ⟨0, []⟩).parts }) 4 (vs.getD k .nilIface) (by omega) (fun _ => rfl) (partTo L vs l k) k (by rw [partTo_len]; exact hk), partTo_succ hk] at h1
  obtain ⟨t1, t2, t3⟩ := ht
  exact ⟨⟨h1.1, by rw [hx]; exact h1.2⟩, ⟨t1.trans hk1.os, t2.trans hk1.tape, t3.trans hk1.output, by rw [hx]; exact hk1.size, fun j a b => by rw [hx]; exact hk1.block j a b⟩⟩
theorem RShareMid.keep0 {w wr wx : World} {v : Value} {L : List OneV} {vs : List Value} {l : List ShareC} {k : Nat} (h : RShareMid w wr v L vs l k) (hk : K0 wr wx) : RShareMid w wx v L vs l k :=
  ⟨own_keep hk h.row (fun _ _ e => e), h.keep.trans hk fun _ _ e => e.elim⟩
/-- All have their parts: the group. -/
theorem RGrpAt.share {w w1 wr : World} {F : Nat → Prop} {b : Nat} {g : GroupC} {v sv : Value} {L : List OneV} {F1 : Nat → Prop} {l : List ShareC} {vs : List Value} (h : RGrpAt w F b g v L) (hk : K0 w w1) (hs : SharesAt w1 F1 sv l vs) (hF : ∀ k, F1 k → w.heap.size ≤ k) (hl : l.length = L.length)
    (hm : RShareMid w1 wr v L vs l L.length) : ∃ F2, RGrpAt wr F2 b { g with ones := g.ones.mapIdx (partO l) } v (partTo L vs l L.length) ∧ (∀ k, F2 k → F k ∨ w.heap.size ≤ k) ∧ Keeps F w wr := by
  have hka : Keeps (fun k => v.ownBlock = some k) w wr := (hk.mono fun _ _ e => e.elim).trans hm.keep fun _ _ e => e
  have hst := h.step (g' := { g with ones := g.ones.mapIdx (partO l) }) (v' := v) (L' := partTo L vs l L.length) (hka.mono (S1 := fun k => k = b ∨ v.ownBlock = some k) fun _ _ e => .inr e) (fun k e => e)
    ((hka.block b (block_lt h.blk) (fun e => (h.own b e).2 rfl)).trans h.blk) (by rw [partTo_len]; exact hm.row) (fun k e => .inl e) (by rw [partTo_core, h.ones]) (fun x hx => by
      obtain ⟨i, hi, rfl⟩ := List.mem_iff_getElem.1 hx
      have hi' : i < L.length := by simpa [partTo_len] using hi
      exact .inl ⟨L[i], List.getElem_mem hi', by simp [partTo, hi'], by simp [partTo, hi']⟩) (fun x hx => by
      obtain ⟨i, hi, rfl⟩ := List.mem_iff_getElem.1 hx
      have hi' : i < L.length := by simpa [partTo_len] using hi
      have hil : i < l.length := by omega
      have hiv : i < vs.length := by rw [hs.len]; exact hil
      obtain ⟨a, c, e1, e2, e3⟩ := own_slAt (R := rPart) (fun p : PartC => [.string p.topic, .int .i64 p.index]) (fun _ => rfl) (fun _ => rfl) (hs.parts i hil)
      right
      have ev : (partTo L vs l L.length)[i].pv = .slice a l[i].parts.length c := by simp [partTo, hi', hiv, e1]
      have ep : (partTo L vs l L.length)[i].parts = l[i].parts := by simp [partTo, hi', hil]
      rw [ev, ep]
      have hout : Out 2 rPart w1 (fun k => F1 k) (.slice a l[i].parts.length c) l[i].parts := ⟨a, c, rfl, e2, fun x ex hne => by
        subst ex
        have h9 : vs[i].ownBlock = some x.block := by
          rw [e1]
          obtain ⟨b', off', e9, _⟩ := e2.2.2 hne
          cases e9
          rfl
        exact ⟨(e3 _ h9).2, hs.footP i hiv _ h9⟩⟩
      refine hout.keep still_part hm.keep (fun k hk' e e2 => ?_) (fun k hk' e => ⟨hF k e, ?_, fun e2 => ?_⟩)
      · have := (h.row.lt k e2).2
        have := hF k e
        omega
      · have := hF k e
        have := block_lt h.blk
        omega
      · have := (h.row.lt k e2).2
        have := hF k e
        omega)
  exact ⟨_, hst, fun k e => e.elim .inl fun e => .inr e.1, hka.mono fun k _ e => (h.own k e).1⟩
end Go.Proofs.YtklhlffdpojkoaaGreat
