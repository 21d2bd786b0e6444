/-
  CoordApart: what is seen of the groups ahead of a call, and behind it.
-/
import Derived.Test.YtklhlffdpojkoaaGreatJ29
namespace Go.Proofs.YtklhlffdpojkoaaGreat
open Go.RowKit Go.Shelf Fx

section
variable {E : Nat → Prop} {w0 wb w w' : World} {cb kb tb n : Nat} {C R : CoordC}
theorem JC.baseP (h : JC E w0 wb w cb C kb R tb) (w1 : World) (hk : K0 w w1) (P : Nat → Prop) (hP : ∀ k, P k → w.heap.size ≤ k ∧ k < w1.heap.size) : JC P w0 w1 w1 cb C kb R tb := by
  obtain ⟨Y, F, YR, v, h1, h2, ht, h3, h4⟩ := h
  exact ⟨Y, F, YR, v, h1.keep hk, h2.keep hk (fun _ _ e => e), ht, h3, fun k e => ⟨(hP k e).2, fun e2 => by have := h2.lt _ e2; have := (hP k e).1; omega, fun e2 => by have := h1.ltC _ e2; have := (hP k e).1; omega, rfl⟩⟩
/-- A row of names, new. -/
structure NRow (w : World) (base : Nat) (r : Nat) (ss : List ByteArray) : Prop where
  lt : base ≤ r ∧ r < w.heap.size
  cell : ∀ j (hj : j < ss.length), w.cell? ⟨r, j, none⟩ = some (.string ss[j])
theorem NRow.keep {base r : Nat} {ss : List ByteArray} (h : NRow w base r ss) (hk : K0 w w') : NRow w' base r ss :=
  ⟨⟨h.lt.1, Nat.lt_of_lt_of_le h.lt.2 hk.size⟩, fun j hj => hk.cell' (h.cell j hj) (fun e => e)⟩
theorem NRow.blk {base r : Nat} {ss : List ByteArray} (h : NRow w base r ss) (hs : r < w'.heap.size) (hk : w'.heap[r]? = w.heap[r]?) : NRow w' base r ss :=
  ⟨⟨h.lt.1, hs⟩, fun j hj => cell_of_block hk (h.cell j hj)⟩
theorem jp_names (h : JC E w0 wb w cb C kb R tb) (hg : GoodC C R n) :
    Calls Tryz.prog 21 #[.pointer (some ⟨cb, 0, none⟩)] w fun e w' => ∃ ss a c, e = .returned (.slice a ss.length c) ∧ (∀ u ∈ ss, ∃ g, aget C.gs u = some g) ∧ ss.length ≤ 20 ∧ (ss = [] ∨ ∃ r, a = some ⟨r, 0, none⟩ ∧ NRow w' w.heap.size r ss) ∧ K0 w w' := by
  obtain ⟨Y, F, YR, v, h1, h2, ht, h3, h4⟩ := h
  have hlenC : C.gs.length = Y.L.length := by rw [← h1.core]; simp [gcore]
  have hks' : ∀ p ∈ avals gptr Y.L, p.1.size ≤ 100000 := fun p hp => by
    unfold avals at hp
    obtain ⟨q, hq, rfl⟩ := List.mem_map.1 hp
    have := hg.nmC (q.1, q.2.2) (by rw [← h1.core]; exact List.mem_map.2 ⟨q, hq, rfl⟩)
    show q.1.size ≤ 100000
    have h9 : q.1.size ≤ 100 := this
    omega
  refine (pnames_at h1 (by have := hg.len; have := hg.le; omega) hks').mono fun e w' hq => ?_
  obtain ⟨ss, ho, v, rfl, hrow, hk⟩ := hq
  have hlen : ss.length ≤ 20 := by
    have h9 := ho.perm.length_eq
    rw [List.length_map] at h9
    have h8 : (avals gptr Y.L).length = Y.L.length := avals_len _ _
    have := hg.len
    have := hg.le
    omega
  have hmem : ∀ u ∈ ss, ∃ g, aget C.gs u = some g := fun u hu => by
    have h9 := ho.perm.mem_iff.1 hu
    have hkeys : (avals gptr Y.L).map (·.1) = C.gs.map (·.1) := by rw [← h1.core]; unfold avals gcore; rw [List.map_map, List.map_map]; rfl
    rw [hkeys] at h9
    obtain ⟨p, hp, rfl⟩ := List.mem_map.1 h9
    exact ⟨p.2, aget_of_mem hg.kc hp⟩
  have h0 := hrow
  rcases hrow.2 with ⟨rfl, h5⟩ | ⟨r, cap, cur, rfl, hb, hgg, hc, hm, _⟩
  · exact ⟨ss, none, 0, by rw [h5], hmem, hlen, .inl (List.eq_nil_of_length_eq_zero h5), hk⟩
  · refine ⟨ss, _, _, rfl, hmem, hlen, .inr ⟨r, rfl, ⟨hb, block_lt hgg⟩, fun j hj => ?_⟩, hk⟩
    rw [h0.cellAt j (by omega), List.getElem?_map, List.getElem?_eq_getElem hj]
    rfl
theorem jp_group (h : JC E w0 wb w cb C kb R tb) (hg : GoodC C R n) {u : ByteArray} {g : GroupC} (hu : aget C.gs u = some g) :
    Calls Tryz.prog 22 #[.pointer (some ⟨cb, 0, none⟩), .string u] w fun e w' => ∃ a c, e = .returned (.agg #[.int .i64 g.phase, .int .i64 g.gen, .int .i64 g.next, .int .i64 g.til, .slice a g.ones.length c]) ∧ K0 w w' := by
  obtain ⟨Y, F, YR, v, h1, h2, ht, h3, h4⟩ := h
  exact (cgroup_some h1 u hg.cok hu).mono fun e w' hq => by
    obtain ⟨a, c, rfl, _, hk⟩ := hq
    exact ⟨a, c, rfl, hk⟩
theorem jp_comm (h : JC E w0 wb w cb C kb R tb) (u t : ByteArray) (i : Int) :
    Calls Tryz.prog 14 #[.pointer (some ⟨cb, 0, none⟩), .string u, .agg #[.string t, .int .i64 i]] w fun e w' => e = .returned (.tuple #[.int .i64 (getV C.off ⟨u, t, i⟩).1, .bool (getV C.off ⟨u, t, i⟩).2]) ∧ K0 w w' := by
  obtain ⟨Y, F, YR, v, h1, h2, ht, h3, h4⟩ := h
  exact cget_at h1 u t i
end
/-- A group as it was seen. -/
abbrev SeenV := GroupC × Option Addr × Nat
def encS (x : SeenV) : List Value := [.int .i64 x.1.phase, .int .i64 x.1.gen, .int .i64 x.1.next, .int .i64 x.1.til, .slice x.2.1 x.1.ones.length x.2.2]
theorem encS_len (x : SeenV) : (encS x).length = 5 := rfl
theorem infoView : (Tryz.prog.info? 57).map (fun i => (i.zero, i.size, i.bytes)) = some (some (.agg #[.int .i64 0, .int .i64 0, .int .i64 0, .int .i64 0, .slice none 0 0]), 5, 56) := by kernel_rfl
theorem infoInt : (Tryz.prog.info? 3).map (fun i => (i.zero, i.size, i.bytes)) = some (some (.int .i64 0), 1, 8) := by kernel_rfl
/-- The first k names' groups and offsets, as they were seen since wN. -/
structure SeenA (wN : World) (C : CoordC) (ss : List ByteArray) (pt : ByteArray) (pi : Int) (k : Nat) (wv av : Value) (W : World) : Prop where
  k0 : K0 wN W
  row : ∃ vs : List SeenV, vs.length = k ∧ (∀ j (hj : j < vs.length) (hs : j < ss.length), aget C.gs ss[j] = some vs[j].1) ∧ W.ownsRow wN.heap.size 57 5 wv k (vs.flatMap encS)
  at_ : ∃ xs : List Int, xs.length = k ∧ (∀ j (hj : j < xs.length) (hs : j < ss.length), xs[j] = (getV C.off ⟨ss[j], pt, pi⟩).1) ∧ W.ownsRow wN.heap.size 3 1 av k (xs.map (Value.int .i64))
  apart : ∀ q, wv.ownBlock = some q → av.ownBlock ≠ some q
section
variable {wN W W1 W' : World} {C : CoordC} {ss : List ByteArray} {pt : ByteArray} {pi : Int} {k : Nat} {wv av : Value}
theorem SeenA.start (wN : World) (C : CoordC) (ss : List ByteArray) (pt : ByteArray) (pi : Int) : SeenA wN C ss pt pi 0 (.slice none 0 0) (.slice none 0 0) wN :=
  ⟨Keeps.refl _ _, ⟨[], rfl, fun j hj => absurd hj (Nat.not_lt_zero _), World.ownsRow_nil _ _ _ _⟩, ⟨[], rfl, fun j hj => absurd hj (Nat.not_lt_zero _), World.ownsRow_nil _ _ _ _⟩, fun q e => by cases e⟩
theorem SeenA.keep (h : SeenA wN C ss pt pi k wv av W) (hk : K0 W W1) : SeenA wN C ss pt pi k wv av W1 := by
  obtain ⟨h0, ⟨vs, a1, a2, a3⟩, ⟨xs, b1, b2, b3⟩, h4⟩ := h
  exact ⟨K0.tr h0 hk, ⟨vs, a1, a2, y_row_keep hk a3 (fun _ _ e => e)⟩, ⟨xs, b1, b2, y_row_keep hk b3 (fun _ _ e => e)⟩, h4⟩
/-- One group more has been seen. -/
structure SeenH (wN : World) (C : CoordC) (ss : List ByteArray) (pt : ByteArray) (pi : Int) (k : Nat) (wv av : Value) (W : World) : Prop where
  k0 : K0 wN W
  row : ∃ vs : List SeenV, vs.length = k + 1 ∧ (∀ j (hj : j < vs.length) (hs : j < ss.length), aget C.gs ss[j] = some vs[j].1) ∧ W.ownsRow wN.heap.size 57 5 wv (k + 1) (vs.flatMap encS)
  at_ : ∃ xs : List Int, xs.length = k ∧ (∀ j (hj : j < xs.length) (hs : j < ss.length), xs[j] = (getV C.off ⟨ss[j], pt, pi⟩).1) ∧ W.ownsRow wN.heap.size 3 1 av k (xs.map (Value.int .i64))
  apart : ∀ q, wv.ownBlock = some q → av.ownBlock ≠ some q
theorem SeenH.keep (h : SeenH wN C ss pt pi k wv av W) (hk : K0 W W1) : SeenH wN C ss pt pi k wv av W1 := by
  obtain ⟨h0, ⟨vs, a1, a2, a3⟩, ⟨xs, b1, b2, b3⟩, h4⟩ := h
  exact ⟨K0.tr h0 hk, ⟨vs, a1, a2, y_row_keep hk a3 (fun _ _ e => e)⟩, ⟨xs, b1, b2, y_row_keep hk b3 (fun _ _ e => e)⟩, h4⟩
theorem seen_grown {o : Obj} {xs : List Value} {g cap : Nat} {e : TypeId} {sz : Nat} {v : Value} {m : Nat} (_hw : wN.heap.size ≤ W.heap.size) (_hv : ∀ q, v.ownBlock = some q → wN.heap.size ≤ q ∧ q < W.heap.size) (hA : App1 (W.alloc o) wN.heap.size e sz v m xs g cap W') : Keeps (fun q => v.ownBlock = some q) W W' :=
  (Keeps.refl (fun q => v.ownBlock = some q) W).grown (grown_alloc hA.grown) (fun _q e _ => e)
theorem SeenA.half {o : Obj} {g : GroupC} {a : Option Addr} {c gb cap : Nat} {vs : List SeenV} (h : SeenA wN C ss pt pi k wv av W) (hvs : vs.length = k ∧ ∀ j (hj : j < vs.length) (hs : j < ss.length), aget C.gs ss[j] = some vs[j].1) (hrow : W.ownsRow wN.heap.size 57 5 wv k (vs.flatMap encS)) (hu : ∀ hs : k < ss.length, aget C.gs ss[k] = some g)
    (hA : App1 (W.alloc o) wN.heap.size 57 5 wv k (vs.flatMap encS ++ encS (g, a, c)) gb cap W') : SeenH wN C ss pt pi k (.slice (some ⟨gb, 0, none⟩) (k + 1) cap) av W' := by
  obtain ⟨h0, _, ⟨xs, b1, b2, b3⟩, h4⟩ := h
  have hk := seen_grown h0.size hrow.lt hA
  refine ⟨h0.trans hk (fun q hq e => by have := (hrow.lt q e).1; omega), ⟨vs ++ [(g, a, c)], by simp [hvs.1], fun j hj hs => ?_, ?_⟩, ⟨xs, b1, b2, y_row_keep hk b3 (fun q e e2 => h4 q e2 e)⟩, fun q e => ?_⟩
  · by_cases hjk : j < k
    · have h9 := hvs.2 j (by omega) hs
      rw [h9]
      congr 1
      rw [List.getElem_append_left (by omega)]
    · have hj2 : j = k := by simp [hvs.1] at hj; omega
      subst hj2
      rw [hu hs]
      congr 1
      rw [List.getElem_append_right (by omega)]
      simp
  · rw [List.flatMap_append]
    simpa using hA.own
  · have e : some gb = some q := e
    cases e
    rcases hA.at_ with e2 | e2
    · exact h4 _ e2
    · intro e3
      have := (b3.lt _ e3).2
      simp at e2
      omega
theorem SeenH.full {o : Obj} {x : Int} {gb cap : Nat} {xs : List Int} (h : SeenH wN C ss pt pi k wv av W) (hxs : xs.length = k ∧ ∀ j (hj : j < xs.length) (hs : j < ss.length), xs[j] = (getV C.off ⟨ss[j], pt, pi⟩).1) (hrow : W.ownsRow wN.heap.size 3 1 av k (xs.map (Value.int .i64))) (hx : ∀ hs : k < ss.length, x = (getV C.off ⟨ss[k], pt, pi⟩).1)
    (hA : App1 (W.alloc o) wN.heap.size 3 1 av k (xs.map (Value.int .i64) ++ [.int .i64 x]) gb cap W') : SeenA wN C ss pt pi (k + 1) wv (.slice (some ⟨gb, 0, none⟩) (k + 1) cap) W' := by
  obtain ⟨h0, ⟨vs, a1, a2, a3⟩, _, h4⟩ := h
  have hk := seen_grown h0.size hrow.lt hA
  refine ⟨h0.trans hk (fun q hq e => by have := (hrow.lt q e).1; omega), ⟨vs, a1, a2, y_row_keep hk a3 (fun q e e2 => h4 q e e2)⟩, ⟨xs ++ [x], by simp [hxs.1], fun j hj hs => ?_, ?_⟩, fun q e => ?_⟩
  · by_cases hjk : j < k
    · rw [List.getElem_append_left (by omega)]
      exact hxs.2 j (by omega) hs
    · have hj2 : j = k := by simp [hxs.1] at hj; omega
      subst hj2
      rw [List.getElem_append_right (by omega)]
      simpa using hx hs
  · rw [List.map_append]
    exact hA.own
  · intro e2
    have e2 : some gb = some q := e2
    cases e2
    rcases hA.at_ with e3 | e3
    · exact h4 _ e e3
    · have := (a3.lt _ e).2
      simp at e3
      omega
end
/-- All names' groups and offsets, cell by cell. -/
structure SeenC (C : CoordC) (ss : List ByteArray) (pt : ByteArray) (pi : Int) (rn rw ra : Nat) (W : World) : Prop where
  n : ∀ j (hj : j < ss.length), W.cell? ⟨rn, j, none⟩ = some (.string ss[j])
  v : ∀ j (hj : j < ss.length), ∃ g a c, aget C.gs ss[j] = some g ∧ W.cell? ⟨rw, j * 5, none⟩ = some (.int .i64 g.phase) ∧ W.cell? ⟨rw, j * 5 + 1, none⟩ = some (.int .i64 g.gen) ∧ W.cell? ⟨rw, j * 5 + 3, none⟩ = some (.int .i64 g.til) ∧ W.cell? ⟨rw, j * 5 + 4, none⟩ = some (.slice a g.ones.length c)
  a : ∀ j (hj : j < ss.length), W.cell? ⟨ra, j, none⟩ = some (.int .i64 (getV C.off ⟨ss[j], pt, pi⟩).1)
section
variable {wN W W1 : World} {C : CoordC} {ss : List ByteArray} {pt : ByteArray} {pi : Int} {rn rw ra : Nat}
theorem SeenC.blocks (h : SeenC C ss pt pi rn rw ra W) (h1 : W1.heap[rn]? = W.heap[rn]?) (h2 : W1.heap[rw]? = W.heap[rw]?) (h3 : W1.heap[ra]? = W.heap[ra]?) : SeenC C ss pt pi rn rw ra W1 :=
  ⟨fun j hj => cell_of_block h1 (h.n j hj), fun j hj => by
    obtain ⟨g, a, c, q0, q1, q2, q3, q4⟩ := h.v j hj
    exact ⟨g, a, c, q0, cell_of_block h2 q1, cell_of_block h2 q2, cell_of_block h2 q3, cell_of_block h2 q4⟩, fun j hj => cell_of_block h3 (h.a j hj)⟩
theorem SeenC.keep (h : SeenC C ss pt pi rn rw ra W) (hk : K0 W W1) : SeenC C ss pt pi rn rw ra W1 :=
  ⟨fun j hj => hk.cell' (h.n j hj) (fun e => e), fun j hj => by
    obtain ⟨g, a, c, q0, q1, q2, q3, q4⟩ := h.v j hj
    exact ⟨g, a, c, q0, hk.cell' q1 (fun e => e), hk.cell' q2 (fun e => e), hk.cell' q3 (fun e => e), hk.cell' q4 (fun e => e)⟩, fun j hj => hk.cell' (h.a j hj) (fun e => e)⟩
theorem SeenA.all {wv av : Value} (h : SeenA wN C ss pt pi ss.length wv av W) (hne : ss ≠ []) {base : Nat} (hn : NRow W base rn ss) : ∃ rw ra cw ca, wv = .slice (some ⟨rw, 0, none⟩) ss.length cw ∧ av = .slice (some ⟨ra, 0, none⟩) ss.length ca ∧ (wN.heap.size ≤ rw ∧ rw < W.heap.size) ∧ (wN.heap.size ≤ ra ∧ ra < W.heap.size) ∧ SeenC C ss pt pi rn rw ra W := by
  obtain ⟨h0, ⟨vs, a1, a2, a3⟩, ⟨xs, b1, b2, b3⟩, h4⟩ := h
  have hpos : 0 < ss.length := List.length_pos_iff.2 hne
  rcases a3.2 with ⟨_, e⟩ | ⟨rw, cw, _, rfl, _⟩
  · omega
  rcases b3.2 with ⟨_, e⟩ | ⟨ra, ca, _, rfl, _⟩
  · omega
  refine ⟨rw, ra, cw, ca, rfl, rfl, a3.lt rw rfl, b3.lt ra rfl, hn.cell, fun j hj => ?_, fun j hj => ?_⟩
  · have hjv : j < vs.length := by omega
    have hc : ∀ i, i < 5 → W.cell? ⟨rw, j * 5 + i, none⟩ = (encS vs[j])[i]? := fun i hi => by
      rw [a3.cellAt (j * 5 + i) (by omega)]
      exact flatMap_get encS 5 encS_len vs j i hjv hi
    exact ⟨vs[j].1, vs[j].2.1, vs[j].2.2, a2 j hjv hj, hc 0 (by omega), hc 1 (by omega), hc 3 (by omega), hc 4 (by omega)⟩
  · have hjx : j < xs.length := by omega
    rw [b3.cellAt j (by omega), List.getElem?_map, List.getElem?_eq_getElem hjx]
    simp [b2 j hjx hj]
end
end Go.Proofs.YtklhlffdpojkoaaGreat
