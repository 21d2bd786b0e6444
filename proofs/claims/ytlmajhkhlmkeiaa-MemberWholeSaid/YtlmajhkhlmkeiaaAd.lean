/-
  Shares in memory that a call has made and goes on changing: a row of members, each with a row of partitions of its own.
-/
import Derived.Test.YtlmajhkhlmkeiaaAc
import Derived.Deep.AppendLies
import Derived.Deep.RegionLaw
namespace Go.Proofs.Ytlmajhkhlmkeiaa
open Go.RowKit Fx

structure PartC where
  topic : ByteArray
  index : Int
structure ShareC where
  member : Int
  parts : List PartC
def ptCells (l : List PartC) : List Value := l.flatMap fun p => [.string p.topic, .int .i64 p.index]
def shCells : List ShareC → List Value → List Value
  | s :: l, v :: vs => .int .i64 s.member :: v :: shCells l vs
  | _, _ => []
theorem ptCells_append (l : List PartC) (p : PartC) : ptCells (l ++ [p]) = ptCells l ++ [.string p.topic, .int .i64 p.index] := by simp [ptCells]
theorem shCells_append : ∀ (l : List ShareC) (vs : List Value) (s : ShareC) (v : Value), vs.length = l.length → shCells (l ++ [s]) (vs ++ [v]) = shCells l vs ++ [.int .i64 s.member, v]
  | [], [], _, _, _ => rfl
  | _ :: l, _ :: vs, s, v, h => by simp [shCells, shCells_append l vs s v (by simpa using h)]
theorem shCells_member : ∀ (l : List ShareC) (vs : List Value) (m : Nat) (h : m < l.length), vs.length = l.length → (shCells l vs)[m * 2]? = some (.int .i64 l[m].member)
  | s :: l, v :: vs, 0, _, _ => rfl
  | s :: l, v :: vs, m + 1, h, e => by
    have := shCells_member l vs m (by simpa using h) (by simpa using e)
    simpa [shCells, Nat.add_mul] using this
theorem shCells_value : ∀ (l : List ShareC) (vs : List Value) (m : Nat) (h : m < vs.length), vs.length = l.length → (shCells l vs)[m * 2 + 1]? = some vs[m]
  | [], [], m, h, _ => absurd h (by simp)
  | s :: l, v :: vs, 0, _, _ => rfl
  | s :: l, v :: vs, m + 1, h, e => by
    have := shCells_value l vs m (by simpa using h) (by simpa using e)
    simpa [shCells, Nat.add_mul] using this
theorem shCells_set : ∀ (l : List ShareC) (vs : List Value) (m : Nat) (u : Value), vs.length = l.length → (shCells l vs).set (m * 2 + 1) u = shCells l (vs.set m u)
  | [], [], m, u, _ => rfl
  | s :: l, v :: vs, 0, u, _ => rfl
  | s :: l, v :: vs, m + 1, u, e => by
    have := shCells_set l vs m u (by simpa using e)
    simp [shCells, Nat.add_mul] at this ⊢
    exact this
theorem shCells_modify : ∀ (l : List ShareC) (vs : List Value) (m : Nat) (f : List PartC → List PartC), shCells (l.modify m fun s => ⟨s.member, f s.parts⟩) vs = shCells l vs
  | [], _, m, f => by cases m <;> rfl
  | s :: l, [], m, f => by cases m <;> rfl
  | s :: l, v :: vs, 0, f => rfl
  | s :: l, v :: vs, m + 1, f => by simp [shCells, shCells_modify l vs m f]

/-- Shares that are owned: v leads to them; F tells the blocks that they take. -/
structure SharesAt (w : World) (F : Nat → Prop) (v : Value) (l : List ShareC) (vs : List Value) : Prop where
  len : vs.length = l.length
  row : w.ownsRow 0 95 2 v l.length (shCells l vs)
  parts : ∀ i (h : i < l.length), w.ownsRow 0 61 2 (vs[i]'(by rw [len]; exact h)) l[i].parts.length (ptCells l[i].parts)
  apart : ∀ i j (hi : i < vs.length) (hj : j < vs.length), i ≠ j → vs[i].ownBlock = none ∨ vs[i].ownBlock ≠ vs[j].ownBlock
  own : ∀ i (hi : i < vs.length), vs[i].ownBlock = none ∨ vs[i].ownBlock ≠ v.ownBlock
  foot : ∀ k, v.ownBlock = some k → F k
  footP : ∀ i (h : i < vs.length) k, vs[i].ownBlock = some k → F k
  lt : ∀ k, F k → k < w.heap.size

theorem keeps_grown {w w' : World} {S : Nat → Prop} (h : Keeps S w w') {row : Option Nat} (hr : ∀ k, k < w.heap.size → S k → some k = row) : w.grownBy w' row :=
  ⟨h.os, h.tape, h.output, h.size, fun k hk hne => h.block k hk fun e => hne (hr k hk e)⟩
theorem own_keep {w w' : World} {S : Nat → Prop} (hk : Keeps S w w') {base : Nat} {e : TypeId} {size : Nat} {v : Value} {n : Nat} {xs : List Value} (h : w.ownsRow base e size v n xs) (hS : ∀ k, v.ownBlock = some k → ¬ S k) : w'.ownsRow base e size v n xs := by
  refine ⟨h.1, ?_⟩
  rcases h.2 with hn | ⟨g, cap, cur, rfl, hb, hgg, rest⟩
  · exact .inl hn
  · exact .inr ⟨g, cap, cur, rfl, hb, (hk.block g (Array.getElem?_eq_some_iff.1 hgg).1 (hS g rfl)).trans hgg, rest⟩
theorem own_lt {w : World} {base : Nat} {e : TypeId} {size : Nat} {v : Value} {n : Nat} {xs : List Value} (h : w.ownsRow base e size v n xs) {k : Nat} (hk : v.ownBlock = some k) : k < w.heap.size := (h.lt k hk).2
theorem SharesAt.keep {w w' : World} {F : Nat → Prop} {v : Value} {l : List ShareC} {vs : List Value} (h : SharesAt w F v l vs) {S : Nat → Prop} (hk : Keeps S w w') (hS : ∀ k, F k → ¬ S k) : SharesAt w' F v l vs :=
  ⟨h.len, own_keep hk h.row (fun k e => hS k (h.foot k e)), fun i hi => own_keep hk (h.parts i hi) (fun k e => hS k (h.footP i (by rw [h.len]; exact hi) k e)), h.apart, h.own, h.foot, h.footP, fun k e => Nat.lt_of_lt_of_le (h.lt k e) hk.size⟩
theorem SharesAt.start (w : World) : SharesAt w (fun _ => False) (.slice none 0 0) [] [] :=
  ⟨rfl, World.ownsRow_nil _ _ _ _, fun i h => absurd h (Nat.not_lt_zero _), fun i _ h => absurd h (Nat.not_lt_zero _), fun i h => absurd h (Nat.not_lt_zero _), fun k h => by simp [Value.ownBlock] at h, fun i h => absurd h (Nat.not_lt_zero _), fun _ h => h.elim⟩

theorem info39 : (Try.prog.info? 95).map (fun i => (i.zero, i.size, i.bytes)) = some (some (.agg #[.int .i64 0, .slice none 0 0]), 2, 32) := by kernel_rfl
theorem info41 : (Try.prog.info? 61).map (fun i => (i.zero, i.size, i.bytes)) = some (some (.agg #[.string ⟨#[]⟩, .int .i64 0]), 2, 24) := by kernel_rfl
theorem info3 : (Try.prog.info? 3).map (fun i => (i.zero, i.size, i.bytes)) = some (some (.int .i64 0), 1, 8) := by kernel_rfl

/-- Behind an append of one share without partitions. -/
theorem SharesAt.more {w w1 : World} {F : Nat → Prop} {v : Value} {l : List ShareC} {vs : List Value} (h : SharesAt w F v l vs) {g cap H n : Nat} {m : Int} (hn : n = l.length)
    (hown : w1.ownsRow 0 95 2 (.slice (some ⟨g, 0, none⟩) (n + 1) cap) (n + 1) (shCells l vs ++ [.int .i64 m, .slice none 0 0])) (hg : w.grownBy w1 v.ownBlock) (hat : v.ownBlock = some g ∨ g = H) (hH : w.heap.size ≤ H) :
    SharesAt w1 (fun k => F k ∨ k = g) (.slice (some ⟨g, 0, none⟩) (n + 1) cap) (l ++ [⟨m, []⟩]) (vs ++ [.slice none 0 0]) ∧ Keeps F w w1 := by
  subst hn
  have hk : Keeps (fun k => v.ownBlock = some k) w w1 := ⟨hg.os, hg.tape, hg.output, hg.size, fun k hk hne => hg.block k hk (fun e => hne e.symm)⟩
  have hnew : ∀ i (hi : i < vs.length), vs[i].ownBlock ≠ some g := by
    intro i hi e
    rcases hat with hv | hv
    · rcases h.own i hi with h1 | h1
      · rw [h1] at e; cases e
      · exact h1 (e.trans hv.symm)
    · have := own_lt (h.parts i (by rw [← h.len]; exact hi)) e
      omega
  refine ⟨⟨by simp [h.len], ?_, ?_, ?_, ?_, ?_, ?_, ?_⟩, hk.mono fun k _ e => h.foot k e⟩
  · rw [shCells_append _ _ _ _ h.len]; simpa using hown
  · intro i hi
    by_cases hil : i < l.length
    · have hiv : i < vs.length := by rw [h.len]; exact hil
      simp only [List.getElem_append_left hil, List.getElem_append_left hiv]
      exact own_keep hk (h.parts i hil) (fun k e => (h.own i hiv).elim (fun h1 => by rw [h1] at e; cases e) (fun h1 h2 => h1 (e.trans h2.symm)))
    · have : i = l.length := by simp at hi; omega
      subst this
      simp only [List.getElem_append_right (Nat.le_refl _), List.getElem_append_right (show vs.length ≤ l.length by rw [h.len]; omega), h.len]
      simpa [ptCells] using World.ownsRow_nil w1 0 61 2
  · intro i j hi hj hne
    by_cases hil : i < vs.length
    · by_cases hjl : j < vs.length
      · simp only [List.getElem_append_left hil, List.getElem_append_left hjl]; exact h.apart i j hil hjl hne
      · simp only [List.getElem_append_left hil, List.getElem_append_right (Nat.le_of_not_lt hjl)]
        cases hq : vs[i].ownBlock with
        | none => exact .inl rfl
        | some q => right; simp [Value.ownBlock]
    · left
      simp only [List.getElem_append_right (Nat.le_of_not_lt hil)]
      simp [Value.ownBlock]
  · intro i hi
    by_cases hil : i < vs.length
    · simp only [List.getElem_append_left hil]
      exact .inr (hnew i hil)
    · left
      simp only [List.getElem_append_right (Nat.le_of_not_lt hil)]
      simp [Value.ownBlock]
  · intro k e
    exact .inr (by simpa [Value.ownBlock] using e.symm)
  · intro i hi k e
    by_cases hil : i < vs.length
    · rw [List.getElem_append_left hil] at e
      exact .inl (h.footP i hil k e)
    · rw [List.getElem_append_right (Nat.le_of_not_lt hil)] at e
      simp [Value.ownBlock] at e
  · rintro k (e | rfl)
    · exact Nat.lt_of_lt_of_le (h.lt k e) hg.size
    · exact own_lt hown rfl

/-- Behind an append to one member's partitions, and the store of what came of it. -/
theorem SharesAt.give {w w1 : World} {F : Nat → Prop} {g cap : Nat} {l : List ShareC} {vs : List Value} (h : SharesAt w F (.slice (some ⟨g, 0, none⟩) l.length cap) l vs) {m : Nat} (hm : m < l.length) (hv : m < vs.length) {p : PartC} {g1 cap1 H n : Nat} (hn : n = l[m].parts.length)
    (hown : w1.ownsRow 0 61 2 (.slice (some ⟨g1, 0, none⟩) (n + 1) cap1) (n + 1) (ptCells l[m].parts ++ [.string p.topic, .int .i64 p.index]))
    (hg : w.grownBy w1 vs[m].ownBlock) (hat : vs[m].ownBlock = some g1 ∨ g1 = H) (hH : w.heap.size ≤ H) :
    SharesAt (w1.setCell ⟨g, m * 2 + 1, none⟩ (.slice (some ⟨g1, 0, none⟩) (n + 1) cap1)) (fun k => F k ∨ k = g1) (.slice (some ⟨g, 0, none⟩) l.length cap) (l.modify m fun s => ⟨s.member, s.parts ++ [p]⟩) (vs.set m (.slice (some ⟨g1, 0, none⟩) (n + 1) cap1)) ∧
      Keeps F w (w1.setCell ⟨g, m * 2 + 1, none⟩ (.slice (some ⟨g1, 0, none⟩) (n + 1) cap1)) := by
  subst hn
  have hglt : g < w.heap.size := own_lt h.row rfl
  have hk1 : Keeps (fun k => vs[m].ownBlock = some k) w w1 := ⟨hg.os, hg.tape, hg.output, hg.size, fun k hk hne => hg.block k hk (fun e => hne e.symm)⟩
  have hmg : vs[m].ownBlock ≠ some g := by
    rcases h.own m hv with h1 | h1
    · rw [h1]; simp
    · simpa [Value.ownBlock] using h1
  have hg1 : g1 ≠ g := by
    rcases hat with e | e
    · intro e2; exact hmg (e.trans (by rw [e2]))
    · omega
  have hrow1 : w1.ownsRow 0 95 2 (.slice (some ⟨g, 0, none⟩) l.length cap) l.length (shCells l vs) := own_keep hk1 h.row (fun k e => by
    have : g = k := by simpa [Value.ownBlock] using e
    subst this; exact hmg)
  have hst := hrow1.stored (m * 2 + 1) (.slice (some ⟨g1, 0, none⟩) (l[m].parts.length + 1) cap1)
  rw [shCells_set _ _ _ _ h.len] at hst
  have hk2 : Keeps (fun k => k = g) w1 (w1.setCell ⟨g, m * 2 + 1, none⟩ (.slice (some ⟨g1, 0, none⟩) (l[m].parts.length + 1) cap1)) := (Keeps.refl (fun k => k = g) w1).setC _ _ (fun _ => rfl)
  have hk : Keeps F w (w1.setCell ⟨g, m * 2 + 1, none⟩ (.slice (some ⟨g1, 0, none⟩) (l[m].parts.length + 1) cap1)) :=
    (hk1.mono fun k _ e => h.footP m hv k e).trans hk2 (fun k _ e => by subst e; exact h.foot _ rfl)
  refine ⟨⟨by simp [h.len], ?_, ?_, ?_, ?_, ?_, ?_, ?_⟩, hk⟩
  · rw [shCells_modify _ _ _ (fun x => x ++ [p])]
    simpa using hst.1
  · intro i hi
    have hi' : i < l.length := by simpa using hi
    by_cases him : i = m
    · subst him
      simp only [List.getElem_set_self, List.getElem_modify_eq, ptCells_append, List.length_append, List.length_singleton]
      exact own_keep hk2 hown (fun k e => by have : g1 = k := by simpa [Value.ownBlock] using e
                                             omega)
    · have hiv : i < vs.length := by rw [h.len]; exact hi'
      simp only [List.getElem_set_ne (Ne.symm him), List.getElem_modify, if_neg (Ne.symm him)]
      refine own_keep hk2 (own_keep hk1 (h.parts i hi') fun k e => ?_) fun k e => ?_
      · rcases h.apart i m hiv hv him with h1 | h1
        · rw [h1] at e; cases e
        · exact fun e2 => h1 (e.trans e2.symm)
      · rcases h.own i hiv with h1 | h1
        · rw [h1] at e; cases e
        · intro e2; subst e2; exact h1 e
  · intro i j hi hj hne
    have hi' : i < vs.length := by simpa using hi
    have hj' : j < vs.length := by simpa using hj
    by_cases him : i = m
    · subst him
      simp only [List.getElem_set_self, List.getElem_set_ne hne]
      right
      intro e
      have e' : vs[j].ownBlock = some g1 := e.symm
      rcases hat with h1 | h1
      · rcases h.apart j i hj' hv (Ne.symm hne) with h2 | h2
        · rw [h2] at e'; cases e'
        · exact h2 (e'.trans h1.symm)
      · have := own_lt (h.parts j (by rw [← h.len]; exact hj')) e'
        omega
    · by_cases hjm : j = m
      · subst hjm
        simp only [List.getElem_set_self, List.getElem_set_ne (Ne.symm hne)]
        cases hq : vs[i].ownBlock with
        | none => exact .inl rfl
        | some q =>
          right
          intro e
          have e' : vs[i].ownBlock = some g1 := by rw [hq]; exact e
          rcases hat with h1 | h1
          · rcases h.apart i j hi' hv hne with h2 | h2
            · rw [h2] at e'; cases e'
            · exact h2 (e'.trans h1.symm)
          · have := own_lt (h.parts i (by rw [← h.len]; exact hi')) e'
            omega
      · simp only [List.getElem_set_ne (Ne.symm him), List.getElem_set_ne (Ne.symm hjm)]
        exact h.apart i j hi' hj' hne
  · intro i hi
    have hi' : i < vs.length := by simpa using hi
    by_cases him : i = m
    · subst him
      simp only [List.getElem_set_self]
      right
      simp [Value.ownBlock, hg1]
    · simp only [List.getElem_set_ne (Ne.symm him)]
      exact h.own i hi'
  · intro k e
    exact .inl (h.foot k e)
  · intro i hi k e
    have hi' : i < vs.length := by simpa using hi
    by_cases him : i = m
    · subst him
      simp only [List.getElem_set_self] at e
      exact .inr (by simpa [Value.ownBlock] using e.symm)
    · simp only [List.getElem_set_ne (Ne.symm him)] at e
      exact .inl (h.footP i hi' k e)
  · rintro k (e | rfl)
    · exact Nat.lt_of_lt_of_le (h.lt k e) hk.size
    · exact Nat.lt_of_lt_of_le (own_lt hown rfl) hk2.size
end Go.Proofs.Ytlmajhkhlmkeiaa
