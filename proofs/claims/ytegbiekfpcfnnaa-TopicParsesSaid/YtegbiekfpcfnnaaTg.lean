/-
  TopicOrder, the plain part: what a table has is what was made, in whatever order.
-/
import Derived.Test.YtegbiekfpcfnnaaTe
import Derived.Test.YtegbiekfpcfnnaaMl
namespace Go.Proofs.Ytegbiekfpcfnnaa
open Go.RowKit Fx

def validO (o : OpC) : Prop := ¬ (o.name.size = 0 ∨ 100 < o.name.size ∨ o.parts < 1 ∨ 16 < o.parts)
/-- A table that has just what was made. -/
structure Made (xs : List OpC) (n0 : Int) (t : Tbl) : Prop where
  keys : KD t.all
  len : t.all.length ≤ xs.length
  next : n0 ≤ t.next ∧ t.next ≤ n0 + xs.length
  has : ∀ s p, (∃ id, aget t.all s = some (id, p)) ↔ ∃ o ∈ xs, o.name = s ∧ o.parts = p ∧ validO o
def addO (t : Tbl) (o : OpC) : Tbl := (t.create o.name o.parts).2.2
theorem aput_len {κ α : Type} [DecidableEq κ] (L : List (κ × α)) (s : κ) (v : α) : (aput L s v).length ≤ L.length + 1 := by
  induction L with
  | nil => simp [aput]
  | cons p L ih =>
    obtain ⟨k, u⟩ := p
    simp only [aput]
    split
    · simp
    · simp only [List.length_cons]; omega
theorem Made.step {xs : List OpC} {n0 : Int} {t : Tbl} (h : Made xs n0 t) {o : OpC} (hn : ∀ x ∈ xs, x.name ≠ o.name) (h0 : 0 ≤ n0 ∧ n0 ≤ 10) (hl : xs.length < 20) : Made (xs ++ [o]) n0 (addO t o) := by
  have hl1 := h.len
  have hnx := h.next
  unfold addO Tbl.create
  split
  · rename_i hv
    refine ⟨h.keys, by simp; omega, ⟨hnx.1, by simp; omega⟩, fun s p => ?_⟩
    rw [h.has]
    constructor
    · rintro ⟨x, hx, e⟩
      exact ⟨x, List.mem_append_left _ hx, e⟩
    · rintro ⟨x, hx, e⟩
      rcases List.mem_append.1 hx with hx | hx
      · exact ⟨x, hx, e⟩
      · obtain rfl := List.mem_singleton.1 hx
        exact absurd hv e.2.2
  · rename_i hv
    have hno : aget t.all o.name = none := by
      cases hg : aget t.all o.name with
      | none => rfl
      | some q =>
        obtain ⟨id, p⟩ := q
        obtain ⟨x, hx, e, _⟩ := (h.has o.name p).1 ⟨id, hg⟩
        exact absurd e (hn x hx)
    rw [hno]
    dsimp only
    rw [if_neg (by omega)]
    have hal := aput_len t.all o.name (t.next, o.parts)
    refine ⟨h.keys.put _ _, by simp; omega, ⟨by show n0 ≤ t.next + 1; omega, by show t.next + 1 ≤ _; simp; omega⟩, fun s p => ?_⟩
    show (∃ id, aget (aput t.all o.name (t.next, o.parts)) s = some (id, p)) ↔ _
    rw [aget_aput]
    by_cases hs : o.name = s
    · rw [if_pos hs]
      constructor
      · rintro ⟨id, e⟩
        simp only [Option.some.injEq, Prod.mk.injEq] at e
        exact ⟨o, by simp, hs, e.2, hv⟩
      · rintro ⟨x, hx, e1, e2, _⟩
        rcases List.mem_append.1 hx with hx | hx
        · exact absurd (e1.trans hs.symm) (hn x hx)
        · obtain rfl := List.mem_singleton.1 hx
          exact ⟨t.next, by rw [e2]⟩
    · rw [if_neg hs, h.has]
      constructor
      · rintro ⟨x, hx, e⟩
        exact ⟨x, List.mem_append_left _ hx, e⟩
      · rintro ⟨x, hx, e⟩
        rcases List.mem_append.1 hx with hx | hx
        · exact ⟨x, hx, e⟩
        · obtain rfl := List.mem_singleton.1 hx
          exact absurd e.1 hs
theorem Made.none (n0 : Int) : Made [] n0 ⟨n0, []⟩ := ⟨.nil, Nat.le_refl _, ⟨Int.le_refl _, by simp⟩, fun s p => by simp [aget]⟩
def fillO (n0 : Int) (xs : List OpC) : Tbl := xs.foldl addO ⟨n0, []⟩
theorem fill_made {n0 : Int} (h0 : 0 ≤ n0 ∧ n0 ≤ 10) {xs : List OpC} (hd : (xs.map (·.name)).Nodup) (hl : xs.length ≤ 20) : ∀ i, i ≤ xs.length → Made (xs.take i) n0 (fillO n0 (xs.take i))
  | 0, _ => Made.none n0
  | i + 1, hi => by
    have ih := fill_made h0 hd hl i (by omega)
    have hi' : i < xs.length := by omega
    rw [List.take_succ_eq_append_getElem hi']
    have : fillO n0 (xs.take i ++ [xs[i]]) = addO (fillO n0 (xs.take i)) xs[i] := by unfold fillO; rw [List.foldl_append]; rfl
    rw [this]
    refine ih.step (fun x hx e => ?_) h0 (by simp; omega)
    obtain ⟨j, hj, rfl⟩ := List.mem_iff_getElem.1 hx
    simp only [List.length_take] at hj
    rw [List.getElem_take] at e
    have := (List.nodup_iff_pairwise_ne.1 hd)
    rw [List.pairwise_map, List.pairwise_iff_getElem] at this
    exact this j i (by omega) hi' (by omega) e
theorem fill_next (n0 : Int) (xs : List OpC) {i : Nat} (hi : i < xs.length) : fillO n0 (xs.take (i + 1)) = addO (fillO n0 (xs.take i)) xs[i] := by
  rw [List.take_succ_eq_append_getElem hi]
  unfold fillO
  rw [List.foldl_append]
  rfl
/-- Two tables that have the same topics, with the same partitions. -/
def Alike (t u : Tbl) : Prop := ∀ s p, (∃ id, aget t.all s = some (id, p)) ↔ ∃ id, aget u.all s = some (id, p)
theorem alike_rev {n0 n1 : Int} (h0 : 0 ≤ n0 ∧ n0 ≤ 10) (h1 : 0 ≤ n1 ∧ n1 ≤ 10) {xs : List OpC} (hd : (xs.map (·.name)).Nodup) (hl : xs.length ≤ 20) : Alike (fillO n0 xs) (fillO n1 xs.reverse) ∧ KD (fillO n0 xs).all ∧ KD (fillO n1 xs.reverse).all := by
  have a := fill_made h0 hd hl xs.length (Nat.le_refl _)
  have hd2 : (xs.reverse.map (·.name)).Nodup := by rw [List.map_reverse]; exact (List.reverse_perm _).nodup_iff.2 hd
  have b := fill_made h1 hd2 (by simpa using hl) xs.reverse.length (Nat.le_refl _)
  rw [List.take_length] at a b
  exact ⟨fun s p => by rw [a.has, b.has]; simp only [List.mem_reverse], a.keys, b.keys⟩
def partsT (t : Tbl) (s : ByteArray) : Int := ((aget t.all s).getD (0, 0)).2
theorem alike_parts {t u : Tbl} (h : Alike t u) {s : ByteArray} (hs : s ∈ t.all.map (·.1)) (hd : KD t.all) : partsT t s = partsT u s := by
  obtain ⟨q, hq, rfl⟩ := List.mem_map.1 hs
  have e1 := aget_of_mem hd hq
  obtain ⟨id, e2⟩ := (h q.1 q.2.2).1 ⟨q.2.1, e1⟩
  simp [partsT, e1, e2]
theorem alike_keys {t u : Tbl} (h : Alike t u) (h1 : KD t.all) (h2 : KD u.all) : (t.all.map (·.1)).Perm (u.all.map (·.1)) := by
  refine (List.perm_ext_iff_of_nodup h1 h2).2 fun s => ?_
  constructor
  · intro hs
    obtain ⟨q, hq, rfl⟩ := List.mem_map.1 hs
    obtain ⟨id, e2⟩ := (h q.1 q.2.2).1 ⟨q.2.1, aget_of_mem h1 hq⟩
    exact List.mem_map.2 ⟨(q.1, (id, q.2.2)), aget_in e2, rfl⟩
  · intro hs
    obtain ⟨q, hq, rfl⟩ := List.mem_map.1 hs
    obtain ⟨id, e2⟩ := (h q.1 q.2.2).2 ⟨q.2.1, aget_of_mem h2 hq⟩
    exact List.mem_map.2 ⟨(q.1, (id, q.2.2)), aget_in e2, rfl⟩
/-- Sorted names of the same set are the same list. -/
theorem sorted_eq {a b : List ByteArray} (hp : a.Perm b) (h1 : (a.map fun s => s.data.toList).Pairwise (fun x y => x ≤ y)) (h2 : (b.map fun s => s.data.toList).Pairwise (fun x y => x ≤ y)) : a = b := by
  have h3 : (a.map fun s => s.data.toList) = b.map fun s => s.data.toList :=
    (hp.map _).eq_of_pairwise (fun x y _ _ e1 e2 => List.le_antisymm e1 e2) h1 h2
  have hinj : ∀ x y : ByteArray, x.data.toList = y.data.toList → x = y := fun x y e => ByteArray.ext (Array.ext' e)
  exact List.map_inj_right hinj |>.1 h3
end Go.Proofs.Ytegbiekfpcfnnaa
