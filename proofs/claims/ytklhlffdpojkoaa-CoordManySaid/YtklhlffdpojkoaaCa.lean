/-
  A coordinator as an object: its own block, the map of its groups, each group by itself, the offsets' table. All of it made since w0.
-/
import Derived.Test.YtklhlffdpojkoaaOa
import Derived.Test.YtklhlffdpojkoaaGu
namespace Go.Proofs.Ytklhlffdpojkoaa
open Go.RowKit Go.Shelf Fx

structure CoordC where
  s : Int
  r : Int
  gs : List (ByteArray × GroupC)
  off : OffC
/-- Where all of it lies: the groups' map, the table, the offsets' map, the groups' blocks, what each of them takes. -/
structure CLay where
  gb : Nat
  tb : Nat
  ob : Nat
  L : List (ByteArray × (Nat × GroupC))
  fp : Nat → Nat → Prop
def gptr (p : Nat × GroupC) : Value := .pointer (some ⟨p.1, 0, none⟩)
def gcore (L : List (ByteArray × (Nat × GroupC))) : List (ByteArray × GroupC) := L.map fun p => (p.1, p.2.2)
theorem aget_core (L : List (ByteArray × (Nat × GroupC))) (s : ByteArray) : aget (gcore L) s = (aget L s).map (·.2) := by
  induction L with
  | nil => rfl
  | cons p L ih =>
    obtain ⟨k, x⟩ := p
    simp only [gcore, List.map_cons, aget] at ih ⊢
    by_cases h : k = s
    · simp [h]
    · simp only [h, if_false]; exact ih
theorem aput_core (L : List (ByteArray × (Nat × GroupC))) (s : ByteArray) (x : Nat × GroupC) : aput (gcore L) s x.2 = gcore (aput L s x) := by
  induction L with
  | nil => rfl
  | cons p L ih =>
    obtain ⟨k, u⟩ := p
    simp only [gcore, List.map_cons, aput] at ih ⊢
    by_cases h : k = s
    · simp [h]
    · simp only [h, if_false, List.map_cons]; rw [ih]
theorem aput_ptr {L : List (ByteArray × (Nat × GroupC))} {s : ByteArray} {b : Nat} {g : GroupC} (h : aget L s = some (b, g)) (g' : GroupC) : avals gptr (aput L s (b, g')) = avals gptr L := by
  induction L with
  | nil => simp [aget] at h
  | cons p L ih =>
    obtain ⟨k, u⟩ := p
    simp only [aget] at h
    by_cases hk : k = s
    · rw [if_pos hk] at h
      cases h
      simp [avals, aput, hk, gptr]
    · rw [if_neg hk] at h
      have := ih h
      simp only [avals, aput, if_neg hk, List.map_cons] at this ⊢
      rw [this]
structure CAt (w0 w : World) (cb : Nat) (C : CoordC) (Y : CLay) : Prop where
  k0 : K0 w0 w
  blk : w.heap[cb]? = some (.cells #[.int .i64 C.s, .int .i64 C.r, .map (some Y.gb), .pointer (some ⟨Y.tb, 0, none⟩)] 53 (0, 0))
  core : gcore Y.L = C.gs
  map : MapAt .string w Y.gb (avals gptr Y.L)
  off : OffAt w Y.tb Y.ob C.off
  ne1 : cb ≠ Y.gb
  ne2 : cb ≠ Y.ob
  ne3 : Y.gb ≠ Y.tb
  ne4 : Y.gb ≠ Y.ob
  new : w0.heap.size ≤ cb ∧ w0.heap.size ≤ Y.gb ∧ w0.heap.size ≤ Y.tb ∧ w0.heap.size ≤ Y.ob
  grp : ∀ i (hi : i < Y.L.length), Grp w (Y.fp i) Y.L[i].2.1 Y.L[i].2.2
  fpn : ∀ i k, i < Y.L.length → Y.fp i k → w0.heap.size ≤ k ∧ k ≠ cb ∧ k ≠ Y.gb ∧ k ≠ Y.tb ∧ k ≠ Y.ob
  apart : ∀ i j k, i < Y.L.length → j < Y.L.length → i ≠ j → Y.fp i k → ¬ Y.fp j k
def CSt (w0 w : World) (cb : Nat) (C : CoordC) : Prop := ∃ Y, CAt w0 w cb C Y
section
variable {w0 w w' : World} {cb : Nat} {C : CoordC} {Y : CLay}
theorem CAt.keep (h : CAt w0 w cb C Y) (hk : K0 w w') : CAt w0 w' cb C Y where
  k0 := K0.tr h.k0 hk
  blk := (hk.block cb (block_lt h.blk) (fun e => e)).trans h.blk
  core := h.core
  map := h.map.keep hk (fun e => e)
  off := h.off.keep hk (fun e => e) (fun e => e)
  ne1 := h.ne1
  ne2 := h.ne2
  ne3 := h.ne3
  ne4 := h.ne4
  new := h.new
  grp := fun i hi => (h.grp i hi).keep hk (fun _ _ e => e)
  fpn := h.fpn
  apart := h.apart
/-- Of what it takes nothing has turned. -/
theorem CAt.keepS (h : CAt w0 w cb C Y) {S : Nat → Prop} (hk : Keeps S w w') (hS : ∀ k, S k → w0.heap.size ≤ k ∧ k ≠ cb ∧ k ≠ Y.gb ∧ k ≠ Y.tb ∧ k ≠ Y.ob ∧ ∀ i, i < Y.L.length → ¬ Y.fp i k) : CAt w0 w' cb C Y where
  k0 := h.k0.trans hk (fun k hk e => absurd (hS k e).1 (by omega))
  blk := (hk.block cb (block_lt h.blk) (fun e => (hS _ e).2.1 rfl)).trans h.blk
  core := h.core
  map := h.map.keep hk (fun e => (hS _ e).2.2.1 rfl)
  off := h.off.keep hk (fun e => (hS _ e).2.2.2.1 rfl) (fun e => (hS _ e).2.2.2.2.1 rfl)
  ne1 := h.ne1
  ne2 := h.ne2
  ne3 := h.ne3
  ne4 := h.ne4
  new := h.new
  grp := fun i hi => (h.grp i hi).keep hk (fun k e1 e2 => (hS k e2).2.2.2.2.2 i hi e1)
  fpn := h.fpn
  apart := h.apart
theorem CSt.keep (h : CSt w0 w cb C) (hk : K0 w w') : CSt w0 w' cb C := by
  obtain ⟨Y, h⟩ := h
  exact ⟨Y, h.keep hk⟩
theorem CSt.k0 (h : CSt w0 w cb C) : K0 w0 w := by
  obtain ⟨Y, h⟩ := h
  exact h.k0
/-- Where a name is. -/
theorem CAt.at (h : CAt w0 w cb C Y) {s : ByteArray} {b : Nat} {g : GroupC} (e : aget Y.L s = some (b, g)) : ∃ i, ∃ hi : i < Y.L.length, Y.L[i] = (s, (b, g)) ∧ i = Y.L.findIdx (fun p => p.1 = s) ∧ Grp w (Y.fp i) b g := by
  have hi := findIdx_lt e
  have h2 := get_findIdx e
  rw [List.getElem?_eq_getElem hi] at h2
  have h3 : Y.L[Y.L.findIdx fun p => p.1 = s] = (s, (b, g)) := Option.some.inj h2
  refine ⟨_, hi, h3, rfl, ?_⟩
  have := h.grp _ hi
  rw [h3] at this
  exact this
/-- One group has turned. -/
theorem CAt.turn (h : CAt w0 w cb C Y) {s : ByteArray} {b : Nat} {g g' : GroupC} (e : aget Y.L s = some (b, g)) (hp : GrpPost w (Y.fp (Y.L.findIdx fun p => p.1 = s)) b g' w') :
    ∃ Y', CAt w0 w' cb ⟨C.s, C.r, aput C.gs s g', C.off⟩ Y' ∧ (Y'.gb = Y.gb ∧ Y'.tb = Y.tb ∧ Y'.ob = Y.ob ∧ Y'.L = aput Y.L s (b, g')) ∧ ∀ i k, i < Y'.L.length → Y'.fp i k → (i < Y.L.length ∧ Y.fp i k) ∨ w.heap.size ≤ k := by
  obtain ⟨i, hi, h3, hix, hg⟩ := h.at e
  rw [← hix] at hp
  obtain ⟨F', p1, p2, p3⟩ := hp
  have hlt : ∀ k, Y.fp i k → k < w.heap.size := hg.ltF
  have hS : ∀ k, Y.fp i k → w0.heap.size ≤ k ∧ k ≠ cb ∧ k ≠ Y.gb ∧ k ≠ Y.tb ∧ k ≠ Y.ob := fun k => h.fpn i k hi
  have hcb : cb < w.heap.size := block_lt h.blk
  have hL : aput Y.L s (b, g') = Y.L.modify i fun p => (p.1, (b, g')) := by rw [hix]; exact aput_mod e
  have hlen : (aput Y.L s (b, g')).length = Y.L.length := by rw [hL]; simp
  refine ⟨⟨Y.gb, Y.tb, Y.ob, aput Y.L s (b, g'), fun j => if j = i then F' else Y.fp j⟩, ?_, ⟨rfl, rfl, rfl, rfl⟩, fun j k hj hk => ?_⟩
  rotate_left
  · have hj' : j < Y.L.length := by rw [← hlen]; exact hj
    have hk2 : (if j = i then F' else Y.fp j) k := hk
    by_cases hij : j = i
    · rw [if_pos hij] at hk2
      exact (p2 k hk2).elim (fun e => .inl ⟨hj', by rw [hij]; exact e⟩) .inr
    · rw [if_neg hij] at hk2
      exact .inl ⟨hj', hk2⟩
  refine ⟨h.k0.trans p3 (fun k hk e => absurd (hS k e).1 (by omega)), (p3.block cb hcb (fun e => (hS cb e).2.1 rfl)).trans h.blk, ?_, ?_, ?_, h.ne1, h.ne2, h.ne3, h.ne4, h.new, ?_, ?_, ?_⟩
  · show gcore (aput Y.L s (b, g')) = aput C.gs s g'
    rw [← aput_core, h.core]
  · show MapAt .string w' Y.gb (avals gptr (aput Y.L s (b, g')))
    rw [aput_ptr e]
    exact h.map.keep p3 (fun e => (hS _ e).2.2.1 rfl)
  · exact h.off.keep p3 (fun e => (hS _ e).2.2.2.1 rfl) (fun e => (hS _ e).2.2.2.2 rfl)
  · intro j hj
    have hj' : j < Y.L.length := by rw [← hlen]; exact hj
    show Grp w' (if j = i then F' else Y.fp j) (aput Y.L s (b, g'))[j].2.1 (aput Y.L s (b, g'))[j].2.2
    by_cases hij : j = i
    · subst hij
      rw [if_pos rfl]
      have : (aput Y.L s (b, g'))[j] = (s, (b, g')) := by
        simp only [hL, List.getElem_modify_eq]
        rw [h3]
      rw [this]
      exact p1
    · rw [if_neg hij]
      have : (aput Y.L s (b, g'))[j] = Y.L[j] := by
        simp only [hL]
        simp [List.getElem_modify, Ne.symm hij]
      rw [this]
      exact (h.grp j hj').keep p3 (fun k e1 e2 => h.apart j i k hj' hi hij e1 e2)
  · intro j k hj hk
    have hj' : j < Y.L.length := by rw [← hlen]; exact hj
    have hk : (if j = i then F' else Y.fp j) k := hk
    by_cases hij : j = i
    · rw [if_pos hij] at hk
      rcases p2 k hk with e1 | e1
      · exact hS k e1
      · have h5 := h.k0.size
        have h6 := h.map.lt
        have h7 := block_lt h.off.blk
        have h8 := h.off.map.lt
        exact ⟨by omega, by omega, by show k ≠ Y.gb; omega, by show k ≠ Y.tb; omega, by show k ≠ Y.ob; omega⟩
    · rw [if_neg hij] at hk
      exact h.fpn j k hj' hk
  · intro j l k hj hl hjl e1 e2
    have hj' : j < Y.L.length := by rw [← hlen]; exact hj
    have hl' : l < Y.L.length := by rw [← hlen]; exact hl
    have e1 : (if j = i then F' else Y.fp j) k := e1
    have e2 : (if l = i then F' else Y.fp l) k := e2
    by_cases hij : j = i
    · rw [if_pos hij] at e1
      rw [if_neg (by omega)] at e2
      have hkl := (h.grp l hl').ltF k e2
      exact h.apart i l k hi hl' (by omega) ((p2 k e1).resolve_right (by omega)) e2
    · rw [if_neg hij] at e1
      by_cases hil : l = i
      · rw [if_pos hil] at e2
        have hkl := (h.grp j hj').ltF k e1
        exact h.apart i j k hi hj' (by omega) ((p2 k e2).resolve_right (by omega)) e1
      · rw [if_neg hil] at e2
        exact h.apart j l k hj' hl' hjl e1 e2
/-- One group more: made since, and put into the map. -/
theorem CAt.more (h : CAt w0 w cb C Y) {w1 : World} {s : ByteArray} {b : Nat} {g' : GroupC} {F : Nat → Prop} (e : aget Y.L s = none) (hk : K0 w w1) (hg : Grp w1 F b g') (hF : ∀ k, F k → w.heap.size ≤ k)
    {o : Obj} (hm : MapAt .string (setObjAt w1 Y.gb o) Y.gb (aput (avals gptr Y.L) s (gptr (b, g')))) :
    ∃ Y', CAt w0 (setObjAt w1 Y.gb o) cb ⟨C.s, C.r, aput C.gs s g', C.off⟩ Y' ∧ (Y'.gb = Y.gb ∧ Y'.tb = Y.tb ∧ Y'.ob = Y.ob ∧ Y'.L = aput Y.L s (b, g')) ∧ ∀ i k, i < Y'.L.length → Y'.fp i k → (i < Y.L.length ∧ Y.fp i k) ∨ w.heap.size ≤ k := by
  have hcb : cb < w.heap.size := block_lt h.blk
  have h5 := h.k0.size
  have h6 := h.map.lt
  have h7 := block_lt h.off.blk
  have h8 := h.off.map.lt
  have hp : Keeps (fun k => k = Y.gb) w (setObjAt w1 Y.gb o) := Keeps.setObj (S := fun k => k = Y.gb) (hk.mono (fun _ _ e => absurd e id)) (fun _ => rfl) _
  have hp1 : Keeps (fun k => k = Y.gb) w1 (setObjAt w1 Y.gb o) := Keeps.setObj (S := fun k => k = Y.gb) (Keeps.refl _ _) (fun _ => rfl) _
  have hL : aput Y.L s (b, g') = Y.L ++ [(s, (b, g'))] := aput_new e
  have hF1 : ∀ k, F k → ¬ k = Y.gb := fun k e1 e2 => by have := hF k e1; omega
  have hlen : (aput Y.L s (b, g')).length = Y.L.length + 1 := by rw [hL]; simp
  refine ⟨⟨Y.gb, Y.tb, Y.ob, aput Y.L s (b, g'), fun j => if j = Y.L.length then F else Y.fp j⟩, ?_, ⟨rfl, rfl, rfl, rfl⟩, fun j k hj hk => ?_⟩
  rotate_left
  · have hj : j < Y.L.length + 1 := by rw [← hlen]; exact hj
    have hk : (if j = Y.L.length then F else Y.fp j) k := hk
    by_cases hij : j = Y.L.length
    · rw [if_pos hij] at hk
      exact .inr (hF k hk)
    · rw [if_neg hij] at hk
      exact .inl ⟨by omega, hk⟩
  refine ⟨h.k0.trans hp (fun k hk e => by have := h.new.2.1; omega), (hp.block cb hcb h.ne1).trans h.blk, ?_, ?_, h.off.keep hp (fun e => h.ne3 e.symm) (fun e => h.ne4 e.symm), h.ne1, h.ne2, h.ne3, h.ne4, h.new, ?_, ?_, ?_⟩
  · show gcore (aput Y.L s (b, g')) = aput C.gs s g'
    rw [← aput_core, h.core]
  · show MapAt .string _ Y.gb (avals gptr (aput Y.L s (b, g')))
    rw [← aput_avals]
    exact hm
  · intro j hj
    show Grp _ (if j = Y.L.length then F else Y.fp j) (aput Y.L s (b, g'))[j].2.1 (aput Y.L s (b, g'))[j].2.2
    have hj : j < Y.L.length + 1 := by rw [← hlen]; exact hj
    by_cases hij : j = Y.L.length
    · subst hij
      rw [if_pos rfl]
      have : (aput Y.L s (b, g'))[Y.L.length]'(by omega) = (s, (b, g')) := by simp [hL]
      rw [this]
      exact hg.keep hp1 hF1
    · rw [if_neg hij]
      have hj' : j < Y.L.length := by omega
      have : (aput Y.L s (b, g'))[j]'(by omega) = Y.L[j] := by
        simp only [hL]
        rw [List.getElem_append_left hj']
      rw [this]
      exact (h.grp j hj').keep hp (fun k e1 e2 => (h.fpn j k hj' e1).2.2.1 e2)
  · intro j k hj hk
    have hj : j < Y.L.length + 1 := by rw [← hlen]; exact hj
    have hk : (if j = Y.L.length then F else Y.fp j) k := hk
    by_cases hij : j = Y.L.length
    · rw [if_pos hij] at hk
      have := hF k hk
      exact ⟨by omega, by omega, by show k ≠ Y.gb; omega, by show k ≠ Y.tb; omega, by show k ≠ Y.ob; omega⟩
    · rw [if_neg hij] at hk
      exact h.fpn j k (by omega) hk
  · intro j l k hj hl hjl e1 e2
    have hj : j < Y.L.length + 1 := by rw [← hlen]; exact hj
    have hl : l < Y.L.length + 1 := by rw [← hlen]; exact hl
    have e1 : (if j = Y.L.length then F else Y.fp j) k := e1
    have e2 : (if l = Y.L.length then F else Y.fp l) k := e2
    by_cases hij : j = Y.L.length
    · rw [if_pos hij] at e1
      rw [if_neg (by omega)] at e2
      have := (h.grp l (by omega)).ltF k e2
      have := hF k e1
      omega
    · rw [if_neg hij] at e1
      by_cases hil : l = Y.L.length
      · rw [if_pos hil] at e2
        have := (h.grp j (by omega)).ltF k e1
        have := hF k e2
        omega
      · rw [if_neg hil] at e2
        exact h.apart j l k (by omega) (by omega) hjl e1 e2
/-- The map's block has been laid anew with the same in it. -/
theorem CAt.reput (h : CAt w0 w cb C Y) {o : Obj} (hm : MapAt .string (setObjAt w Y.gb o) Y.gb (avals gptr Y.L)) : CAt w0 (setObjAt w Y.gb o) cb C Y := by
  have hp : Keeps (fun k => k = Y.gb) w (setObjAt w Y.gb o) := Keeps.setObj (S := fun k => k = Y.gb) (Keeps.refl _ _) (fun _ => rfl) _
  exact ⟨h.k0.trans hp (fun k hk e => by have := h.new.2.1; omega), (hp.block cb (block_lt h.blk) h.ne1).trans h.blk, h.core, hm, h.off.keep hp (fun e => h.ne3 e.symm) (fun e => h.ne4 e.symm), h.ne1, h.ne2, h.ne3, h.ne4, h.new,
    fun i hi => (h.grp i hi).keep hp (fun k e1 e2 => (h.fpn i k hi e1).2.2.1 e2), h.fpn, h.apart⟩
/-- The offsets' table has turned. -/
theorem CAt.offs (h : CAt w0 w cb C Y) {off' : OffC} (ho : OffAt w' Y.tb Y.ob off') (hp : Keeps (fun k => k = Y.ob) w w') : CAt w0 w' cb ⟨C.s, C.r, C.gs, off'⟩ Y :=
  ⟨h.k0.trans hp (fun k hk e => by have := h.new.2.2.2; omega), (hp.block cb (block_lt h.blk) h.ne2).trans h.blk, h.core, h.map.keep hp h.ne4, ho, h.ne1, h.ne2, h.ne3, h.ne4, h.new,
    fun i hi => (h.grp i hi).keep hp (fun k e1 e2 => (h.fpn i k hi e1).2.2.2.2 e2), h.fpn, h.apart⟩
end
end Go.Proofs.Ytklhlffdpojkoaa
