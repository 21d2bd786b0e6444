/-
  The reference's Round: whom the scan finds.
-/
import Derived.Test.YtlmajhkhlmkeiaaAo
namespace Go.Proofs.Ytlmajhkhlmkeiaa
open Go.RowKit Fx

theorem mem_takers {subs : List SubC} {s : ByteArray} {i : Nat} : i ∈ takersL subs s ↔ i < subs.length ∧ wantB (topicsAt subs i) s = true := by
  simp [takersL, takeTo]
theorem next_at {tk : List Nat} (hl : tk.Pairwise (· < ·)) (hn : tk ≠ []) (la : Int) :
    (∃ c, c ∈ tk ∧ nextOf tk la = c ∧ la < c ∧ ∀ x, x ∈ tk → la < (x : Int) → c ≤ x) ∨ (∃ c, c ∈ tk ∧ nextOf tk la = c ∧ (∀ x : Nat, x ∈ tk → (x : Int) ≤ la) ∧ ∀ x, x ∈ tk → c ≤ x) := by
  have hmono : ∀ {i j : Nat} (hi : i < tk.length) (hj : j < tk.length), i ≤ j → tk[i] ≤ tk[j] := fun {i j} hi hj h => by
    rcases Nat.lt_or_ge i j with h1 | h1
    · exact Nat.le_of_lt (List.pairwise_iff_getElem.1 hl i j hi hj h1)
    · obtain rfl : i = j := by omega
      exact Nat.le_refl _
  have hp : 0 < tk.length := List.length_pos_iff.2 hn
  generalize hi : tk.findIdx (fun x : Nat => decide (la < (x : Int))) = i
  have hile : i ≤ tk.length := by rw [← hi]; exact List.findIdx_le_length
  have hlow : ∀ j (h : j < tk.length), j < i → (tk[j] : Int) < la + 1 := fun j h hj => by
    have := List.not_of_lt_findIdx (p := fun x : Nat => decide (la < (x : Int))) (xs := tk) (i := j) (by rw [hi]; exact hj)
    simp at this
    omega
  rcases Nat.lt_or_ge i tk.length with h | h
  · have hc : la < (tk[i] : Int) := by
      have := List.findIdx_getElem (p := fun x : Nat => decide (la < (x : Int))) (xs := tk) (w := by rw [hi]; exact h)
      simp only [hi] at this
      simpa using this
    have hbe : below tk (la + 1) = i := below_at hl hile hlow fun j hj h1 => by have := hmono h hj h1; omega
    left
    refine ⟨tk[i], List.getElem_mem h, ?_, hc, ?_⟩
    · unfold nextOf
      rw [hbe, Nat.mod_eq_of_lt h, List.getD, List.getElem?_eq_getElem h, Option.getD_some]
    · intro x hx hlx
      obtain ⟨j, hj, rfl⟩ := List.mem_iff_getElem.1 hx
      rcases Nat.lt_or_ge j i with h1 | h1
      · have := hlow j hj h1; omega
      · exact hmono h hj h1
  · obtain rfl : i = tk.length := by omega
    have hbe : below tk (la + 1) = tk.length := below_at hl hile hlow fun j hj h1 => by omega
    right
    refine ⟨tk[0], List.getElem_mem hp, ?_, ?_, ?_⟩
    · unfold nextOf
      rw [hbe, Nat.mod_self, List.getD, List.getElem?_eq_getElem hp, Option.getD_some]
    · intro x hx
      obtain ⟨j, hj, rfl⟩ := List.mem_iff_getElem.1 hx
      have := hlow j hj hj
      omega
    · intro x hx
      obtain ⟨j, hj, rfl⟩ := List.mem_iff_getElem.1 hx
      exact hmono hp hj (by omega)
/-- The place that the reference holds as its last. -/
def LastAt (n : Nat) (la : Int) (r : Nat) : Prop := la = r ∨ la = -1 ∧ r + 1 = n
theorem scan_ex {subs : List SubC} {s : ByteArray} (hn : takersL subs s ≠ []) {la : Int} {r : Nat} (hr : r < subs.length) (hla : LastAt subs.length la r) :
    ∃ k0, 1 ≤ k0 ∧ k0 ≤ subs.length ∧ (r + k0) % subs.length = nextOf (takersL subs s) la ∧ nextOf (takersL subs s) la ∈ takersL subs s ∧ ∀ k, 1 ≤ k → k < k0 → (r + k) % subs.length ∉ takersL subs s := by
  have hlt : ∀ x, x ∈ takersL subs s → x < subs.length := fun x hx => (mem_takers.1 hx).1
  rcases next_at (takers_rise subs s) hn la with ⟨c, hc, h1, h2, h3⟩ | ⟨c, hc, h1, h2, h3⟩
  · have hcn := hlt c hc
    rw [h1]
    rcases hla with rfl | ⟨rfl, hr1⟩
    · refine ⟨c - r, by omega, by omega, ?_, hc, fun k k1 k2 hm => ?_⟩
      · rw [show r + (c - r) = c by omega, Nat.mod_eq_of_lt hcn]
      · rw [Nat.mod_eq_of_lt (by omega)] at hm
        have := h3 _ hm (by omega)
        omega
    · refine ⟨c + 1, by omega, by omega, ?_, hc, fun k k1 k2 hm => ?_⟩
      · rw [show r + (c + 1) = c + subs.length by omega, Nat.add_mod_right, Nat.mod_eq_of_lt hcn]
      · rw [show r + k = (k - 1) + subs.length by omega, Nat.add_mod_right, Nat.mod_eq_of_lt (by omega)] at hm
        have := h3 _ hm (by omega)
        omega
  · have hcn := hlt c hc
    have hcl := h2 c hc
    rw [h1]
    rcases hla with rfl | ⟨rfl, hr1⟩
    · refine ⟨subs.length - r + c, by omega, by omega, ?_, hc, fun k k1 k2 hm => ?_⟩
      · rw [show r + (subs.length - r + c) = c + subs.length by omega, Nat.add_mod_right, Nat.mod_eq_of_lt hcn]
      · rcases Nat.lt_or_ge (r + k) subs.length with h4 | h4
        · rw [Nat.mod_eq_of_lt h4] at hm
          have := h2 _ hm
          omega
        · rw [show r + k = (r + k - subs.length) + subs.length by omega, Nat.add_mod_right, Nat.mod_eq_of_lt (by omega)] at hm
          have := h3 _ hm
          omega
    · omega
theorem scan_found {subs : List SubC} {s : ByteArray} {la : Int} {r k : Nat} (hr : r < subs.length) (hla : LastAt subs.length la r) (h1 : 1 ≤ k) (hb : ∀ j, 1 ≤ j → j < k → wantB (topicsAt subs ((r + j) % subs.length)) s = false) (hw : wantB (topicsAt subs ((r + k) % subs.length)) s = true) :
    takersL subs s ≠ [] ∧ nextOf (takersL subs s) la = (r + k) % subs.length := by
  have hm : (r + k) % subs.length ∈ takersL subs s := mem_takers.2 ⟨Nat.mod_lt _ (by omega), hw⟩
  have hn : takersL subs s ≠ [] := List.ne_nil_of_mem hm
  obtain ⟨k0, a1, a2, a3, a4, a5⟩ := scan_ex hn hr hla
  refine ⟨hn, ?_⟩
  rcases Nat.lt_trichotomy k k0 with h | h | h
  · exact absurd hm (a5 k h1 h)
  · rw [h, a3]
  · have e1 := hb k0 a1 h
    rw [a3] at e1
    have e2 := (mem_takers.1 a4).2
    rw [e1] at e2
    cases e2
theorem scan_none {subs : List SubC} {s : ByteArray} {la : Int} {r : Nat} (hr : r < subs.length) (hla : LastAt subs.length la r) (hb : ∀ j, 1 ≤ j → j < subs.length + 1 → wantB (topicsAt subs ((r + j) % subs.length)) s = false) : takersL subs s = [] := by
  by_cases hn : takersL subs s = []
  · exact hn
  · obtain ⟨k0, a1, a2, a3, a4, a5⟩ := scan_ex hn hr hla
    have e1 := hb k0 a1 (by omega)
    rw [a3] at e1
    have e2 := (mem_takers.1 a4).2
    rw [e1] at e2
    cases e2
/-- The first p partitions of a topic, dealt one by one, if anybody wants it. -/
def dealTo (tk : List Nat) (s : ByteArray) (p : Nat) (st : List ShareC × Int) : List ShareC × Int := if tk.length = 0 then st else roundParts tk s p st
end Go.Proofs.Ytlmajhkhlmkeiaa
