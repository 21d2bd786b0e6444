/-
  The library's binary search in a rising list of places.
-/
import Derived.Test.YtklhlffdpojkoaaAi
namespace Go.Proofs.Ytklhlffdpojkoaa
open Go.RowKit Fx

/-- How many of the list are below x. -/
def below (l : List Nat) (x : Int) : Nat := (l.filter fun (i : Nat) => decide ((i : Int) < x)).length
theorem below_at {l : List Nat} (hl : l.Pairwise (· < ·)) {x : Int} {i : Nat} (hi : i ≤ l.length) (h1 : ∀ j (h : j < l.length), j < i → (l[j] : Int) < x) (h2 : ∀ j (h : j < l.length), i ≤ j → x ≤ l[j]) : below l x = i := by
  unfold below
  have e : l = l.take i ++ l.drop i := (List.take_append_drop i l).symm
  rw [e, List.filter_append, List.length_append]
  have a1 : (l.take i).filter (fun (i : Nat) => decide ((i : Int) < x)) = l.take i := by
    rw [List.filter_eq_self]
    intro y hy
    obtain ⟨j, hj, rfl⟩ := List.mem_iff_getElem.1 hy
    have hj' : j < i ∧ j < l.length := by simp at hj; omega
    rw [List.getElem_take]
    simpa using h1 j hj'.2 hj'.1
  have a2 : (l.drop i).filter (fun (i : Nat) => decide ((i : Int) < x)) = [] := by
    rw [List.filter_eq_nil_iff]
    intro y hy
    obtain ⟨j, hj, rfl⟩ := List.mem_iff_getElem.1 hy
    have hj' : i + j < l.length := by simp at hj; omega
    rw [List.getElem_drop]
    have := h2 (i + j) hj' (by omega)
    simpa using this
  rw [a1, a2]
  simp
  omega

/-- A place, and whether it was found. -/
def FoundAt (n : Nat) (e : Ending) : Prop := ∃ f, e = .returned (.tuple #[.int .i64 n, .bool f])
end Go.Proofs.Ytklhlffdpojkoaa
