/-
  Who wants a topic: the library's search in a list of texts, the reference's, and the lists of takers.
-/
import Derived.Test.YtklhlffdpojkoaaAd
namespace Go.Proofs.Ytklhlffdpojkoaa
open Go.RowKit Fx

def wantB (l : List ByteArray) (s : ByteArray) : Bool := l.any fun x => decide (x = s)
theorem wantB_true {l : List ByteArray} {s : ByteArray} {k : Nat} (hk : k < l.length) (h : l[k] = s) : wantB l s = true := by
  rw [wantB, List.any_eq_true]
  exact ⟨l[k], List.getElem_mem hk, by simpa using h⟩
theorem wantB_false {l : List ByteArray} {s : ByteArray} (h : ∀ j (h : j < l.length), l[j] ≠ s) : wantB l s = false := by
  rw [wantB, List.any_eq_false]
  intro x hx
  obtain ⟨j, hj, e⟩ := List.mem_iff_getElem.1 hx
  subst e
  simpa using h j hj
theorem toList_ne {a b : ByteArray} (h : ¬ a = b) : (b.toList == a.toList) = false ∧ (a.toList == b.toList) = false := by
  have : ¬ a.toList = b.toList := fun e => h (by
    rw [ByteArray.toList_eq, ByteArray.toList_eq] at e
    cases a; cases b
    simp only [ByteArray.mk.injEq]
    exact Array.toList_inj.1 e)
  exact ⟨by simpa using fun e => this e.symm, by simpa using this⟩

end Go.Proofs.Ytklhlffdpojkoaa
