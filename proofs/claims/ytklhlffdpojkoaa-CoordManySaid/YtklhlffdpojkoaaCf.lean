/-
  What a group of n that join one by one, and leave one by one, is: for the law of nobody's commits.
-/
import Derived.Test.YtklhlffdpojkoaaCc
namespace Go.Proofs.Ytklhlffdpojkoaa
open Go.RowKit Go.Shelf Fx

def gA : Nat → GroupC
  | 0 => newG 100 100
  | i + 1 => joinG (gA i) (-1) [] 1
def lA (n : Nat) : Nat → GroupC
  | 0 => gA n
  | k + 1 => leaveG (lA n k) k 2
def fac1 (i : Nat) : Bool := decide (joinE (gA i) (-1) [] 1 = 0) && decide (nextM (gA i) (-1) = i) && decide ((gA (i + 1)).phase ≠ 0)
def fac2 (n k : Nat) : Bool := decide (leaveE (lA n k) k 2 = 0) && decide ((lA n k).phase ≠ 0)
def fac3 (n : Nat) : Bool := decide ((lA n n).phase = 0)
theorem fac1_all : (List.range 10).all fac1 = true := by kernel_rfl
theorem fac2_all : ((List.range 11).all fun n => (List.range n).all fun k => fac2 n k) = true := by kernel_rfl
theorem fac3_all : (List.range 11).all fac3 = true := by kernel_rfl
theorem gA_join {i : Nat} (h : i < 10) : joinE (gA i) (-1) [] 1 = 0 ∧ nextM (gA i) (-1) = i ∧ (gA (i + 1)).phase ≠ 0 := by
  have := List.all_eq_true.1 fac1_all i (List.mem_range.2 h)
  unfold fac1 at this
  simp only [Bool.and_eq_true, decide_eq_true_eq] at this
  exact ⟨this.1.1, this.1.2, this.2⟩
theorem lA_leave {n k : Nat} (h : n < 11) (hk : k < n) : leaveE (lA n k) k 2 = 0 ∧ (lA n k).phase ≠ 0 := by
  have := List.all_eq_true.1 (List.all_eq_true.1 fac2_all n (List.mem_range.2 h)) k (List.mem_range.2 hk)
  unfold fac2 at this
  simp only [Bool.and_eq_true, decide_eq_true_eq] at this
  exact this
theorem lA_end {n : Nat} (h : n < 11) : (lA n n).phase = 0 := by
  have := List.all_eq_true.1 fac3_all n (List.mem_range.2 h)
  unfold fac3 at this
  simpa using this
theorem gA_ok : ∀ i, i ≤ 10 → Ok (1000 - i) (gA i)
  | 0, _ => Ok.new (by omega) (by omega)
  | i + 1, h => by
    have := gA_ok i (by omega)
    exact (this.le (m := 1000 - (i + 1) + 1) (by omega)).join (by omega) (by simp) (gA_join (by omega)).1
theorem lA_ok {n : Nat} (hn : n ≤ 10) : ∀ k, k ≤ n → Ok (900 - k) (lA n k)
  | 0, _ => (gA_ok n hn).le (by omega)
  | k + 1, h => by
    have := lA_ok hn k (by omega)
    exact (this.le (m := 900 - (k + 1) + 1) (by omega)).leave _ _
def gn : ByteArray := ⟨#[103]⟩
/-- A coordinator with one group. -/
def oneC (g : GroupC) : CoordC := ⟨100, 100, [(gn, g)], ⟨1000, []⟩⟩
theorem oneC_get (g : GroupC) : aget (oneC g).gs gn = some g := by simp [oneC, aget]
theorem oneC_put (g g' : GroupC) : (⟨(oneC g).s, (oneC g).r, aput (oneC g).gs gn g', (oneC g).off⟩ : CoordC) = oneC g' := by simp [oneC, aput]
theorem oneC_ok {n : Nat} {g : GroupC} (h : Ok n g) : COk n (oneC g) := fun s x e => by
  simp only [oneC, aget] at e
  split at e
  · cases e; exact h
  · cases e
theorem oneC_may {g : GroupC} (h : g.phase ≠ 0) : cmayE (oneC g) gn (-1) (-1) = 11 := by
  simp [cmayE, oneC_get, h]
theorem oneC_empty {g : GroupC} (h : g.phase = 0) : cmayE (oneC g) gn (-1) (-1) = 0 := by
  simp [cmayE, oneC_get, h]
theorem oneC_leaveE (g : GroupC) (m now : Int) : cleaveE (oneC g) gn m now = leaveE g m now := by simp [cleaveE, oneC_get]
theorem oneC_leave (g : GroupC) (m now : Int) : cleaveC (oneC g) gn m now = oneC (leaveG g m now) := by
  unfold cleaveC
  rw [oneC_get]
  exact oneC_put _ _
end Go.Proofs.Ytklhlffdpojkoaa
