/-
  The package assign's Range: what it computes.
-/
import Derived.Test.YtklhlffdpojkoaaAh
namespace Go.Proofs.Ytklhlffdpojkoaa
open Go.RowKit Fx

theorem chk_ok {subs : List SubC} {tops : List TopC} (h : chk subs tops = 0) : subs.length ≤ 20 ∧ tops.length ≤ 20 ∧ ∀ j (h : j < tops.length), 1 ≤ tops[j].parts ∧ tops[j].parts ≤ 16 := by
  unfold chk at h
  split at h
  · rename_i hc
    simp only [checkB, Bool.and_eq_true, decide_eq_true_eq, List.all_eq_true] at hc
    exact ⟨hc.1.1.1.1.1, hc.1.1.1.1.2, fun j hj => topOk_parts _ (hc.2 _ (List.getElem_mem hj))⟩
  · cases h
theorem chk_cases (subs : List SubC) (tops : List TopC) : chk subs tops = 0 ∨ chk subs tops = 1 := by unfold chk; split <;> simp

theorem cnt_int (p n k : Nat) (hk : k < n) (hp : 1 ≤ (p : Int)) : ((p : Int) + n - 1 - k) / n = (cntOf p n k : Nat) := by
  unfold cntOf
  rw [Int.natCast_ediv]
  congr 1
  omega
end Go.Proofs.Ytklhlffdpojkoaa
