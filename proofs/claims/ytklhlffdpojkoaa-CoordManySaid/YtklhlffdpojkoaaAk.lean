/-
  The package assign's Round: what it computes.
-/
import Derived.Test.YtklhlffdpojkoaaAj
namespace Go.Proofs.Ytklhlffdpojkoaa
open Go.RowKit Fx

/-- Whom a partition goes to, behind the one that got the last one. -/
def nextOf (tk : List Nat) (last : Int) : Nat := tk.getD (below tk (last + 1) % tk.length) 0
/-- The first p partitions of a topic, dealt one by one. -/
def roundParts (tk : List Nat) (s : ByteArray) : (p : Nat) → List ShareC × Int → List ShareC × Int
  | 0, st => st
  | p + 1, st => (giveL (roundParts tk s p st).1 (nextOf tk (roundParts tk s p st).2) s p, nextOf tk (roundParts tk s p st).2)
/-- The first t topics, dealt one by one. -/
def roundTo (subs : List SubC) (tops : List TopC) : (t : Nat) → List ShareC × Int
  | 0 => (emptyL subs, -1)
  | t + 1 => if (takersL subs (tops.getD t ⟨⟨#[]⟩, 0⟩).name).length = 0 then roundTo subs tops t
    else roundParts (takersL subs (tops.getD t ⟨⟨#[]⟩, 0⟩).name) (tops.getD t ⟨⟨#[]⟩, 0⟩).name (tops.getD t ⟨⟨#[]⟩, 0⟩).parts.toNat (roundTo subs tops t)
def roundL (subs : List SubC) (tops : List TopC) : List ShareC := (roundTo subs tops tops.length).1

theorem LOk.parts {n c : Nat} (tk : List Nat) (s : ByteArray) {st : List ShareC × Int} (h : LOk n c st.1) : ∀ p, LOk n (c + p) (roundParts tk s p st).1
  | 0 => h
  | p + 1 => (LOk.parts tk s h p).give _ _ _
theorem LOk.round {subs : List SubC} {tops : List TopC} (ht : ∀ j (h : j < tops.length), 1 ≤ tops[j].parts ∧ tops[j].parts ≤ 16) : ∀ t, t ≤ tops.length → LOk subs.length (t * 16) (roundTo subs tops t).1
  | 0, _ => by simpa [roundTo] using LOk.empty subs
  | t + 1, h => by
    have h1 := LOk.round (subs := subs) ht t (by omega)
    have h5 : (tops.getD t ⟨⟨#[]⟩, 0⟩).parts.toNat ≤ 16 := by
      have := (ht t (by omega)).2
      simp only [List.getD, List.getElem?_eq_getElem (show t < tops.length by omega), Option.getD_some]
      omega
    simp only [roundTo]
    split
    · exact h1.mono (by omega)
    · exact (LOk.parts _ _ h1 _).mono (by omega)
theorem takers_rise (subs : List SubC) (s : ByteArray) : (takersL subs s).Pairwise (· < ·) := by
  unfold takersL takeTo
  exact List.Pairwise.filter _ List.pairwise_lt_range
theorem nextOf_lt {subs : List SubC} {s : ByteArray} (h : (takersL subs s).length ≠ 0) (last : Int) : nextOf (takersL subs s) last < subs.length := by
  have hm : below (takersL subs s) (last + 1) % (takersL subs s).length < (takersL subs s).length := Nat.mod_lt _ (by omega)
  unfold nextOf
  rw [List.getD, List.getElem?_eq_getElem hm, Option.getD_some]
  exact takers_lt hm
theorem roundTo_last {subs : List SubC} {tops : List TopC} : ∀ t, -1 ≤ (roundTo subs tops t).2 ∧ (roundTo subs tops t).2 < subs.length
  | 0 => by simp [roundTo]; omega
  | t + 1 => by
    simp only [roundTo]
    split
    · exact roundTo_last t
    · rename_i hne
      have : ∀ p, -1 ≤ (roundParts (takersL subs (tops.getD t ⟨⟨#[]⟩, 0⟩).name) (tops.getD t ⟨⟨#[]⟩, 0⟩).name p (roundTo subs tops t)).2 ∧ (roundParts (takersL subs (tops.getD t ⟨⟨#[]⟩, 0⟩).name) (tops.getD t ⟨⟨#[]⟩, 0⟩).name p (roundTo subs tops t)).2 < subs.length := by
        intro p
        cases p with
        | zero => exact roundTo_last t
        | succ p =>
          have := nextOf_lt hne (roundParts (takersL subs (tops.getD t ⟨⟨#[]⟩, 0⟩).name) (tops.getD t ⟨⟨#[]⟩, 0⟩).name p (roundTo subs tops t)).2
          simp only [roundParts]
          omega
      exact this _

theorem below_le (l : List Nat) (x : Int) : below l x ≤ l.length := List.length_filter_le _ _

end Go.Proofs.Ytklhlffdpojkoaa
