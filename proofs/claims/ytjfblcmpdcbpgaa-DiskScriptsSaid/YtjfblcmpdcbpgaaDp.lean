/-
  How a struct of a law reads: DiskApart's argument.
-/
import Derived.Test.YtjfblcmpdcbpgaaDk
import Derived.Test.YtjfblcmpdcbpgaaDm
import Derived.Lib.SmallJoins
namespace Go.Proofs.Ytjfblcmpdcbpgaa
open Go.ChangeShapes Go.WideShapes Go.ChangeAt Go.RowKit Fx
theorem cellsInt : Try.prog.cellsOf 3 = 1 := by kernel_rfl
theorem cellsStr : Try.prog.cellsOf 9 = 1 := by kernel_rfl
theorem cellsInts : Try.prog.cellsOf 22 = 1 := by kernel_rfl
theorem cellsApart : Try.prog.cellsOf 41 = 4 := by kernel_rfl
theorem four {α : Type} (l : List α) (h : l.length = 4) : ∃ a b c d, l = [a, b, c, d] := by
  match l, h with
  | [a, b, c, d], _ => exact ⟨a, b, c, d, rfl⟩
theorem apart_of {H : Type} {enc : TypeId × Value → H} {w : World} {base : Nat} {spare : Nat → Bool} {held : Bool} (fuel : Nat) (cs : List Value) (x : DataW H × List MemPlace)
    (h : DataW.trod enc Try.prog w base spare held fuel 41 cs = some x) :
    ∃ (s t : ByteArray) (n : Int) (ka : Option Addr) (kc : Nat) (l : List Int), cs = [.string s, .string t, .int .i64 n, .slice ka l.length kc] ∧ s.size ≤ maxLen ∧ t.size ≤ maxLen ∧ SlAt 1 rInt w ka kc l := by
  obtain ⟨y0, y1, y2, y3, n, _, hl, h0, h1, h2, h3⟩ := Go.Joins.trod_struct4 Try.underlying41 h
  rw [cellsApart] at hl
  obtain ⟨v0, v1, v2, v3, rfl⟩ := four cs hl
  simp only [cellsInt, cellsStr, cellsInts] at h0 h1 h2 h3
  obtain ⟨s, e0, _, hs⟩ := DataW.trod_string Try.underlying9 h0
  obtain ⟨t, e1, _, ht⟩ := DataW.trod_string Try.underlying9 h1
  obtain ⟨a, e2, _, _⟩ := DataW.trod_int Try.underlying3 h2
  obtain ⟨l, ka, kc, e3, hs1⟩ := rSl_of (R := rInt) Try.underlying22 (n := 0) (by kernel_rfl) (fun fuel cs x h => rInt_of Try.underlying3 fuel cs x h) n _ _ h3
  simp at e0 e1 e2 e3
  subst e0 e1 e2 e3
  exact ⟨s, t, a, ka, kc, l, rfl, hs, ht, hs1⟩
end Go.Proofs.Ytjfblcmpdcbpgaa
