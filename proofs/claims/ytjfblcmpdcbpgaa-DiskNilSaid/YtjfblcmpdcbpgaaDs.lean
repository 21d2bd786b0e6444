/-
  How the argument of DiskNil reads.
-/
import Derived.Test.YtjfblcmpdcbpgaaDp
import Derived.Test.YtjfblcmpdcbpgaaDo
namespace Go.Proofs.Ytjfblcmpdcbpgaa
open Go.ChangeShapes Go.WideShapes Go.ChangeAt Go.RowKit Fx
theorem cellsOp : Try.prog.cellsOf 50 = 5 := by kernel_rfl
theorem five {α : Type} (l : List α) (h : l.length = 5) : ∃ a b c d e, l = [a, b, c, d, e] := by
  match l, h with
  | [a, b, c, d, e], _ => exact ⟨a, b, c, d, e, rfl⟩
theorem op_of {H : Type} {enc : TypeId × Value → H} {w : World} {base : Nat} {spare : Nat → Bool} {held : Bool} (fuel : Nat) (cs : List Value) (x : DataW H × List MemPlace)
    (h : DataW.trod enc Try.prog w base spare held fuel 50 cs = some x) :
    ∃ (d : Int) (s t : ByteArray) (m : Int) (ka : Option Addr) (kl kc : Nat), cs = [.int .i64 d, .string s, .string t, .int .i64 m, .slice ka kl kc] := by
  obtain ⟨xs, n, _, rfl, hl, hlen, hf⟩ := DataW.trod_struct Try.underlying50 h
  rw [cellsOp] at hl
  obtain ⟨v0, v1, v2, v3, v4, rfl⟩ := five cs hl
  obtain ⟨y0, y1, y2, y3, y4, rfl⟩ := five xs hlen
  have h0 : DataW.trod enc Try.prog w base spare held n 3 (([v0, v1, v2, v3, v4].drop 0).take (Try.prog.cellsOf 3)) = some y0 := hf 0 _ rfl
  have h1 : DataW.trod enc Try.prog w base spare held n 9 (([v0, v1, v2, v3, v4].drop 1).take (Try.prog.cellsOf 9)) = some y1 := hf 1 _ rfl
  have h2 : DataW.trod enc Try.prog w base spare held n 9 (([v0, v1, v2, v3, v4].drop 2).take (Try.prog.cellsOf 9)) = some y2 := hf 2 _ rfl
  have h3 : DataW.trod enc Try.prog w base spare held n 3 (([v0, v1, v2, v3, v4].drop 3).take (Try.prog.cellsOf 3)) = some y3 := hf 3 _ rfl
  have h4 : DataW.trod enc Try.prog w base spare held n 22 (([v0, v1, v2, v3, v4].drop 4).take (Try.prog.cellsOf 22)) = some y4 := hf 4 _ rfl
  simp only [cellsInt, cellsStr, cellsInts] at h0 h1 h2 h3 h4
  obtain ⟨d, e0, _, _⟩ := DataW.trod_int Try.underlying3 h0
  obtain ⟨s, e1, _⟩ := DataW.trod_string Try.underlying9 h1
  obtain ⟨t, e2, _⟩ := DataW.trod_string Try.underlying9 h2
  obtain ⟨m, e3, _, _⟩ := DataW.trod_int Try.underlying3 h3
  obtain ⟨ka, kl, kc, e4⟩ := Go.Joins.slice_form Try.underlying22 h4
  simp at e0 e1 e2 e3 e4
  exact ⟨d, s, t, m, ka, kl, kc, by rw [e0, e1, e2, e3, e4]⟩
end Go.Proofs.Ytjfblcmpdcbpgaa
