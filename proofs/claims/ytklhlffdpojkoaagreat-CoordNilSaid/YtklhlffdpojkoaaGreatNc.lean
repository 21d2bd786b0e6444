/-
  How the argument of CoordNil reads; how a walk of a law of this seat is lifted to its row.
-/
import Derived.Test.YtklhlffdpojkoaaGreatNb
import Derived.Lib.SmallJoins
import Derived.ProofKit
import Derived.OpenShut
import Derived.ShutString
import Derived.ChangeOld
namespace Go.Proofs.YtklhlffdpojkoaaGreat
open Go.ChangeShapes Go.WideShapes Go.ChangeAt Go.RowKit Fx
open Go.ChangeMaps (open_string shut_string)
theorem own : ownKnob Tryz.prog.godebug = none := by kernel_rfl
theorem laidOut : laidOutB Tryz.prog = true := by kernel_rfl

/-- Arguments that were read read the same, where nothing of them has turned. -/
theorem trodAll_below {H : Type} {enc : TypeId × Value → H} {P : Program} (hl : laidOutB P = true) {W W' : World} (hb : Below W.heap.size W W') :
    ∀ {ts : List TypeId} {vs : List Value} {ds : List (DataW H)} {ps : List MemPlace}, (∀ t ∈ ts, P.readableRec t = true ∧ t < P.types.size) →
      DataW.TrodAll enc P W 0 (fun _ => true) true ts vs ds ps → DataW.TrodAll enc P W' 0 (fun b => decide (b < W.heap.size)) true ts vs ds ps
  | [], [], [], _, _, h => h
  | t :: ts, v :: vs, d :: ds, _, hr, ⟨p, q, h1, h2, e⟩ => by
    have lt0 : ∀ x ∈ p, x.block < W.heap.size := by obtain ⟨m, hm⟩ := h1; exact DataW.trod_lt m _ _ _ hm
    exact ⟨p, q, Below.trod hl (hr t (by simp)).1 (hr t (by simp)).2 h1 hb lt0, trodAll_below hl hb (fun t ht => hr t (by simp [ht])) h2, e⟩
  | [], [], _ :: _, _, _, h => h.elim
  | [], _ :: _, _, _, _, h => by cases h
  | _ :: _, [], _, _, _, h => by cases h
  | _ :: _, _ :: _, [], _, _, h => by cases h
theorem cellsInt : Tryz.prog.cellsOf 3 = 1 := by kernel_rfl
theorem cellsBool : Tryz.prog.cellsOf 4 = 1 := by kernel_rfl
theorem cellsStr : Tryz.prog.cellsOf 9 = 1 := by kernel_rfl
theorem cellsStrs : Tryz.prog.cellsOf 31 = 1 := by kernel_rfl
theorem cellsTops : Tryz.prog.cellsOf 32 = 1 := by kernel_rfl
theorem cellsPart : Tryz.prog.cellsOf 34 = 2 := by kernel_rfl
theorem cellsOp : Tryz.prog.cellsOf 36 = 11 := by kernel_rfl
theorem two {α : Type} (l : List α) (h : l.length = 2) : ∃ a b, l = [a, b] := by
  match l, h with
  | [a, b], _ => exact ⟨a, b, rfl⟩
theorem ten {α : Type} (l : List α) (h : l.length = 10) : ∃ a b c d e f g i j k, l = [a, b, c, d, e, f, g, i, j, k] := by
  match l, h with
  | [a, b, c, d, e, f, g, i, j, k], _ => exact ⟨a, b, c, d, e, f, g, i, j, k, rfl⟩
theorem eleven {α : Type} (l : List α) (h : l.length = 11) : ∃ a b c d e f g i j k m, l = [a, b, c, d, e, f, g, i, j, k, m] := by
  match l, h with
  | [a, b, c, d, e, f, g, i, j, k, m], _ => exact ⟨a, b, c, d, e, f, g, i, j, k, m, rfl⟩
theorem part_of {H : Type} {enc : TypeId × Value → H} {w : World} {base : Nat} {spare : Nat → Bool} {held : Bool} {fuel : Nat} {cs : List Value} {x : DataW H × List MemPlace}
    (h : DataW.trod enc Tryz.prog w base spare held fuel 34 cs = some x) : ∃ (t : ByteArray) (i : Int), cs = [.string t, .int .i64 i] := by
  obtain ⟨y0, y1, n, _, hl, h0, h1⟩ := trod_struct2 Tryz.underlying34 h
  rw [cellsPart] at hl
  obtain ⟨v0, v1, rfl⟩ := two cs hl
  simp only [cellsInt, cellsStr] at h0 h1
  obtain ⟨s, e0, _⟩ := DataW.trod_string Tryz.underlying9 h0
  obtain ⟨a, e1, _, _⟩ := DataW.trod_int Tryz.underlying3 h1
  simp at e0 e1
  exact ⟨s, a, by rw [e0, e1]⟩
theorem op_of {H : Type} {enc : TypeId × Value → H} {w : World} {base : Nat} {spare : Nat → Bool} {held : Bool} (fuel : Nat) (cs : List Value) (x : DataW H × List MemPlace)
    (h : DataW.trod enc Tryz.prog w base spare held fuel 36 cs = some x) :
    ∃ (d m gn pi at_ now : Int) (s pt : ByteArray) (ta : Option Addr) (tl tc : Nat) (pa : Option Addr) (pl pc : Nat) (rd : Bool), cs = [.int .i64 d, .string s, .int .i64 m, .slice ta tl tc, .int .i64 gn, .slice pa pl pc, .bool rd, .string pt, .int .i64 pi, .int .i64 at_, .int .i64 now] := by
  obtain ⟨xs, n, _, rfl, hl, hlen, hf⟩ := DataW.trod_struct Tryz.underlying36 h
  rw [cellsOp] at hl
  obtain ⟨v0, v1, v2, v3, v4, v5, v6, v7, v8, v9, v10, rfl⟩ := eleven cs hl
  obtain ⟨y0, y1, y2, y3, y4, y5, y6, y7, y8, y9, rfl⟩ := ten xs hlen
  have h0 : DataW.trod enc Tryz.prog w base spare held n 3 (([v0, v1, v2, v3, v4, v5, v6, v7, v8, v9, v10].drop 0).take (Tryz.prog.cellsOf 3)) = some y0 := hf 0 _ rfl
  have h1 : DataW.trod enc Tryz.prog w base spare held n 9 (([v0, v1, v2, v3, v4, v5, v6, v7, v8, v9, v10].drop 1).take (Tryz.prog.cellsOf 9)) = some y1 := hf 1 _ rfl
  have h2 : DataW.trod enc Tryz.prog w base spare held n 3 (([v0, v1, v2, v3, v4, v5, v6, v7, v8, v9, v10].drop 2).take (Tryz.prog.cellsOf 3)) = some y2 := hf 2 _ rfl
  have h3 : DataW.trod enc Tryz.prog w base spare held n 31 (([v0, v1, v2, v3, v4, v5, v6, v7, v8, v9, v10].drop 3).take (Tryz.prog.cellsOf 31)) = some y3 := hf 3 _ rfl
  have h4 : DataW.trod enc Tryz.prog w base spare held n 3 (([v0, v1, v2, v3, v4, v5, v6, v7, v8, v9, v10].drop 4).take (Tryz.prog.cellsOf 3)) = some y4 := hf 4 _ rfl
  have h5 : DataW.trod enc Tryz.prog w base spare held n 32 (([v0, v1, v2, v3, v4, v5, v6, v7, v8, v9, v10].drop 5).take (Tryz.prog.cellsOf 32)) = some y5 := hf 5 _ rfl
  have h6 : DataW.trod enc Tryz.prog w base spare held n 4 (([v0, v1, v2, v3, v4, v5, v6, v7, v8, v9, v10].drop 6).take (Tryz.prog.cellsOf 4)) = some y6 := hf 6 _ rfl
  have h7 : DataW.trod enc Tryz.prog w base spare held n 34 (([v0, v1, v2, v3, v4, v5, v6, v7, v8, v9, v10].drop 7).take (Tryz.prog.cellsOf 34)) = some y7 := hf 7 _ rfl
  have h8 : DataW.trod enc Tryz.prog w base spare held n 3 (([v0, v1, v2, v3, v4, v5, v6, v7, v8, v9, v10].drop 9).take (Tryz.prog.cellsOf 3)) = some y8 := hf 8 _ rfl
  have h9 : DataW.trod enc Tryz.prog w base spare held n 3 (([v0, v1, v2, v3, v4, v5, v6, v7, v8, v9, v10].drop 10).take (Tryz.prog.cellsOf 3)) = some y9 := hf 9 _ rfl
  simp only [cellsInt, cellsStr, cellsStrs, cellsTops, cellsBool, cellsPart] at h0 h1 h2 h3 h4 h5 h6 h7 h8 h9
  obtain ⟨d, e0, _, _⟩ := DataW.trod_int Tryz.underlying3 h0
  obtain ⟨s, e1, _⟩ := DataW.trod_string Tryz.underlying9 h1
  obtain ⟨m, e2, _, _⟩ := DataW.trod_int Tryz.underlying3 h2
  obtain ⟨ta, tl, tc, e3⟩ := Go.Joins.slice_form Tryz.underlying31 h3
  obtain ⟨gn, e4, _, _⟩ := DataW.trod_int Tryz.underlying3 h4
  obtain ⟨pa, pl, pc, e5⟩ := Go.Joins.slice_form Tryz.underlying32 h5
  obtain ⟨rd, e6, _⟩ := DataW.trod_bool Tryz.underlying4 h6
  obtain ⟨pt, pi, e7⟩ := part_of h7
  obtain ⟨at_, e8, _, _⟩ := DataW.trod_int Tryz.underlying3 h8
  obtain ⟨now, e9, _, _⟩ := DataW.trod_int Tryz.underlying3 h9
  simp at e0 e1 e2 e3 e4 e5 e6 e7 e8 e9
  exact ⟨d, m, gn, pi, at_, now, s, pt, ta, tl, tc, pa, pl, pc, rd, by rw [e0, e1, e2, e3, e4, e5, e6, e7.1, e7.2, e8, e9]⟩
end Go.Proofs.YtklhlffdpojkoaaGreat
