/-
  The document's Parse.
-/
import Derived.Test.YtegbiekfpcfnnaaUq
import Derived.Test.YtegbiekfpcfnnaaUn
import Derived.Deep.RegionLaw
namespace Go.Proofs.Ytegbiekfpcfnnaa
open Go.RowKit Fx

/-- The reader in block rb, the table in block b; the rows' row v lies from block w.heap.size + 2 on. -/
structure RPt (w wr : World) (s : ByteArray) (nx : Int) (p : PSt) (v : Value) : Prop where
  rd : Rr 73 wr w.heap.size s p.a p.e
  blk : wr.heap[w.heap.size + 1]? = some (.cells (rtCells ⟨nx, p.l⟩ v) 43 (0, 0))
  row : wr.ownsRow (w.heap.size + 2) 46 3 v p.l.length (p.l.flatMap encO)
  k0 : K0 w wr
  sz : w.heap.size + 2 ≤ wr.heap.size
theorem RPt.keep {w wr wx : World} {s : ByteArray} {nx a e : Int} {p : PSt} {v : Value} {S : Nat → Prop} (h : RPt w wr s nx p v) (hk : Keeps S wr wx) (hS : ∀ k, S k → k = w.heap.size ∨ wr.heap.size ≤ k) (hr : Rr 73 wx w.heap.size s a e) : RPt w wx s nx ⟨a, e, p.l⟩ v := by
  have hsz := h.sz
  refine ⟨hr, (hk.block _ (by omega) (fun e => by have := hS _ e; omega)).trans h.blk, row_keep hk h.row (fun k e1 e2 => ?_), k0_then h.k0 hk (fun k e => by have := hS k e; omega), Nat.le_trans hsz hk.size⟩
  have h1 := h.row.lt k e1
  have := hS k e2
  omega
/-- One more row. -/
theorem RPt.add {w wr w4 : World} {s : ByteArray} {nx a e : Int} {l : List OneP} {q : OneP} {v v' : Value} (h : RPt w wr s nx ⟨a, e, l⟩ v) (hg : wr.grownBy w4 v.ownBlock) (ho : w4.ownsRow (w.heap.size + 2) 46 3 v' (l.length + 1) (l.flatMap encO ++ encO q)) :
    RPt w (w4.setCell ⟨w.heap.size + 1, 1, none⟩ v') s nx ⟨a, e, l ++ [q]⟩ v' := by
  have hsz := h.sz
  have hk : Keeps (fun k => w.heap.size + 2 ≤ k) wr w4 := (Keeps.refl (fun k => w.heap.size + 2 ≤ k) wr).grown hg (fun k e _ => (h.row.lt k e).1)
  have hk2 : Keeps (fun k => k = w.heap.size + 1) w4 (w4.setCell ⟨w.heap.size + 1, 1, none⟩ v') := (Keeps.refl (fun k => k = w.heap.size + 1) w4).setC 1 _ (fun _ => rfl)
  have hr : Rr 73 w4 w.heap.size s a e := h.rd.keep hk (fun e => by have e : w.heap.size + 2 ≤ w.heap.size := e; omega)
  have hb : w4.heap[w.heap.size + 1]? = some (.cells (rtCells ⟨nx, l⟩ v) 43 (0, 0)) := (hk.block _ (by omega) (fun e => by have e : w.heap.size + 2 ≤ w.heap.size + 1 := e; omega)).trans h.blk
  refine ⟨hr.keep hk2 (fun e => by have e : w.heap.size = w.heap.size + 1 := e; omega), setCell_block hb 1 _, ?_, k0_then (k0_then h.k0 hk (fun k e => by have e : w.heap.size + 2 ≤ k := e; omega)) hk2 (fun k e => by have e : k = w.heap.size + 1 := e; omega), Nat.le_trans hsz (Nat.le_trans hk.size hk2.size)⟩
  have h9 := row_keep hk2 ho (fun k e1 e2 => by have := (ho.lt k e1).1; have e2 : k = w.heap.size + 1 := e2; omega)
  show World.ownsRow _ _ _ _ _ (l ++ [q]).length ((l ++ [q]).flatMap encO)
  rw [List.length_append, List.flatMap_append]
  simpa using h9
def RPRel (w : World) (s : ByteArray) (nx n : Int) (F : PSt) (i : Value) (wr : World) : Prop :=
  ∃ (k : Nat) (p : PSt) (v : Value), i = .int .i64 k ∧ k ≤ n.toNat ∧ p.l.length = k ∧ prun s nx (n.toNat - k) p = F ∧ p.a ≤ s.size ∧ (p.e = 0 → 0 ≤ nx ∧ nx ≤ 1073741824 ∧ 0 ≤ n ∧ n ≤ 20) ∧ RPt w wr s nx p v
def RParseP (w : World) (s : ByteArray) (e : Ending) (w' : World) : Prop :=
  (paE s ≠ 0 ∧ e = .returned (.tuple #[.pointer none, .int .i64 (paE s)]) ∧ K0 w w') ∨
  (paE s = 0 ∧ ∃ b F, e = .returned (.tuple #[.pointer (some ⟨b, 0, none⟩), .int .i64 0]) ∧ RTst w' F b ⟨paX s, (paF s).l⟩ ∧ (∀ k, F k → w.heap.size ≤ k) ∧ K0 w w')
theorem ge_blt (a b : ByteArray) : (!Op.bytesLess a.toList b.toList) = !bltB a b := rfl
/-- A topic's box, as it is filled. -/
def BoxN (w1 wx : World) (nm : ByteArray) (i p : Int) : Prop := wx.heap[w1.heap.size]? = some (.cells #[.string nm, .int .i64 i, .int .i64 p] 46 (0, 0))
end Go.Proofs.Ytegbiekfpcfnnaa
