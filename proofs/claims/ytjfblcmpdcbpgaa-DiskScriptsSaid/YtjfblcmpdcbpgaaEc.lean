/-
  The document's disk as an object in memory.
-/
import Derived.Test.YtjfblcmpdcbpgaaEb
namespace Go.Proofs.Ytjfblcmpdcbpgaa
open Go.RowKit Fx

theorem row_keep {w w' : World} {S : Nat → Prop} (hk : Keeps S w w') {base : Nat} {e : TypeId} {size : Nat} {v : Value} {n : Nat} {xs : List Value} (h : w.ownsRow base e size v n xs) (hS : ∀ k, v.ownBlock = some k → ¬ S k) : w'.ownsRow base e size v n xs := by
  refine ⟨h.1, ?_⟩
  rcases h.2 with hn | ⟨g, cap, cur, rfl, hb, hgg, rest⟩
  · exact .inl hn
  · exact .inr ⟨g, cap, cur, rfl, hb, (hk.block g (Array.getElem?_eq_some_iff.1 hgg).1 (hS g rfl)).trans hgg, rest⟩
def fenc (p : ByteArray × FileC) : List Value := [.string p.1, .string p.2.bytes, .int .i64 p.2.safe]
theorem fenc_len (p : ByteArray × FileC) : (fenc p).length = 3 := rfl
def rCells (R : DiskC) (v : Value) : Array Value := #[.int .i64 R.room, v, .int .i64 R.fuse]
/-- The disk at block b: its files' row is v, the blocks of all of it are in F. -/
structure RAt (w : World) (F : Nat → Prop) (b : Nat) (R : DiskC) (v : Value) : Prop where
  blk : w.heap[b]? = some (.cells (rCells R v) 48 (0, 0))
  row : w.ownsRow 0 76 3 v R.files.length (R.files.flatMap fenc)
  fb : F b
  lt : ∀ k, F k → k < w.heap.size
  own : ∀ k, v.ownBlock = some k → F k ∧ k ≠ b
def RSt (w : World) (F : Nat → Prop) (b : Nat) (R : DiskC) : Prop := ∃ v, RAt w F b R v
theorem RAt.keep {w w' : World} {F S : Nat → Prop} {b : Nat} {R : DiskC} {v : Value} (h : RAt w F b R v) (hk : Keeps S w w') (hS : ∀ k, F k → ¬ S k) : RAt w' F b R v :=
  ⟨(hk.block b (block_lt h.blk) (hS b h.fb)).trans h.blk, row_keep hk h.row (fun k e => hS k (h.own k e).1), h.fb, fun k e => Nat.lt_of_lt_of_le (h.lt k e) hk.size, h.own⟩
theorem RSt.keep {w w' : World} {F S : Nat → Prop} {b : Nat} {R : DiskC} (h : RSt w F b R) (hk : Keeps S w w') (hS : ∀ k, F k → ¬ S k) : RSt w' F b R := by
  obtain ⟨v, h⟩ := h
  exact ⟨v, h.keep hk hS⟩
theorem RSt.lt {w : World} {F : Nat → Prop} {b : Nat} {R : DiskC} (h : RSt w F b R) : ∀ k, F k → k < w.heap.size := by
  obtain ⟨v, h⟩ := h
  exact h.lt
/-- What a call on it leaves. -/
def RPost (w : World) (F : Nat → Prop) (b : Nat) (R' : DiskC) (w' : World) : Prop :=
  ∃ F', RSt w' F' b R' ∧ (∀ k, F' k → F k ∨ w.heap.size ≤ k) ∧ Keeps F w w'
theorem RPost.same {w w' : World} {F : Nat → Prop} {b : Nat} {R : DiskC} (h : RSt w F b R) (hk : K0 w w') : RPost w F b R w' :=
  ⟨F, h.keep hk (fun _ _ e => e), fun k e => .inl e, hk.mono fun _ _ e => e.elim⟩
theorem RPost.trans {w w1 w2 : World} {F F1 : Nat → Prop} {b : Nat} {R' : DiskC} (hF : ∀ k, F1 k → F k ∨ w.heap.size ≤ k) (hk : Keeps F w w1) (h : RPost w1 F1 b R' w2) : RPost w F b R' w2 := by
  obtain ⟨F2, h1, h2, h3⟩ := h
  refine ⟨F2, h1, fun k e => (h2 k e).elim (hF k) (fun e => .inr (Nat.le_trans hk.size e)), hk.trans h3 fun k hk' e => (hF k e).elim id fun e => by omega⟩
/-- Its own block has turned. -/
theorem RAt.head {w w' : World} {F : Nat → Prop} {b : Nat} {R R' : DiskC} {v : Value} (h : RAt w F b R v) (hk : Keeps (fun k => k = b) w w') (hblk : w'.heap[b]? = some (.cells (rCells R' v) 48 (0, 0))) (ho : R'.files = R.files) : RAt w' F b R' v :=
  ⟨hblk, by rw [ho]; exact row_keep hk h.row (fun k e => (h.own k e).2), h.fb, fun k e => Nat.lt_of_lt_of_le (h.lt k e) hk.size, h.own⟩
/-- A new row, or the same block's cells turned. -/
theorem RAt.step {w w' : World} {F S : Nat → Prop} {b : Nat} {R R' : DiskC} {v v' : Value} (h : RAt w F b R v) (hk : Keeps S w w') (hS : ∀ k, S k → k = b ∨ v.ownBlock = some k)
    (hblk : w'.heap[b]? = some (.cells (rCells R' v') 48 (0, 0))) (hrow : w'.ownsRow 0 76 3 v' R'.files.length (R'.files.flatMap fenc))
    (hv : ∀ k, v'.ownBlock = some k → v.ownBlock = some k ∨ w.heap.size ≤ k) : RPost w F b R' w' := by
  have hb := block_lt h.blk
  refine ⟨fun k => F k ∨ (w.heap.size ≤ k ∧ k < w'.heap.size), ⟨v', hblk, hrow, .inl h.fb, fun k e => e.elim (fun e => Nat.lt_of_lt_of_le (h.lt k e) hk.size) (fun e => e.2), fun k e => ?_⟩, fun k e => e.imp id (fun e => e.1), hk.mono fun k _ e => (hS k e).elim (fun e => e ▸ h.fb) (fun e => (h.own k e).1)⟩
  rcases hv k e with e1 | e1
  · exact ⟨.inl (h.own k e1).1, (h.own k e1).2⟩
  · exact ⟨.inr ⟨e1, (hrow.lt k e).2⟩, by omega⟩
/-- A file's cells. -/
theorem RAt.cell {w : World} {F : Nat → Prop} {b : Nat} {R : DiskC} {v : Value} (h : RAt w F b R v) {r cap : Nat} (hv : v = .slice (some ⟨r, 0, none⟩) R.files.length cap) (i : Nat) (hi : i < R.files.length) :
    w.cell? ⟨r, i * 3, none⟩ = some (.string R.files[i].1) ∧ w.cell? ⟨r, i * 3 + 1, none⟩ = some (.string R.files[i].2.bytes) ∧ w.cell? ⟨r, i * 3 + 2, none⟩ = some (.int .i64 R.files[i].2.safe) := by
  subst hv
  have hc : ∀ j, j < 3 → w.cell? ⟨r, i * 3 + j, none⟩ = (fenc R.files[i])[j]? := fun j hj => by
    rw [h.row.cellAt (i * 3 + j) (by omega)]
    exact flatMap_get fenc 3 fenc_len R.files i j hi hj
  exact ⟨hc 0 (by omega), hc 1 (by omega), hc 2 (by omega)⟩
/-- Where its row is. -/
theorem RAt.form {w : World} {F : Nat → Prop} {b : Nat} {R : DiskC} {v : Value} (h : RAt w F b R v) : (R.files = [] ∧ v = .slice none 0 0) ∨ ∃ r cap, v = .slice (some ⟨r, 0, none⟩) R.files.length cap ∧ r ≠ b ∧ r < w.heap.size ∧ R.files.length ≤ cap ∧ F r := by
  rcases h.row.2 with ⟨h1, h2⟩ | ⟨r, cap, cur, h1, _, hg, hc, _⟩
  · exact .inl ⟨List.eq_nil_of_length_eq_zero h2, h1⟩
  · have h3 := h.own r (by rw [h1]; rfl)
    exact .inr ⟨r, cap, h1, h3.2, block_lt hg, hc, h3.1⟩
end Go.Proofs.Ytjfblcmpdcbpgaa
