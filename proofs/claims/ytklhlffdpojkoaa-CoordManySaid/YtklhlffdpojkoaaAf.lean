/-
  The takers of a topic, by their places: the package assign's list, and the reference's.
-/
import Derived.Test.YtklhlffdpojkoaaAe
import Derived.Test.YtklhlffdpojkoaaAp
namespace Go.Proofs.Ytklhlffdpojkoaa
open Go.RowKit Fx

def rNat : Rdr Nat := fun _ cs n => cs = [.int .i64 n]
def topicsAt (subs : List SubC) (i : Nat) : List ByteArray := (subs.getD i ⟨0, []⟩).topics
/-- The first k members' places that want a topic. -/
def takeTo (subs : List SubC) (s : ByteArray) (k : Nat) : List Nat := (List.range k).filter fun i => wantB (topicsAt subs i) s
def takersL (subs : List SubC) (s : ByteArray) : List Nat := takeTo subs s subs.length
theorem takeTo_succ (subs : List SubC) (s : ByteArray) (k : Nat) : takeTo subs s (k + 1) = takeTo subs s k ++ if wantB (topicsAt subs k) s then [k] else [] := by
  simp only [takeTo, List.range_succ, List.filter_append]
  congr 1
  cases h : wantB (topicsAt subs k) s <;> simp [h]
theorem takeTo_len (subs : List SubC) (s : ByteArray) (k : Nat) : (takeTo subs s k).length ≤ k := by
  have := List.length_filter_le (fun i => wantB (topicsAt subs i) s) (List.range k)
  simpa [takeTo] using this
theorem topicsAt_eq {subs : List SubC} {k : Nat} (h : k < subs.length) : topicsAt subs k = subs[k].topics := by
  simp [topicsAt, List.getD, h]
def natCells (l : List Nat) : List Value := l.map fun (i : Nat) => .int .i64 (i : Int)
theorem nat_flat (l : List Nat) : l.flatMap (fun (i : Nat) => [Value.int .i64 (i : Int)]) = natCells l := by induction l <;> simp_all [natCells]
def TakeRel (w0 w : World) (subs : List SubC) (s : ByteArray) (k : Nat) (v : Value) (wr : World) : Prop :=
  wr.ownsRow w.heap.size 3 1 v (takeTo subs s k).length (natCells (takeTo subs s k)) ∧ K0 w wr
/-- What a list of places looks like behind the call. -/
def NatsPost (w : World) (l : List Nat) (e : Ending) (w' : World) : Prop :=
  ∃ a cap, e = .returned (.slice a l.length cap) ∧ SlAt 1 rNat w' a cap l ∧ K0 w w' ∧ ∀ k, (Value.slice a l.length cap).ownBlock = some k → w.heap.size ≤ k ∧ k < w'.heap.size
theorem TakeRel.post {w0 w wr : World} {subs : List SubC} {s : ByteArray} {v : Value} (h : TakeRel w0 w subs s subs.length v wr) : NatsPost w (takersL subs s) (.returned v) wr := by
  obtain ⟨h1, h2⟩ := h
  obtain ⟨a, cap, rfl, h3, h4⟩ := own_slAt (R := rNat) (w := wr) (base := w.heap.size) (e := 3) (v := v) (l := takersL subs s) (fun i => [.int .i64 i]) (fun _ => rfl) (fun _ => rfl) (by rw [nat_flat]; exact h1)
  exact ⟨a, cap, rfl, h3, h2, h4⟩
theorem TakeRel.yes {w0 w wr wx w1 : World} {subs : List SubC} {s : ByteArray} {k : Nat} {v : Value} (h : wr.ownsRow w.heap.size 3 1 v (takeTo subs s k).length (natCells (takeTo subs s k))) (hk : K0 w wx)
    (hw : wantB (topicsAt subs k) s = true) {g cap : Nat} (hown : w1.ownsRow w.heap.size 3 1 (.slice (some ⟨g, 0, none⟩) ((takeTo subs s k).length + 1) cap) ((takeTo subs s k).length + 1) (natCells (takeTo subs s k) ++ [.int .i64 k]))
    (hg : wx.grownBy w1 v.ownBlock) : TakeRel w0 w subs s (k + 1) (.slice (some ⟨g, 0, none⟩) ((takeTo subs s k).length + 1) cap) w1 := by
  refine ⟨?_, hk.grown hg fun j e hj => ?_⟩
  · rw [takeTo_succ, hw]
    simpa [natCells] using hown
  · have := (h.lt j e).1
    omega
theorem TakeRel.no {w0 w wr wx : World} {subs : List SubC} {s : ByteArray} {k : Nat} {v : Value} (h : TakeRel w0 w subs s k v wr) (hk : K0 wr wx) (hw : wantB (topicsAt subs k) s = false) : TakeRel w0 w subs s (k + 1) v wx := by
  refine ⟨?_, K0.tr h.2 hk⟩
  rw [takeTo_succ, hw]
  simpa using own_keep hk h.1 (fun _ _ e => e)

end Go.Proofs.Ytklhlffdpojkoaa
