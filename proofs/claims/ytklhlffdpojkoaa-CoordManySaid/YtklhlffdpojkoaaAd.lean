/-
  Shares in memory that a call has made and goes on changing: a row of members, each with a row of partitions of its own.
-/
import Derived.Test.YtklhlffdpojkoaaAc
import Derived.Deep.AppendLies
import Derived.Deep.RegionLaw
namespace Go.Proofs.Ytklhlffdpojkoaa
open Go.RowKit Fx

structure PartC where
  topic : ByteArray
  index : Int
structure ShareC where
  member : Int
  parts : List PartC
def ptCells (l : List PartC) : List Value := l.flatMap fun p => [.string p.topic, .int .i64 p.index]
def shCells : List ShareC → List Value → List Value
  | s :: l, v :: vs => .int .i64 s.member :: v :: shCells l vs
  | _, _ => []
theorem ptCells_append (l : List PartC) (p : PartC) : ptCells (l ++ [p]) = ptCells l ++ [.string p.topic, .int .i64 p.index] := by simp [ptCells]
theorem shCells_append : ∀ (l : List ShareC) (vs : List Value) (s : ShareC) (v : Value), vs.length = l.length → shCells (l ++ [s]) (vs ++ [v]) = shCells l vs ++ [.int .i64 s.member, v]
  | [], [], _, _, _ => rfl
  | _ :: l, _ :: vs, s, v, h => by simp [shCells, shCells_append l vs s v (by simpa using h)]
theorem shCells_member : ∀ (l : List ShareC) (vs : List Value) (m : Nat) (h : m < l.length), vs.length = l.length → (shCells l vs)[m * 2]? = some (.int .i64 l[m].member)
  | s :: l, v :: vs, 0, _, _ => rfl
  | s :: l, v :: vs, m + 1, h, e => by
    have := shCells_member l vs m (by simpa using h) (by simpa using e)
    simpa [shCells, Nat.add_mul] using this
theorem shCells_value : ∀ (l : List ShareC) (vs : List Value) (m : Nat) (h : m < vs.length), vs.length = l.length → (shCells l vs)[m * 2 + 1]? = some vs[m]
  | [], [], m, h, _ => absurd h (by simp)
  | s :: l, v :: vs, 0, _, _ => rfl
  | s :: l, v :: vs, m + 1, h, e => by
    have := shCells_value l vs m (by simpa using h) (by simpa using e)
    simpa [shCells, Nat.add_mul] using this
theorem shCells_set : ∀ (l : List ShareC) (vs : List Value) (m : Nat) (u : Value), vs.length = l.length → (shCells l vs).set (m * 2 + 1) u = shCells l (vs.set m u)
  | [], [], m, u, _ => rfl
  | s :: l, v :: vs, 0, u, _ => rfl
  | s :: l, v :: vs, m + 1, u, e => by
    have := shCells_set l vs m u (by simpa using e)
    simp [shCells, Nat.add_mul] at this ⊢
    exact this
theorem shCells_modify : ∀ (l : List ShareC) (vs : List Value) (m : Nat) (f : List PartC → List PartC), shCells (l.modify m fun s => ⟨s.member, f s.parts⟩) vs = shCells l vs
  | [], _, m, f => by cases m <;> rfl
  | s :: l, [], m, f => by cases m <;> rfl
  | s :: l, v :: vs, 0, f => rfl
  | s :: l, v :: vs, m + 1, f => by simp [shCells, shCells_modify l vs m f]

theorem keeps_grown {w w' : World} {S : Nat → Prop} (h : Keeps S w w') {row : Option Nat} (hr : ∀ k, k < w.heap.size → S k → some k = row) : w.grownBy w' row :=
  ⟨h.os, h.tape, h.output, h.size, fun k hk hne => h.block k hk fun e => hne (hr k hk e)⟩
theorem own_keep {w w' : World} {S : Nat → Prop} (hk : Keeps S w w') {base : Nat} {e : TypeId} {size : Nat} {v : Value} {n : Nat} {xs : List Value} (h : w.ownsRow base e size v n xs) (hS : ∀ k, v.ownBlock = some k → ¬ S k) : w'.ownsRow base e size v n xs := by
  refine ⟨h.1, ?_⟩
  rcases h.2 with hn | ⟨g, cap, cur, rfl, hb, hgg, rest⟩
  · exact .inl hn
  · exact .inr ⟨g, cap, cur, rfl, hb, (hk.block g (Array.getElem?_eq_some_iff.1 hgg).1 (hS g rfl)).trans hgg, rest⟩
theorem own_lt {w : World} {base : Nat} {e : TypeId} {size : Nat} {v : Value} {n : Nat} {xs : List Value} (h : w.ownsRow base e size v n xs) {k : Nat} (hk : v.ownBlock = some k) : k < w.heap.size := (h.lt k hk).2
theorem info41 : (Try.prog.info? 42).map (fun i => (i.zero, i.size, i.bytes)) = some (some (.agg #[.string ⟨#[]⟩, .int .i64 0]), 2, 24) := by kernel_rfl
theorem info3 : (Try.prog.info? 3).map (fun i => (i.zero, i.size, i.bytes)) = some (some (.int .i64 0), 1, 8) := by kernel_rfl

end Go.Proofs.Ytklhlffdpojkoaa
