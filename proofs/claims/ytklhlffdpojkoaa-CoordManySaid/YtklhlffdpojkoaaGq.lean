/-
  The tick: the walk.
-/
import Derived.Test.YtklhlffdpojkoaaGp
namespace Go.Proofs.Ytklhlffdpojkoaa
open Go.RowKit Go.Shelf Fx

theorem leader_of {g : GroupC} {L : List OneV} (h : L.map OneV.core = g.ones) (hp : 0 < L.length) : leaderOf g = L[0].member := by
  unfold leaderOf
  rw [← h]
  cases L with
  | nil => exact absurd hp (Nat.lt_irrefl _)
  | cons x l => rfl
end Go.Proofs.Ytklhlffdpojkoaa
