/-
  The members' parts are dealt out: the walk.
-/
import Derived.Test.YtklhlffdpojkoaaGr
namespace Go.Proofs.Ytklhlffdpojkoaa
open Go.RowKit Go.Shelf Fx

theorem infoSub : (Try.prog.info? 82).map (fun i => (i.zero, i.size, i.bytes)) = some (some (.agg #[.int .i64 0, .slice none 0 0]), 2, 32) := by kernel_rfl
theorem flat_take {L : List OneV} {k : Nat} (hk : k < L.length) : (L.take (k + 1)).flatMap subEnc = (L.take k).flatMap subEnc ++ [.int .i64 L[k].member, L[k].tv] := by
  rw [List.take_succ_eq_append_getElem hk, List.flatMap_append]
  simp [subEnc]
def SharePost (w : World) (F : Nat → Prop) (b : Nat) (g : GroupC) (tops : List TopC) (round : Bool) (v : Value) (e : Ending) (w' : World) : Prop :=
  e = .returned (.int .i64 (chk (subsOf g) tops)) ∧ ∃ F' L', GrpAt w' F' b (if chk (subsOf g) tops = 0 then shareG g (dealL round (subsOf g) tops) else g) v L' ∧ (∀ k, F' k → F k ∨ w.heap.size ≤ k) ∧ Keeps F w w'
end Go.Proofs.Ytklhlffdpojkoaa
