/-
  A reader of live's text.
-/
import Derived.Test.YtbjpifipjcfhkaaIi
namespace Go.Proofs.Ytbjpifipjcfhkaa
open Go.RowKit Fx

/-- A reader of live's text, at a place. -/
def RdAt (w : World) (rb : Nat) (k : Int) : Prop := w.heap[rb]? = some (.cells #[.string liveS, .int .i64 k, .int .i64 0] 77 (0, 0))
def NumPost (w : World) (rb : Nat) (n k : Int) (e : Ending) (w' : World) : Prop := e = .returned (.int .i64 n) ∧ RdAt w' rb k ∧ Keeps (fun b => b = rb) w w'
end Go.Proofs.Ytbjpifipjcfhkaa
