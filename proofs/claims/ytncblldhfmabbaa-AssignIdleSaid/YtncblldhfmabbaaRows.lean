/-
  No cell of these rows narrows 'for every input' (looked for: loops, veiled, ifaces, maps, wideKeys, modest, calm, conditions, laid).
  DERIVED. THE GIVEN ROWS OF THIS SEAT. 4 by the template 'for every input the law returns true; each argument reads behind the call as it read before'; 0 by the template 'total and deterministic' (their statements: YtncblldhfmabbaaTotals.lean).
  GIVEN WITH THE SEED: the statements are not yours to turn. If you find one false, say at which input.
  Laid BY PROGRAM, IN A SANDBOX (cutbox-rows.mjs): the forced cells as the released guide's own fill.sh prints them over the translation 427172aa7d5fe2b0… (all of the seat's roots in one cut). By AI agents, Wed Nov 11 2026. No macro, syntax, notation, axiom, sorry.
-/
import Derived.Test.YtncblldhfmabbaaChecked
import GoSem.Claim
import GoSem.ClaimJoined
import GoSem.ClaimMapViews
import Derived.JoinedTies
import Derived.KernelRfl
namespace Go.Proofs.Ytncblldhfmabbaa
/- THE CELL 'sum', in the pinned program and in every row, IS THE sha256 OF THE DUMP (.gsa) THAT YtncblldhfmabbaaProg.lean LOADS. Nothing in Lean hashes anything: it is a label: what it is worth is what the hold of that sum in a sandbox is worth. -/
noncomputable def Try.pinned : Pinned := { name := "ytncblldhfmabbaa", sum := "427172aa7d5fe2b03c481a110406cf9baecf1cdcedb8519a17fd57b9e374c71f", checked := Try.checked }
namespace Rows
def none {H : Type} : Left H := { results := [], args := [] }

/-- 'flotsamlaw14.AssignOne': WHATEVER THE INPUT: true; the input reads as it did. -/
def assignOneSpec : ChangeSpec := { name := "assignOne", fn := fun _ => fun
  | [d1, d2] => { results := [.lit (.bool true)], args := [d1, d2] }
  | _ => none }
def assignOneRow : OpenClaim := { program := "ytncblldhfmabbaa", sum := "427172aa7d5fe2b03c481a110406cf9baecf1cdcedb8519a17fd57b9e374c71f", func := "flotsam/flotsamlaw14.AssignOne", spec := "assignOne", unfollowed := true, recurses := true, apart := false }
def AssignOneSaid : Prop := assignOneRow.holds Try.pinned (OpenSpec.ofChange assignOneSpec)

/-- ITS FALSE NEIGHBOUR: 'it returns false'. Refute it at one input. -/
def assignOneWrong : ChangeSpec := { name := "assignOne", fn := fun _ => fun
  | [d1, d2] => { results := [.lit (.bool false)], args := [d1, d2] }
  | _ => none }
def AssignOneWrongFalsely : Prop := assignOneRow.holds Try.pinned (OpenSpec.ofChange assignOneWrong)

/-- 'flotsamlaw14.AssignWhole': WHATEVER THE INPUT: true; the input reads as it did. -/
def assignWholeSpec : ChangeSpec := { name := "assignWhole", fn := fun _ => fun
  | [d1, d2] => { results := [.lit (.bool true)], args := [d1, d2] }
  | _ => none }
def assignWholeRow : OpenClaim := { program := "ytncblldhfmabbaa", sum := "427172aa7d5fe2b03c481a110406cf9baecf1cdcedb8519a17fd57b9e374c71f", func := "flotsam/flotsamlaw14.AssignWhole", spec := "assignWhole", unfollowed := true, recurses := true, apart := false }
def AssignWholeSaid : Prop := assignWholeRow.holds Try.pinned (OpenSpec.ofChange assignWholeSpec)

/-- ITS FALSE NEIGHBOUR: 'it returns false'. Refute it at one input. -/
def assignWholeWrong : ChangeSpec := { name := "assignWhole", fn := fun _ => fun
  | [d1, d2] => { results := [.lit (.bool false)], args := [d1, d2] }
  | _ => none }
def AssignWholeWrongFalsely : Prop := assignWholeRow.holds Try.pinned (OpenSpec.ofChange assignWholeWrong)

/-- 'flotsamlaw14.AssignFair': WHATEVER THE INPUT: true; the input reads as it did. -/
def assignFairSpec : ChangeSpec := { name := "assignFair", fn := fun _ => fun
  | [d1, d2] => { results := [.lit (.bool true)], args := [d1, d2] }
  | _ => none }
def assignFairRow : OpenClaim := { program := "ytncblldhfmabbaa", sum := "427172aa7d5fe2b03c481a110406cf9baecf1cdcedb8519a17fd57b9e374c71f", func := "flotsam/flotsamlaw14.AssignFair", spec := "assignFair", unfollowed := true, recurses := true, apart := false }
def AssignFairSaid : Prop := assignFairRow.holds Try.pinned (OpenSpec.ofChange assignFairSpec)

/-- ITS FALSE NEIGHBOUR: 'it returns false'. Refute it at one input. -/
def assignFairWrong : ChangeSpec := { name := "assignFair", fn := fun _ => fun
  | [d1, d2] => { results := [.lit (.bool false)], args := [d1, d2] }
  | _ => none }
def AssignFairWrongFalsely : Prop := assignFairRow.holds Try.pinned (OpenSpec.ofChange assignFairWrong)

/-- 'flotsamlaw14.AssignIdle': WHATEVER THE INPUT: true; the input reads as it did. -/
def assignIdleSpec : ChangeSpec := { name := "assignIdle", fn := fun _ => fun
  | [d1, d2] => { results := [.lit (.bool true)], args := [d1, d2] }
  | _ => none }
def assignIdleRow : OpenClaim := { program := "ytncblldhfmabbaa", sum := "427172aa7d5fe2b03c481a110406cf9baecf1cdcedb8519a17fd57b9e374c71f", func := "flotsam/flotsamlaw14.AssignIdle", spec := "assignIdle", unfollowed := true, recurses := true, apart := false }
def AssignIdleSaid : Prop := assignIdleRow.holds Try.pinned (OpenSpec.ofChange assignIdleSpec)

/-- ITS FALSE NEIGHBOUR: 'it returns false'. Refute it at one input. -/
def assignIdleWrong : ChangeSpec := { name := "assignIdle", fn := fun _ => fun
  | [d1, d2] => { results := [.lit (.bool false)], args := [d1, d2] }
  | _ => none }
def AssignIdleWrongFalsely : Prop := assignIdleRow.holds Try.pinned (OpenSpec.ofChange assignIdleWrong)

/- THE SECOND FORM. 'bulk': how many values and letters a reading holds, each counted each time it is reached (what is shared counts as often as it is met; a slice's spare places count too). A statement '..UptoSaid' is the law's where the arguments, and the package variables that the reading takes, are together of bulk at most 1048576: NARROWER than '..Said'. Prove '..Said' where nothing that the law and all that it calls make is longer than what came in: it says more and counts as full. Else prove '..UptoSaid'. A law counts once. -/
mutual
def uptoBulk {H : Type} : DataW H → Nat
  | .lit (.string bytes) => bytes.length + 1
  | .lit _ => 1
  | .nil => 1
  | .ptr d => uptoBulk d + 1
  | .slice elems spare => uptoBulkAll elems + uptoBulkAll spare + 1
  | .agg parts => uptoBulkAll parts + 1
  | .iface _ d => uptoBulk d + 1
  | .map entries => uptoBulkEntries entries + 1
  | .held _ => 1
def uptoBulkAll {H : Type} : List (DataW H) → Nat
  | [] => 0
  | d :: r => uptoBulk d + uptoBulkAll r
def uptoBulkEntries {H : Type} : List (Lit × DataW H) → Nat
  | [] => 0
  | x :: r => uptoBulkEntry x + uptoBulkEntries r
def uptoBulkEntry {H : Type} : Lit × DataW H → Nat
  | (.string bytes, d) => bytes.length + uptoBulk d + 1
  | (_, d) => uptoBulk d + 1
 end
def uptoSmall : (H : Type) → List (DataW H) → Bool := fun _ ds => decide (uptoBulkAll ds ≤ 1048576)
def OpenSpec.upto (s : _root_.Go.ChangeSpec) : _root_.Go.OpenSpec := { _root_.Go.OpenSpec.ofChange s with cond := some uptoSmall }

/-- 'flotsamlaw14.AssignOne', WHERE WHAT IT READS IS OF BULK AT MOST 1048576: true; the input reads as it did. -/
def assignOneUptoRow : OpenClaim := { program := "ytncblldhfmabbaa", sum := "427172aa7d5fe2b03c481a110406cf9baecf1cdcedb8519a17fd57b9e374c71f", func := "flotsam/flotsamlaw14.AssignOne", spec := "assignOne", unfollowed := true, recurses := true, apart := false, narrowed := true }
def AssignOneUptoSaid : Prop := assignOneUptoRow.holds Try.pinned (OpenSpec.upto assignOneSpec)

/-- 'flotsamlaw14.AssignWhole', WHERE WHAT IT READS IS OF BULK AT MOST 1048576: true; the input reads as it did. -/
def assignWholeUptoRow : OpenClaim := { program := "ytncblldhfmabbaa", sum := "427172aa7d5fe2b03c481a110406cf9baecf1cdcedb8519a17fd57b9e374c71f", func := "flotsam/flotsamlaw14.AssignWhole", spec := "assignWhole", unfollowed := true, recurses := true, apart := false, narrowed := true }
def AssignWholeUptoSaid : Prop := assignWholeUptoRow.holds Try.pinned (OpenSpec.upto assignWholeSpec)

/-- 'flotsamlaw14.AssignFair', WHERE WHAT IT READS IS OF BULK AT MOST 1048576: true; the input reads as it did. -/
def assignFairUptoRow : OpenClaim := { program := "ytncblldhfmabbaa", sum := "427172aa7d5fe2b03c481a110406cf9baecf1cdcedb8519a17fd57b9e374c71f", func := "flotsam/flotsamlaw14.AssignFair", spec := "assignFair", unfollowed := true, recurses := true, apart := false, narrowed := true }
def AssignFairUptoSaid : Prop := assignFairUptoRow.holds Try.pinned (OpenSpec.upto assignFairSpec)

/-- 'flotsamlaw14.AssignIdle', WHERE WHAT IT READS IS OF BULK AT MOST 1048576: true; the input reads as it did. -/
def assignIdleUptoRow : OpenClaim := { program := "ytncblldhfmabbaa", sum := "427172aa7d5fe2b03c481a110406cf9baecf1cdcedb8519a17fd57b9e374c71f", func := "flotsam/flotsamlaw14.AssignIdle", spec := "assignIdle", unfollowed := true, recurses := true, apart := false, narrowed := true }
def AssignIdleUptoSaid : Prop := assignIdleUptoRow.holds Try.pinned (OpenSpec.upto assignIdleSpec)

end Rows
end Go.Proofs.Ytncblldhfmabbaa
