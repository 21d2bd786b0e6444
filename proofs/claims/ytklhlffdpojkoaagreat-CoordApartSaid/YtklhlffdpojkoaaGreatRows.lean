/-
  No cell of these rows narrows 'for every input' (looked for: loops, veiled, ifaces, maps, wideKeys, modest, calm, conditions, laid).
  DERIVED. THE GIVEN ROWS OF THIS SEAT. 3 by the template 'for every input the law returns true; each argument reads behind the call as it read before'; 0 by the template 'total and deterministic' (their statements: YtklhlffdpojkoaaGreatTotals.lean).
  GIVEN WITH THE SEED: the statements are not yours to turn. If you find one false, say at which input.
  Laid BY PROGRAM, IN A SANDBOX (cutbox-rows.mjs): the forced cells as the released guide's own fill.sh prints them over the translation 29b6d6c23b2442f1… (all of the seat's roots in one cut). By AI agents, Wed Nov 11 2026. No macro, syntax, notation, axiom, sorry.
-/
import Derived.Test.YtklhlffdpojkoaaGreatChecked
import GoSem.Claim
import GoSem.ClaimJoined
import GoSem.ClaimMapViews
import Derived.JoinedTies
import Derived.KernelRfl
namespace Go.Proofs.YtklhlffdpojkoaaGreat
/- THE CELL 'sum', in the pinned program and in every row, IS THE sha256 OF THE DUMP (.gsa) THAT YtklhlffdpojkoaaGreatProg.lean LOADS. Nothing in Lean hashes anything: it is a label: what it is worth is what the hold of that sum in a sandbox is worth. -/
noncomputable def Tryz.pinned : Pinned := { name := "ytklhlffdpojkoaagreat", sum := "29b6d6c23b2442f1d72ad1da238867419ab6c54a4c43a600f4f28cbf6f320d82", checked := Tryz.checked }
namespace Rows
def none {H : Type} : Left H := { results := [], args := [] }

/-- 'flotsamlaw17.CoordScripts': WHATEVER THE INPUT: true; the input reads as it did. -/
def coordScriptsSpec : ChangeSpec := { name := "coordScripts", fn := fun _ => fun
  | [d1, d2, d3] => { results := [.lit (.bool true)], args := [d1, d2, d3] }
  | _ => none }
def coordScriptsRow : OpenClaim := { program := "ytklhlffdpojkoaagreat", sum := "29b6d6c23b2442f1d72ad1da238867419ab6c54a4c43a600f4f28cbf6f320d82", func := "flotsam/flotsamlaw17.CoordScripts", spec := "coordScripts", unfollowed := true, recurses := true, plainKeys := false, apart := false }
def CoordScriptsSaid : Prop := coordScriptsRow.holds Tryz.pinned (OpenSpec.ofChange coordScriptsSpec)

/-- ITS FALSE NEIGHBOUR: 'it returns false'. Refute it at one input. -/
def coordScriptsWrong : ChangeSpec := { name := "coordScripts", fn := fun _ => fun
  | [d1, d2, d3] => { results := [.lit (.bool false)], args := [d1, d2, d3] }
  | _ => none }
def CoordScriptsWrongFalsely : Prop := coordScriptsRow.holds Tryz.pinned (OpenSpec.ofChange coordScriptsWrong)

/-- 'flotsamlaw17.CoordNil': WHATEVER THE INPUT: true; the input reads as it did. -/
def coordNilSpec : ChangeSpec := { name := "coordNil", fn := fun _ => fun
  | [d] => { results := [.lit (.bool true)], args := [d] }
  | _ => none }
def coordNilRow : OpenClaim := { program := "ytklhlffdpojkoaagreat", sum := "29b6d6c23b2442f1d72ad1da238867419ab6c54a4c43a600f4f28cbf6f320d82", func := "flotsam/flotsamlaw17.CoordNil", spec := "coordNil", unfollowed := true, recurses := true, plainKeys := false, apart := false }
def CoordNilSaid : Prop := coordNilRow.holds Tryz.pinned (OpenSpec.ofChange coordNilSpec)

/-- ITS FALSE NEIGHBOUR: 'it returns false'. Refute it at one input. -/
def coordNilWrong : ChangeSpec := { name := "coordNil", fn := fun _ => fun
  | [d] => { results := [.lit (.bool false)], args := [d] }
  | _ => none }
def CoordNilWrongFalsely : Prop := coordNilRow.holds Tryz.pinned (OpenSpec.ofChange coordNilWrong)

/-- 'flotsamlaw17.CoordApart': WHATEVER THE INPUT: true; the input reads as it did. -/
def coordApartSpec : ChangeSpec := { name := "coordApart", fn := fun _ => fun
  | [d1, d2, d3] => { results := [.lit (.bool true)], args := [d1, d2, d3] }
  | _ => none }
def coordApartRow : OpenClaim := { program := "ytklhlffdpojkoaagreat", sum := "29b6d6c23b2442f1d72ad1da238867419ab6c54a4c43a600f4f28cbf6f320d82", func := "flotsam/flotsamlaw17.CoordApart", spec := "coordApart", unfollowed := true, recurses := true, plainKeys := false, apart := false }
def CoordApartSaid : Prop := coordApartRow.holds Tryz.pinned (OpenSpec.ofChange coordApartSpec)

/-- ITS FALSE NEIGHBOUR: 'it returns false'. Refute it at one input. -/
def coordApartWrong : ChangeSpec := { name := "coordApart", fn := fun _ => fun
  | [d1, d2, d3] => { results := [.lit (.bool false)], args := [d1, d2, d3] }
  | _ => none }
def CoordApartWrongFalsely : Prop := coordApartRow.holds Tryz.pinned (OpenSpec.ofChange coordApartWrong)

/- THE SECOND FORM. 'bulk': how many values and letters a reading holds, each counted each time it is reached (what is shared counts as often as it is met; a slice's spare places count too). A statement '..UptoSaid' is the law's where the arguments, and the package variables that the reading takes, are together of bulk at most 1048576: NARROWER than '..Said'. Prove '..Said' where nothing that the law and all that it calls make is longer than what came in: it says more and counts as full. Else prove '..UptoSaid'. A law counts once. -/
mutual
def uptoBulk {H : Type} : DataW H → Nat
  | .lit (.string bytes) => bytes.length + 1
  | .lit _ => 1
  | .nil => 1
  | .ptr d => uptoBulk d + 1
  | .slice elems spare => uptoBulkAll elems + uptoBulkAll spare + 1
  | .agg parts => uptoBulkAll parts + 1
  | .iface _ d => uptoBulk d + 1
  | .map entries => uptoBulkEntries entries + 1
  | .held _ => 1
def uptoBulkAll {H : Type} : List (DataW H) → Nat
  | [] => 0
  | d :: r => uptoBulk d + uptoBulkAll r
def uptoBulkEntries {H : Type} : List (Lit × DataW H) → Nat
  | [] => 0
  | x :: r => uptoBulkEntry x + uptoBulkEntries r
def uptoBulkEntry {H : Type} : Lit × DataW H → Nat
  | (.string bytes, d) => bytes.length + uptoBulk d + 1
  | (_, d) => uptoBulk d + 1
 end
def uptoSmall : (H : Type) → List (DataW H) → Bool := fun _ ds => decide (uptoBulkAll ds ≤ 1048576)
def OpenSpec.upto (s : _root_.Go.ChangeSpec) : _root_.Go.OpenSpec := { _root_.Go.OpenSpec.ofChange s with cond := some uptoSmall }

/-- 'flotsamlaw17.CoordScripts', WHERE WHAT IT READS IS OF BULK AT MOST 1048576: true; the input reads as it did. -/
def coordScriptsUptoRow : OpenClaim := { program := "ytklhlffdpojkoaagreat", sum := "29b6d6c23b2442f1d72ad1da238867419ab6c54a4c43a600f4f28cbf6f320d82", func := "flotsam/flotsamlaw17.CoordScripts", spec := "coordScripts", unfollowed := true, recurses := true, plainKeys := false, apart := false, narrowed := true }
def CoordScriptsUptoSaid : Prop := coordScriptsUptoRow.holds Tryz.pinned (OpenSpec.upto coordScriptsSpec)

/-- 'flotsamlaw17.CoordNil', WHERE WHAT IT READS IS OF BULK AT MOST 1048576: true; the input reads as it did. -/
def coordNilUptoRow : OpenClaim := { program := "ytklhlffdpojkoaagreat", sum := "29b6d6c23b2442f1d72ad1da238867419ab6c54a4c43a600f4f28cbf6f320d82", func := "flotsam/flotsamlaw17.CoordNil", spec := "coordNil", unfollowed := true, recurses := true, plainKeys := false, apart := false, narrowed := true }
def CoordNilUptoSaid : Prop := coordNilUptoRow.holds Tryz.pinned (OpenSpec.upto coordNilSpec)

/-- 'flotsamlaw17.CoordApart', WHERE WHAT IT READS IS OF BULK AT MOST 1048576: true; the input reads as it did. -/
def coordApartUptoRow : OpenClaim := { program := "ytklhlffdpojkoaagreat", sum := "29b6d6c23b2442f1d72ad1da238867419ab6c54a4c43a600f4f28cbf6f320d82", func := "flotsam/flotsamlaw17.CoordApart", spec := "coordApart", unfollowed := true, recurses := true, plainKeys := false, apart := false, narrowed := true }
def CoordApartUptoSaid : Prop := coordApartUptoRow.holds Tryz.pinned (OpenSpec.upto coordApartSpec)

end Rows
end Go.Proofs.YtklhlffdpojkoaaGreat
