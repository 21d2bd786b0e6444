/-
  No cell of these rows narrows 'for every input' (looked for: loops, veiled, ifaces, maps, wideKeys, modest, calm, conditions, laid).
  DERIVED. THE GIVEN ROWS OF THIS SEAT. 6 by the template 'for every input the law returns true; each argument reads behind the call as it read before'; 0 by the template 'total and deterministic' (their statements: YtbjpifipjcfhkaaTotals.lean).
  GIVEN WITH THE SEED: the statements are not yours to turn. If you find one false, say at which input.
  Laid BY PROGRAM, IN A SANDBOX (cutbox-rows.mjs): the forced cells as the released guide's own fill.sh prints them over the translation 8bf0c2342e2d41ef… (all of the seat's roots in one cut). By AI agents, Wed Nov 11 2026. No macro, syntax, notation, axiom, sorry.
-/
import Derived.Test.YtbjpifipjcfhkaaChecked
import GoSem.Claim
import GoSem.ClaimJoined
import GoSem.ClaimMapViews
import Derived.JoinedTies
import Derived.KernelRfl
namespace Go.Proofs.Ytbjpifipjcfhkaa
/- THE CELL 'sum', in the pinned program and in every row, IS THE sha256 OF THE DUMP (.gsa) THAT YtbjpifipjcfhkaaProg.lean LOADS. Nothing in Lean hashes anything: it is a label: what it is worth is what the hold of that sum in a sandbox is worth. -/
noncomputable def Try.pinned : Pinned := { name := "ytbjpifipjcfhkaa", sum := "8bf0c2342e2d41efc34b715313a7bd09fc4d6b59f5a9d2ef9fe047871aebd4f0", checked := Try.checked }
namespace Rows
def none {H : Type} : Left H := { results := [], args := [] }

/-- 'flotsamlaw13.IdemScripts': WHATEVER THE INPUT: true; the input reads as it did. -/
def idemScriptsSpec : ChangeSpec := { name := "idemScripts", fn := fun _ => fun
  | [d] => { results := [.lit (.bool true)], args := [d] }
  | _ => none }
def idemScriptsRow : OpenClaim := { program := "ytbjpifipjcfhkaa", sum := "8bf0c2342e2d41efc34b715313a7bd09fc4d6b59f5a9d2ef9fe047871aebd4f0", func := "flotsam/flotsamlaw13.IdemScripts", spec := "idemScripts", unfollowed := true, recurses := true, apart := false }
def IdemScriptsSaid : Prop := idemScriptsRow.holds Try.pinned (OpenSpec.ofChange idemScriptsSpec)

/-- ITS FALSE NEIGHBOUR: 'it returns false'. Refute it at one input. -/
def idemScriptsWrong : ChangeSpec := { name := "idemScripts", fn := fun _ => fun
  | [d] => { results := [.lit (.bool false)], args := [d] }
  | _ => none }
def IdemScriptsWrongFalsely : Prop := idemScriptsRow.holds Try.pinned (OpenSpec.ofChange idemScriptsWrong)

/-- 'flotsamlaw13.IdemParses': WHATEVER THE INPUT: true; the input reads as it did. -/
def idemParsesSpec : ChangeSpec := { name := "idemParses", fn := fun _ => fun
  | [d] => { results := [.lit (.bool true)], args := [d] }
  | _ => none }
def idemParsesRow : OpenClaim := { program := "ytbjpifipjcfhkaa", sum := "8bf0c2342e2d41efc34b715313a7bd09fc4d6b59f5a9d2ef9fe047871aebd4f0", func := "flotsam/flotsamlaw13.IdemParses", spec := "idemParses", unfollowed := true, recurses := true, apart := false }
def IdemParsesSaid : Prop := idemParsesRow.holds Try.pinned (OpenSpec.ofChange idemParsesSpec)

/-- ITS FALSE NEIGHBOUR: 'it returns false'. Refute it at one input. -/
def idemParsesWrong : ChangeSpec := { name := "idemParses", fn := fun _ => fun
  | [d] => { results := [.lit (.bool false)], args := [d] }
  | _ => none }
def IdemParsesWrongFalsely : Prop := idemParsesRow.holds Try.pinned (OpenSpec.ofChange idemParsesWrong)

/-- 'flotsamlaw13.IdemNil': WHATEVER THE INPUT: true; the input reads as it did. -/
def idemNilSpec : ChangeSpec := { name := "idemNil", fn := fun _ => fun
  | [d] => { results := [.lit (.bool true)], args := [d] }
  | _ => none }
def idemNilRow : OpenClaim := { program := "ytbjpifipjcfhkaa", sum := "8bf0c2342e2d41efc34b715313a7bd09fc4d6b59f5a9d2ef9fe047871aebd4f0", func := "flotsam/flotsamlaw13.IdemNil", spec := "idemNil", unfollowed := true, recurses := true, apart := false }
def IdemNilSaid : Prop := idemNilRow.holds Try.pinned (OpenSpec.ofChange idemNilSpec)

/-- ITS FALSE NEIGHBOUR: 'it returns false'. Refute it at one input. -/
def idemNilWrong : ChangeSpec := { name := "idemNil", fn := fun _ => fun
  | [d] => { results := [.lit (.bool false)], args := [d] }
  | _ => none }
def IdemNilWrongFalsely : Prop := idemNilRow.holds Try.pinned (OpenSpec.ofChange idemNilWrong)

/-- 'flotsamlaw13.IdemAgain': WHATEVER THE INPUT: true; the input reads as it did. -/
def idemAgainSpec : ChangeSpec := { name := "idemAgain", fn := fun _ => fun
  | [d1, d2] => { results := [.lit (.bool true)], args := [d1, d2] }
  | _ => none }
def idemAgainRow : OpenClaim := { program := "ytbjpifipjcfhkaa", sum := "8bf0c2342e2d41efc34b715313a7bd09fc4d6b59f5a9d2ef9fe047871aebd4f0", func := "flotsam/flotsamlaw13.IdemAgain", spec := "idemAgain", unfollowed := true, recurses := true, apart := false }
def IdemAgainSaid : Prop := idemAgainRow.holds Try.pinned (OpenSpec.ofChange idemAgainSpec)

/-- ITS FALSE NEIGHBOUR: 'it returns false'. Refute it at one input. -/
def idemAgainWrong : ChangeSpec := { name := "idemAgain", fn := fun _ => fun
  | [d1, d2] => { results := [.lit (.bool false)], args := [d1, d2] }
  | _ => none }
def IdemAgainWrongFalsely : Prop := idemAgainRow.holds Try.pinned (OpenSpec.ofChange idemAgainWrong)

/-- 'flotsamlaw13.IdemApart': WHATEVER THE INPUT: true; the input reads as it did. -/
def idemApartSpec : ChangeSpec := { name := "idemApart", fn := fun _ => fun
  | [d1, d2, d3] => { results := [.lit (.bool true)], args := [d1, d2, d3] }
  | _ => none }
def idemApartRow : OpenClaim := { program := "ytbjpifipjcfhkaa", sum := "8bf0c2342e2d41efc34b715313a7bd09fc4d6b59f5a9d2ef9fe047871aebd4f0", func := "flotsam/flotsamlaw13.IdemApart", spec := "idemApart", unfollowed := true, recurses := true, apart := false }
def IdemApartSaid : Prop := idemApartRow.holds Try.pinned (OpenSpec.ofChange idemApartSpec)

/-- ITS FALSE NEIGHBOUR: 'it returns false'. Refute it at one input. -/
def idemApartWrong : ChangeSpec := { name := "idemApart", fn := fun _ => fun
  | [d1, d2, d3] => { results := [.lit (.bool false)], args := [d1, d2, d3] }
  | _ => none }
def IdemApartWrongFalsely : Prop := idemApartRow.holds Try.pinned (OpenSpec.ofChange idemApartWrong)

/-- 'flotsamlaw13.IdemRebuilds': WHATEVER THE INPUT: true; the input reads as it did. -/
def idemRebuildsSpec : ChangeSpec := { name := "idemRebuilds", fn := fun _ => fun
  | [d] => { results := [.lit (.bool true)], args := [d] }
  | _ => none }
def idemRebuildsRow : OpenClaim := { program := "ytbjpifipjcfhkaa", sum := "8bf0c2342e2d41efc34b715313a7bd09fc4d6b59f5a9d2ef9fe047871aebd4f0", func := "flotsam/flotsamlaw13.IdemRebuilds", spec := "idemRebuilds", unfollowed := true, recurses := true, apart := false }
def IdemRebuildsSaid : Prop := idemRebuildsRow.holds Try.pinned (OpenSpec.ofChange idemRebuildsSpec)

/-- ITS FALSE NEIGHBOUR: 'it returns false'. Refute it at one input. -/
def idemRebuildsWrong : ChangeSpec := { name := "idemRebuilds", fn := fun _ => fun
  | [d] => { results := [.lit (.bool false)], args := [d] }
  | _ => none }
def IdemRebuildsWrongFalsely : Prop := idemRebuildsRow.holds Try.pinned (OpenSpec.ofChange idemRebuildsWrong)

/- THE SECOND FORM. 'bulk': how many values and letters a reading holds, each counted each time it is reached (what is shared counts as often as it is met; a slice's spare places count too). A statement '..UptoSaid' is the law's where the arguments, and the package variables that the reading takes, are together of bulk at most 1048576: NARROWER than '..Said'. Prove '..Said' where nothing that the law and all that it calls make is longer than what came in: it says more and counts as full. Else prove '..UptoSaid'. A law counts once. -/
mutual
def uptoBulk {H : Type} : DataW H → Nat
  | .lit (.string bytes) => bytes.length + 1
  | .lit _ => 1
  | .nil => 1
  | .ptr d => uptoBulk d + 1
  | .slice elems spare => uptoBulkAll elems + uptoBulkAll spare + 1
  | .agg parts => uptoBulkAll parts + 1
  | .iface _ d => uptoBulk d + 1
  | .map entries => uptoBulkEntries entries + 1
  | .held _ => 1
def uptoBulkAll {H : Type} : List (DataW H) → Nat
  | [] => 0
  | d :: r => uptoBulk d + uptoBulkAll r
def uptoBulkEntries {H : Type} : List (Lit × DataW H) → Nat
  | [] => 0
  | x :: r => uptoBulkEntry x + uptoBulkEntries r
def uptoBulkEntry {H : Type} : Lit × DataW H → Nat
  | (.string bytes, d) => bytes.length + uptoBulk d + 1
  | (_, d) => uptoBulk d + 1
 end
def uptoSmall : (H : Type) → List (DataW H) → Bool := fun _ ds => decide (uptoBulkAll ds ≤ 1048576)
def OpenSpec.upto (s : _root_.Go.ChangeSpec) : _root_.Go.OpenSpec := { _root_.Go.OpenSpec.ofChange s with cond := some uptoSmall }

/-- 'flotsamlaw13.IdemScripts', WHERE WHAT IT READS IS OF BULK AT MOST 1048576: true; the input reads as it did. -/
def idemScriptsUptoRow : OpenClaim := { program := "ytbjpifipjcfhkaa", sum := "8bf0c2342e2d41efc34b715313a7bd09fc4d6b59f5a9d2ef9fe047871aebd4f0", func := "flotsam/flotsamlaw13.IdemScripts", spec := "idemScripts", unfollowed := true, recurses := true, apart := false, narrowed := true }
def IdemScriptsUptoSaid : Prop := idemScriptsUptoRow.holds Try.pinned (OpenSpec.upto idemScriptsSpec)

/-- 'flotsamlaw13.IdemParses', WHERE WHAT IT READS IS OF BULK AT MOST 1048576: true; the input reads as it did. -/
def idemParsesUptoRow : OpenClaim := { program := "ytbjpifipjcfhkaa", sum := "8bf0c2342e2d41efc34b715313a7bd09fc4d6b59f5a9d2ef9fe047871aebd4f0", func := "flotsam/flotsamlaw13.IdemParses", spec := "idemParses", unfollowed := true, recurses := true, apart := false, narrowed := true }
def IdemParsesUptoSaid : Prop := idemParsesUptoRow.holds Try.pinned (OpenSpec.upto idemParsesSpec)

/-- 'flotsamlaw13.IdemNil', WHERE WHAT IT READS IS OF BULK AT MOST 1048576: true; the input reads as it did. -/
def idemNilUptoRow : OpenClaim := { program := "ytbjpifipjcfhkaa", sum := "8bf0c2342e2d41efc34b715313a7bd09fc4d6b59f5a9d2ef9fe047871aebd4f0", func := "flotsam/flotsamlaw13.IdemNil", spec := "idemNil", unfollowed := true, recurses := true, apart := false, narrowed := true }
def IdemNilUptoSaid : Prop := idemNilUptoRow.holds Try.pinned (OpenSpec.upto idemNilSpec)

/-- 'flotsamlaw13.IdemAgain', WHERE WHAT IT READS IS OF BULK AT MOST 1048576: true; the input reads as it did. -/
def idemAgainUptoRow : OpenClaim := { program := "ytbjpifipjcfhkaa", sum := "8bf0c2342e2d41efc34b715313a7bd09fc4d6b59f5a9d2ef9fe047871aebd4f0", func := "flotsam/flotsamlaw13.IdemAgain", spec := "idemAgain", unfollowed := true, recurses := true, apart := false, narrowed := true }
def IdemAgainUptoSaid : Prop := idemAgainUptoRow.holds Try.pinned (OpenSpec.upto idemAgainSpec)

/-- 'flotsamlaw13.IdemApart', WHERE WHAT IT READS IS OF BULK AT MOST 1048576: true; the input reads as it did. -/
def idemApartUptoRow : OpenClaim := { program := "ytbjpifipjcfhkaa", sum := "8bf0c2342e2d41efc34b715313a7bd09fc4d6b59f5a9d2ef9fe047871aebd4f0", func := "flotsam/flotsamlaw13.IdemApart", spec := "idemApart", unfollowed := true, recurses := true, apart := false, narrowed := true }
def IdemApartUptoSaid : Prop := idemApartUptoRow.holds Try.pinned (OpenSpec.upto idemApartSpec)

/-- 'flotsamlaw13.IdemRebuilds', WHERE WHAT IT READS IS OF BULK AT MOST 1048576: true; the input reads as it did. -/
def idemRebuildsUptoRow : OpenClaim := { program := "ytbjpifipjcfhkaa", sum := "8bf0c2342e2d41efc34b715313a7bd09fc4d6b59f5a9d2ef9fe047871aebd4f0", func := "flotsam/flotsamlaw13.IdemRebuilds", spec := "idemRebuilds", unfollowed := true, recurses := true, apart := false, narrowed := true }
def IdemRebuildsUptoSaid : Prop := idemRebuildsUptoRow.holds Try.pinned (OpenSpec.upto idemRebuildsSpec)

end Rows
end Go.Proofs.Ytbjpifipjcfhkaa
