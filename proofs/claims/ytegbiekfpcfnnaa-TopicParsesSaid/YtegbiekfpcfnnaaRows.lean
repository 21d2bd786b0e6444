/-
  No cell of these rows narrows 'for every input' (looked for: loops, veiled, ifaces, maps, wideKeys, modest, calm, conditions, laid).
  DERIVED. THE GIVEN ROWS OF THIS SEAT. 5 by the template 'for every input the law returns true; each argument reads behind the call as it read before'; 0 by the template 'total and deterministic' (their statements: YtegbiekfpcfnnaaTotals.lean).
  GIVEN WITH THE SEED: the statements are not yours to turn. If you find one false, say at which input.
  Laid BY PROGRAM, IN A SANDBOX (cutbox-rows.mjs): the forced cells as the released guide's own fill.sh prints them over the translation 4db6e7e876a89486… (all of the seat's roots in one cut). By AI agents, Wed Nov 11 2026. No macro, syntax, notation, axiom, sorry.
-/
import Derived.Test.YtegbiekfpcfnnaaChecked
import GoSem.Claim
import GoSem.ClaimJoined
import GoSem.ClaimMapViews
import Derived.JoinedTies
import Derived.KernelRfl
namespace Go.Proofs.Ytegbiekfpcfnnaa
/- THE CELL 'sum', in the pinned program and in every row, IS THE sha256 OF THE DUMP (.gsa) THAT YtegbiekfpcfnnaaProg.lean LOADS. Nothing in Lean hashes anything: it is a label: what it is worth is what the hold of that sum in a sandbox is worth. -/
noncomputable def Try.pinned : Pinned := { name := "ytegbiekfpcfnnaa", sum := "4db6e7e876a89486865f222e7da0f24f824f029392ce521298da15d192a1a200", checked := Try.checked }
namespace Rows
def none {H : Type} : Left H := { results := [], args := [] }

/-- 'flotsamlaw18.TopicIds': WHATEVER THE INPUT: true; the input reads as it did. -/
def topicIdsSpec : ChangeSpec := { name := "topicIds", fn := fun _ => fun
  | [d] => { results := [.lit (.bool true)], args := [d] }
  | _ => none }
def topicIdsRow : OpenClaim := { program := "ytegbiekfpcfnnaa", sum := "4db6e7e876a89486865f222e7da0f24f824f029392ce521298da15d192a1a200", func := "flotsam/flotsamlaw18.TopicIds", spec := "topicIds", apart := false }
def TopicIdsSaid : Prop := topicIdsRow.holds Try.pinned (OpenSpec.ofChange topicIdsSpec)

/-- ITS FALSE NEIGHBOUR: 'it returns false'. Refute it at one input. -/
def topicIdsWrong : ChangeSpec := { name := "topicIds", fn := fun _ => fun
  | [d] => { results := [.lit (.bool false)], args := [d] }
  | _ => none }
def TopicIdsWrongFalsely : Prop := topicIdsRow.holds Try.pinned (OpenSpec.ofChange topicIdsWrong)

/-- 'flotsamlaw18.TopicOrder': WHATEVER THE INPUT: true; the input reads as it did. -/
def topicOrderSpec : ChangeSpec := { name := "topicOrder", fn := fun _ => fun
  | [d1, d2] => { results := [.lit (.bool true)], args := [d1, d2] }
  | _ => none }
def topicOrderRow : OpenClaim := { program := "ytegbiekfpcfnnaa", sum := "4db6e7e876a89486865f222e7da0f24f824f029392ce521298da15d192a1a200", func := "flotsam/flotsamlaw18.TopicOrder", spec := "topicOrder", unfollowed := true, recurses := true, apart := false }
def TopicOrderSaid : Prop := topicOrderRow.holds Try.pinned (OpenSpec.ofChange topicOrderSpec)

/-- ITS FALSE NEIGHBOUR: 'it returns false'. Refute it at one input. -/
def topicOrderWrong : ChangeSpec := { name := "topicOrder", fn := fun _ => fun
  | [d1, d2] => { results := [.lit (.bool false)], args := [d1, d2] }
  | _ => none }
def TopicOrderWrongFalsely : Prop := topicOrderRow.holds Try.pinned (OpenSpec.ofChange topicOrderWrong)

/-- 'flotsamlaw18.TopicScripts': WHATEVER THE INPUT: true; the input reads as it did. -/
def topicScriptsSpec : ChangeSpec := { name := "topicScripts", fn := fun _ => fun
  | [d] => { results := [.lit (.bool true)], args := [d] }
  | _ => none }
def topicScriptsRow : OpenClaim := { program := "ytegbiekfpcfnnaa", sum := "4db6e7e876a89486865f222e7da0f24f824f029392ce521298da15d192a1a200", func := "flotsam/flotsamlaw18.TopicScripts", spec := "topicScripts", unfollowed := true, recurses := true, apart := false }
def TopicScriptsSaid : Prop := topicScriptsRow.holds Try.pinned (OpenSpec.ofChange topicScriptsSpec)

/-- ITS FALSE NEIGHBOUR: 'it returns false'. Refute it at one input. -/
def topicScriptsWrong : ChangeSpec := { name := "topicScripts", fn := fun _ => fun
  | [d] => { results := [.lit (.bool false)], args := [d] }
  | _ => none }
def TopicScriptsWrongFalsely : Prop := topicScriptsRow.holds Try.pinned (OpenSpec.ofChange topicScriptsWrong)

/-- 'flotsamlaw18.TopicParses': WHATEVER THE INPUT: true; the input reads as it did. -/
def topicParsesSpec : ChangeSpec := { name := "topicParses", fn := fun _ => fun
  | [d] => { results := [.lit (.bool true)], args := [d] }
  | _ => none }
def topicParsesRow : OpenClaim := { program := "ytegbiekfpcfnnaa", sum := "4db6e7e876a89486865f222e7da0f24f824f029392ce521298da15d192a1a200", func := "flotsam/flotsamlaw18.TopicParses", spec := "topicParses", unfollowed := true, recurses := true, apart := false }
def TopicParsesSaid : Prop := topicParsesRow.holds Try.pinned (OpenSpec.ofChange topicParsesSpec)

/-- ITS FALSE NEIGHBOUR: 'it returns false'. Refute it at one input. -/
def topicParsesWrong : ChangeSpec := { name := "topicParses", fn := fun _ => fun
  | [d] => { results := [.lit (.bool false)], args := [d] }
  | _ => none }
def TopicParsesWrongFalsely : Prop := topicParsesRow.holds Try.pinned (OpenSpec.ofChange topicParsesWrong)

/-- 'flotsamlaw18.TopicNil': WHATEVER THE INPUT: true; the input reads as it did. -/
def topicNilSpec : ChangeSpec := { name := "topicNil", fn := fun _ => fun
  | [d] => { results := [.lit (.bool true)], args := [d] }
  | _ => none }
def topicNilRow : OpenClaim := { program := "ytegbiekfpcfnnaa", sum := "4db6e7e876a89486865f222e7da0f24f824f029392ce521298da15d192a1a200", func := "flotsam/flotsamlaw18.TopicNil", spec := "topicNil", unfollowed := true, recurses := true, apart := false }
def TopicNilSaid : Prop := topicNilRow.holds Try.pinned (OpenSpec.ofChange topicNilSpec)

/-- ITS FALSE NEIGHBOUR: 'it returns false'. Refute it at one input. -/
def topicNilWrong : ChangeSpec := { name := "topicNil", fn := fun _ => fun
  | [d] => { results := [.lit (.bool false)], args := [d] }
  | _ => none }
def TopicNilWrongFalsely : Prop := topicNilRow.holds Try.pinned (OpenSpec.ofChange topicNilWrong)

/- THE SECOND FORM. 'bulk': how many values and letters a reading holds, each counted each time it is reached (what is shared counts as often as it is met; a slice's spare places count too). A statement '..UptoSaid' is the law's where the arguments, and the package variables that the reading takes, are together of bulk at most 1048576: NARROWER than '..Said'. Prove '..Said' where nothing that the law and all that it calls make is longer than what came in: it says more and counts as full. Else prove '..UptoSaid'. A law counts once. -/
mutual
def uptoBulk {H : Type} : DataW H → Nat
  | .lit (.string bytes) => bytes.length + 1
  | .lit _ => 1
  | .nil => 1
  | .ptr d => uptoBulk d + 1
  | .slice elems spare => uptoBulkAll elems + uptoBulkAll spare + 1
  | .agg parts => uptoBulkAll parts + 1
  | .iface _ d => uptoBulk d + 1
  | .map entries => uptoBulkEntries entries + 1
  | .held _ => 1
def uptoBulkAll {H : Type} : List (DataW H) → Nat
  | [] => 0
  | d :: r => uptoBulk d + uptoBulkAll r
def uptoBulkEntries {H : Type} : List (Lit × DataW H) → Nat
  | [] => 0
  | x :: r => uptoBulkEntry x + uptoBulkEntries r
def uptoBulkEntry {H : Type} : Lit × DataW H → Nat
  | (.string bytes, d) => bytes.length + uptoBulk d + 1
  | (_, d) => uptoBulk d + 1
 end
def uptoSmall : (H : Type) → List (DataW H) → Bool := fun _ ds => decide (uptoBulkAll ds ≤ 1048576)
def OpenSpec.upto (s : _root_.Go.ChangeSpec) : _root_.Go.OpenSpec := { _root_.Go.OpenSpec.ofChange s with cond := some uptoSmall }

/-- 'flotsamlaw18.TopicIds', WHERE WHAT IT READS IS OF BULK AT MOST 1048576: true; the input reads as it did. -/
def topicIdsUptoRow : OpenClaim := { program := "ytegbiekfpcfnnaa", sum := "4db6e7e876a89486865f222e7da0f24f824f029392ce521298da15d192a1a200", func := "flotsam/flotsamlaw18.TopicIds", spec := "topicIds", apart := false, narrowed := true }
def TopicIdsUptoSaid : Prop := topicIdsUptoRow.holds Try.pinned (OpenSpec.upto topicIdsSpec)

/-- 'flotsamlaw18.TopicOrder', WHERE WHAT IT READS IS OF BULK AT MOST 1048576: true; the input reads as it did. -/
def topicOrderUptoRow : OpenClaim := { program := "ytegbiekfpcfnnaa", sum := "4db6e7e876a89486865f222e7da0f24f824f029392ce521298da15d192a1a200", func := "flotsam/flotsamlaw18.TopicOrder", spec := "topicOrder", unfollowed := true, recurses := true, apart := false, narrowed := true }
def TopicOrderUptoSaid : Prop := topicOrderUptoRow.holds Try.pinned (OpenSpec.upto topicOrderSpec)

/-- 'flotsamlaw18.TopicScripts', WHERE WHAT IT READS IS OF BULK AT MOST 1048576: true; the input reads as it did. -/
def topicScriptsUptoRow : OpenClaim := { program := "ytegbiekfpcfnnaa", sum := "4db6e7e876a89486865f222e7da0f24f824f029392ce521298da15d192a1a200", func := "flotsam/flotsamlaw18.TopicScripts", spec := "topicScripts", unfollowed := true, recurses := true, apart := false, narrowed := true }
def TopicScriptsUptoSaid : Prop := topicScriptsUptoRow.holds Try.pinned (OpenSpec.upto topicScriptsSpec)

/-- 'flotsamlaw18.TopicParses', WHERE WHAT IT READS IS OF BULK AT MOST 1048576: true; the input reads as it did. -/
def topicParsesUptoRow : OpenClaim := { program := "ytegbiekfpcfnnaa", sum := "4db6e7e876a89486865f222e7da0f24f824f029392ce521298da15d192a1a200", func := "flotsam/flotsamlaw18.TopicParses", spec := "topicParses", unfollowed := true, recurses := true, apart := false, narrowed := true }
def TopicParsesUptoSaid : Prop := topicParsesUptoRow.holds Try.pinned (OpenSpec.upto topicParsesSpec)

/-- 'flotsamlaw18.TopicNil', WHERE WHAT IT READS IS OF BULK AT MOST 1048576: true; the input reads as it did. -/
def topicNilUptoRow : OpenClaim := { program := "ytegbiekfpcfnnaa", sum := "4db6e7e876a89486865f222e7da0f24f824f029392ce521298da15d192a1a200", func := "flotsam/flotsamlaw18.TopicNil", spec := "topicNil", unfollowed := true, recurses := true, apart := false, narrowed := true }
def TopicNilUptoSaid : Prop := topicNilUptoRow.holds Try.pinned (OpenSpec.upto topicNilSpec)

end Rows
end Go.Proofs.Ytegbiekfpcfnnaa
