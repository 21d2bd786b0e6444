/-
  No cell of these rows narrows 'for every input' (looked for: loops, veiled, ifaces, maps, wideKeys, modest, calm, conditions, laid).
  DERIVED. THE GIVEN ROWS OF THIS SEAT. 6 by the template 'for every input the law returns true; each argument reads behind the call as it read before'; 0 by the template 'total and deterministic' (their statements: YtlmajhkhlmkeiaaTotals.lean).
  GIVEN WITH THE SEED: the statements are not yours to turn. If you find one false, say at which input.
  Laid BY PROGRAM, IN A SANDBOX (cutbox-rows.mjs): the forced cells as the released guide's own fill.sh prints them over the translation 5bb7d78eec337338… (all of the seat's roots in one cut). By AI agents, Wed Nov 11 2026. No macro, syntax, notation, axiom, sorry.
-/
import Derived.Test.YtlmajhkhlmkeiaaChecked
import GoSem.Claim
import GoSem.ClaimJoined
import GoSem.ClaimMapViews
import Derived.JoinedTies
import Derived.KernelRfl
namespace Go.Proofs.Ytlmajhkhlmkeiaa
/- THE CELL 'sum', in the pinned program and in every row, IS THE sha256 OF THE DUMP (.gsa) THAT YtlmajhkhlmkeiaaProg.lean LOADS. Nothing in Lean hashes anything: it is a label: what it is worth is what the hold of that sum in a sandbox is worth. -/
noncomputable def Try.pinned : Pinned := { name := "ytlmajhkhlmkeiaa", sum := "5bb7d78eec33733801472aa915a9daa2551437afb8284567b0ecd7c632770fa5", checked := Try.checked }
namespace Rows
def none {H : Type} : Left H := { results := [], args := [] }

/-- 'flotsamlaw15.MemberSettles': WHATEVER THE INPUT: true; the input reads as it did. -/
def memberSettlesSpec : ChangeSpec := { name := "memberSettles", fn := fun _ => fun
  | [d] => { results := [.lit (.bool true)], args := [d] }
  | _ => none }
def memberSettlesRow : OpenClaim := { program := "ytlmajhkhlmkeiaa", sum := "5bb7d78eec33733801472aa915a9daa2551437afb8284567b0ecd7c632770fa5", func := "flotsam/flotsamlaw15.MemberSettles", spec := "memberSettles", unfollowed := true, recurses := true, apart := false }
def MemberSettlesSaid : Prop := memberSettlesRow.holds Try.pinned (OpenSpec.ofChange memberSettlesSpec)

/-- ITS FALSE NEIGHBOUR: 'it returns false'. Refute it at one input. -/
def memberSettlesWrong : ChangeSpec := { name := "memberSettles", fn := fun _ => fun
  | [d] => { results := [.lit (.bool false)], args := [d] }
  | _ => none }
def MemberSettlesWrongFalsely : Prop := memberSettlesRow.holds Try.pinned (OpenSpec.ofChange memberSettlesWrong)

/-- 'flotsamlaw15.MemberLate': WHATEVER THE INPUT: true; the input reads as it did. -/
def memberLateSpec : ChangeSpec := { name := "memberLate", fn := fun _ => fun
  | [d1, d2] => { results := [.lit (.bool true)], args := [d1, d2] }
  | _ => none }
def memberLateRow : OpenClaim := { program := "ytlmajhkhlmkeiaa", sum := "5bb7d78eec33733801472aa915a9daa2551437afb8284567b0ecd7c632770fa5", func := "flotsam/flotsamlaw15.MemberLate", spec := "memberLate", unfollowed := true, recurses := true, apart := false }
def MemberLateSaid : Prop := memberLateRow.holds Try.pinned (OpenSpec.ofChange memberLateSpec)

/-- ITS FALSE NEIGHBOUR: 'it returns false'. Refute it at one input. -/
def memberLateWrong : ChangeSpec := { name := "memberLate", fn := fun _ => fun
  | [d1, d2] => { results := [.lit (.bool false)], args := [d1, d2] }
  | _ => none }
def MemberLateWrongFalsely : Prop := memberLateRow.holds Try.pinned (OpenSpec.ofChange memberLateWrong)

/-- 'flotsamlaw15.MemberGone': WHATEVER THE INPUT: true; the input reads as it did. -/
def memberGoneSpec : ChangeSpec := { name := "memberGone", fn := fun _ => fun
  | [d] => { results := [.lit (.bool true)], args := [d] }
  | _ => none }
def memberGoneRow : OpenClaim := { program := "ytlmajhkhlmkeiaa", sum := "5bb7d78eec33733801472aa915a9daa2551437afb8284567b0ecd7c632770fa5", func := "flotsam/flotsamlaw15.MemberGone", spec := "memberGone", unfollowed := true, recurses := true, apart := false }
def MemberGoneSaid : Prop := memberGoneRow.holds Try.pinned (OpenSpec.ofChange memberGoneSpec)

/-- ITS FALSE NEIGHBOUR: 'it returns false'. Refute it at one input. -/
def memberGoneWrong : ChangeSpec := { name := "memberGone", fn := fun _ => fun
  | [d] => { results := [.lit (.bool false)], args := [d] }
  | _ => none }
def MemberGoneWrongFalsely : Prop := memberGoneRow.holds Try.pinned (OpenSpec.ofChange memberGoneWrong)

/-- 'flotsamlaw15.MemberNil': WHATEVER THE INPUT: true; the input reads as it did. -/
def memberNilSpec : ChangeSpec := { name := "memberNil", fn := fun _ => fun
  | [d] => { results := [.lit (.bool true)], args := [d] }
  | _ => none }
def memberNilRow : OpenClaim := { program := "ytlmajhkhlmkeiaa", sum := "5bb7d78eec33733801472aa915a9daa2551437afb8284567b0ecd7c632770fa5", func := "flotsam/flotsamlaw15.MemberNil", spec := "memberNil", unfollowed := true, recurses := true, apart := false }
def MemberNilSaid : Prop := memberNilRow.holds Try.pinned (OpenSpec.ofChange memberNilSpec)

/-- ITS FALSE NEIGHBOUR: 'it returns false'. Refute it at one input. -/
def memberNilWrong : ChangeSpec := { name := "memberNil", fn := fun _ => fun
  | [d] => { results := [.lit (.bool false)], args := [d] }
  | _ => none }
def MemberNilWrongFalsely : Prop := memberNilRow.holds Try.pinned (OpenSpec.ofChange memberNilWrong)

/-- 'flotsamlaw15.MemberRises': WHATEVER THE INPUT: true; the input reads as it did. -/
def memberRisesSpec : ChangeSpec := { name := "memberRises", fn := fun _ => fun
  | [d1, d2, d3] => { results := [.lit (.bool true)], args := [d1, d2, d3] }
  | _ => none }
def memberRisesRow : OpenClaim := { program := "ytlmajhkhlmkeiaa", sum := "5bb7d78eec33733801472aa915a9daa2551437afb8284567b0ecd7c632770fa5", func := "flotsam/flotsamlaw15.MemberRises", spec := "memberRises", unfollowed := true, recurses := true, apart := false }
def MemberRisesSaid : Prop := memberRisesRow.holds Try.pinned (OpenSpec.ofChange memberRisesSpec)

/-- ITS FALSE NEIGHBOUR: 'it returns false'. Refute it at one input. -/
def memberRisesWrong : ChangeSpec := { name := "memberRises", fn := fun _ => fun
  | [d1, d2, d3] => { results := [.lit (.bool false)], args := [d1, d2, d3] }
  | _ => none }
def MemberRisesWrongFalsely : Prop := memberRisesRow.holds Try.pinned (OpenSpec.ofChange memberRisesWrong)

/-- 'flotsamlaw15.MemberWhole': WHATEVER THE INPUT: true; the input reads as it did. -/
def memberWholeSpec : ChangeSpec := { name := "memberWhole", fn := fun _ => fun
  | [d1, d2, d3] => { results := [.lit (.bool true)], args := [d1, d2, d3] }
  | _ => none }
def memberWholeRow : OpenClaim := { program := "ytlmajhkhlmkeiaa", sum := "5bb7d78eec33733801472aa915a9daa2551437afb8284567b0ecd7c632770fa5", func := "flotsam/flotsamlaw15.MemberWhole", spec := "memberWhole", unfollowed := true, recurses := true, apart := false }
def MemberWholeSaid : Prop := memberWholeRow.holds Try.pinned (OpenSpec.ofChange memberWholeSpec)

/-- ITS FALSE NEIGHBOUR: 'it returns false'. Refute it at one input. -/
def memberWholeWrong : ChangeSpec := { name := "memberWhole", fn := fun _ => fun
  | [d1, d2, d3] => { results := [.lit (.bool false)], args := [d1, d2, d3] }
  | _ => none }
def MemberWholeWrongFalsely : Prop := memberWholeRow.holds Try.pinned (OpenSpec.ofChange memberWholeWrong)

/- THE SECOND FORM. 'bulk': how many values and letters a reading holds, each counted each time it is reached (what is shared counts as often as it is met; a slice's spare places count too). A statement '..UptoSaid' is the law's where the arguments, and the package variables that the reading takes, are together of bulk at most 1048576: NARROWER than '..Said'. Prove '..Said' where nothing that the law and all that it calls make is longer than what came in: it says more and counts as full. Else prove '..UptoSaid'. A law counts once. -/
mutual
def uptoBulk {H : Type} : DataW H → Nat
  | .lit (.string bytes) => bytes.length + 1
  | .lit _ => 1
  | .nil => 1
  | .ptr d => uptoBulk d + 1
  | .slice elems spare => uptoBulkAll elems + uptoBulkAll spare + 1
  | .agg parts => uptoBulkAll parts + 1
  | .iface _ d => uptoBulk d + 1
  | .map entries => uptoBulkEntries entries + 1
  | .held _ => 1
def uptoBulkAll {H : Type} : List (DataW H) → Nat
  | [] => 0
  | d :: r => uptoBulk d + uptoBulkAll r
def uptoBulkEntries {H : Type} : List (Lit × DataW H) → Nat
  | [] => 0
  | x :: r => uptoBulkEntry x + uptoBulkEntries r
def uptoBulkEntry {H : Type} : Lit × DataW H → Nat
  | (.string bytes, d) => bytes.length + uptoBulk d + 1
  | (_, d) => uptoBulk d + 1
 end
def uptoSmall : (H : Type) → List (DataW H) → Bool := fun _ ds => decide (uptoBulkAll ds ≤ 1048576)
def OpenSpec.upto (s : _root_.Go.ChangeSpec) : _root_.Go.OpenSpec := { _root_.Go.OpenSpec.ofChange s with cond := some uptoSmall }

/-- 'flotsamlaw15.MemberSettles', WHERE WHAT IT READS IS OF BULK AT MOST 1048576: true; the input reads as it did. -/
def memberSettlesUptoRow : OpenClaim := { program := "ytlmajhkhlmkeiaa", sum := "5bb7d78eec33733801472aa915a9daa2551437afb8284567b0ecd7c632770fa5", func := "flotsam/flotsamlaw15.MemberSettles", spec := "memberSettles", unfollowed := true, recurses := true, apart := false, narrowed := true }
def MemberSettlesUptoSaid : Prop := memberSettlesUptoRow.holds Try.pinned (OpenSpec.upto memberSettlesSpec)

/-- 'flotsamlaw15.MemberLate', WHERE WHAT IT READS IS OF BULK AT MOST 1048576: true; the input reads as it did. -/
def memberLateUptoRow : OpenClaim := { program := "ytlmajhkhlmkeiaa", sum := "5bb7d78eec33733801472aa915a9daa2551437afb8284567b0ecd7c632770fa5", func := "flotsam/flotsamlaw15.MemberLate", spec := "memberLate", unfollowed := true, recurses := true, apart := false, narrowed := true }
def MemberLateUptoSaid : Prop := memberLateUptoRow.holds Try.pinned (OpenSpec.upto memberLateSpec)

/-- 'flotsamlaw15.MemberGone', WHERE WHAT IT READS IS OF BULK AT MOST 1048576: true; the input reads as it did. -/
def memberGoneUptoRow : OpenClaim := { program := "ytlmajhkhlmkeiaa", sum := "5bb7d78eec33733801472aa915a9daa2551437afb8284567b0ecd7c632770fa5", func := "flotsam/flotsamlaw15.MemberGone", spec := "memberGone", unfollowed := true, recurses := true, apart := false, narrowed := true }
def MemberGoneUptoSaid : Prop := memberGoneUptoRow.holds Try.pinned (OpenSpec.upto memberGoneSpec)

/-- 'flotsamlaw15.MemberNil', WHERE WHAT IT READS IS OF BULK AT MOST 1048576: true; the input reads as it did. -/
def memberNilUptoRow : OpenClaim := { program := "ytlmajhkhlmkeiaa", sum := "5bb7d78eec33733801472aa915a9daa2551437afb8284567b0ecd7c632770fa5", func := "flotsam/flotsamlaw15.MemberNil", spec := "memberNil", unfollowed := true, recurses := true, apart := false, narrowed := true }
def MemberNilUptoSaid : Prop := memberNilUptoRow.holds Try.pinned (OpenSpec.upto memberNilSpec)

/-- 'flotsamlaw15.MemberRises', WHERE WHAT IT READS IS OF BULK AT MOST 1048576: true; the input reads as it did. -/
def memberRisesUptoRow : OpenClaim := { program := "ytlmajhkhlmkeiaa", sum := "5bb7d78eec33733801472aa915a9daa2551437afb8284567b0ecd7c632770fa5", func := "flotsam/flotsamlaw15.MemberRises", spec := "memberRises", unfollowed := true, recurses := true, apart := false, narrowed := true }
def MemberRisesUptoSaid : Prop := memberRisesUptoRow.holds Try.pinned (OpenSpec.upto memberRisesSpec)

/-- 'flotsamlaw15.MemberWhole', WHERE WHAT IT READS IS OF BULK AT MOST 1048576: true; the input reads as it did. -/
def memberWholeUptoRow : OpenClaim := { program := "ytlmajhkhlmkeiaa", sum := "5bb7d78eec33733801472aa915a9daa2551437afb8284567b0ecd7c632770fa5", func := "flotsam/flotsamlaw15.MemberWhole", spec := "memberWhole", unfollowed := true, recurses := true, apart := false, narrowed := true }
def MemberWholeUptoSaid : Prop := memberWholeUptoRow.holds Try.pinned (OpenSpec.upto memberWholeSpec)

end Rows
end Go.Proofs.Ytlmajhkhlmkeiaa
