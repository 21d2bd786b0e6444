/-
  Shares without partitions; one partition given.
-/
import Derived.Test.YtklhlffdpojkoaaAf
import Derived.Deep.RegionHeld3
namespace Go.Proofs.Ytklhlffdpojkoaa
open Go.RowKit Fx

def emptyL (subs : List SubC) : List ShareC := subs.map fun s => ⟨s.member, []⟩
def emptyTo (subs : List SubC) (k : Nat) : List ShareC := (emptyL subs).take k
theorem emptyTo_succ {subs : List SubC} {k : Nat} (h : k < subs.length) : emptyTo subs (k + 1) = emptyTo subs k ++ [⟨subs[k].member, []⟩] := by
  unfold emptyTo emptyL
  rw [List.take_succ_eq_append_getElem (by simpa using h)]
  simp
theorem emptyTo_len {subs : List SubC} {k : Nat} (h : k ≤ subs.length) : (emptyTo subs k).length = k := by simp [emptyTo, emptyL]; omega

theorem emptyTo_all (subs : List SubC) : emptyTo subs subs.length = emptyL subs := by unfold emptyTo; rw [List.take_of_length_le (by simp [emptyL])]
def giveL (l : List ShareC) (m : Nat) (s : ByteArray) (i : Int) : List ShareC := l.modify m fun x => ⟨x.member, x.parts ++ [⟨s, i⟩]⟩

end Go.Proofs.Ytklhlffdpojkoaa
