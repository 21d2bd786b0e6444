/-
  The contracts on sorted keys of a map at this dump (printed by the kit's lay-iter and lay-plain).
-/
import Derived.Shelf.SlIter.Nil
import Derived.Shelf.SortM.Plain
import Derived.Shelf.SortM.SortNone
import Derived.Ground.GgzProg
import Derived.Ground.SlgmProg
import Derived.Test.YtklhlffdpojkoaaProg
namespace Go.Proofs.Ytklhlffdpojkoaa
open Go.Shelf
def sk_keys38_ren : Go.Shelf.Ren := ⟨fun | 7 => 38 | 10 => 56 | n => n, fun | 23 => 51 | 26 => 9 | 3 => 45 | 28 => 92 | 0 => 0 | 27 => 91 | 33 => 110 | 4 => 4 | n => n, fun | n => n⟩
theorem sk_keys38 : Go.Proofs.SlLaysZ.n7 Try.prog sk_keys38_ren := {
  mixed := by kernel_rfl
  f7 := ⟨Try.f38.name, by decide, Try.func38.trans (congrArg some (by kernel_rfl))⟩
  f10 := ⟨Try.f56.name, by decide, Try.func56.trans (congrArg some (by kernel_rfl))⟩
  t0 := Try.underlying0
  a0 := Try.isAgg0
  z0 := Try.sizeOf0
  v0 := Try.zeroValue0
  t4 := Try.underlying4
  a4 := Try.isAgg4
  z4 := Try.sizeOf4
  v4 := Try.zeroValue4
  t23 := Try.underlying51
  a23 := Try.isAgg51
  z23 := Try.sizeOf51
  v23 := Try.zeroValue51
  t26 := Try.underlying9
  a26 := Try.isAgg9
  z26 := Try.sizeOf9
  v26 := Try.zeroValue9
  t27 := Try.underlying91
  a27 := Try.isAgg91
  z27 := Try.sizeOf91
  v27 := Try.zeroValue91
  t28 := Try.underlying92
  a28 := Try.isAgg92
  z28 := Try.sizeOf92
  v28 := Try.zeroValue92
  t33 := Try.underlying110
  a33 := Try.isAgg110
  z33 := Try.sizeOf110
  v33 := Try.zeroValue110 }
def sk_sorted37_ren : Go.Shelf.Ren := ⟨fun | 6 => 37 | 8 => 54 | 9 => 55 | 11 => 59 | 13 => 61 | 12 => 60 | 23 => 71 | 24 => 72 | 14 => 62 | 15 => 63 | 16 => 64 | 17 => 65 | 18 => 66 | 19 => 67 | 20 => 68 | 21 => 69 | 22 => 70 | 25 => 73 | 26 => 74 | 27 => 75 | 28 => 76 | 29 => 77 | 30 => 78 | 31 => 79 | n => n, fun | 26 => 9 | 28 => 92 | 24 => 38 | 0 => 0 | 3 => 3 | 37 => 111 | 48 => 125 | 50 => 127 | 4 => 4 | 40 => 118 | 39 => 117 | 45 => 43 | 5 => 5 | 9 => 9 | 51 => 128 | 55 => 132 | 57 => 134 | 58 => 135 | 33 => 110 | n => n, fun | n => n⟩
theorem sk_sorted37 : Go.Proofs.SlLaysZ.n6 Try.prog sk_sorted37_ren := {
  mixed := by kernel_rfl
  f6 := ⟨Try.f37.name, by decide, Try.func37.trans (congrArg some (by kernel_rfl))⟩
  f8 := ⟨Try.f54.name, by decide, Try.func54.trans (congrArg some (by kernel_rfl))⟩
  f11 := ⟨Try.f59.name, by decide, Try.func59.trans (congrArg some (by kernel_rfl))⟩
  t0 := Try.underlying0
  a0 := Try.isAgg0
  z0 := Try.sizeOf0
  v0 := Try.zeroValue0
  t24 := Try.underlying38
  a24 := Try.isAgg38
  z24 := Try.sizeOf38
  v24 := Try.zeroValue38
  t26 := Try.underlying9
  a26 := Try.isAgg9
  z26 := Try.sizeOf9
  v26 := Try.zeroValue9
  t28 := Try.underlying92
  a28 := Try.isAgg92
  z28 := Try.sizeOf92
  v28 := Try.zeroValue92
  i26 := by kernel_rfl }
def sk_sort55_ren : Go.Shelf.Ren := ⟨fun | 6 => 55 | 8 => 61 | 9 => 60 | 19 => 71 | 20 => 72 | 21 => 62 | 22 => 63 | 23 => 64 | 24 => 65 | 25 => 66 | 26 => 67 | 27 => 68 | 28 => 69 | 29 => 70 | 36 => 73 | 31 => 74 | 32 => 75 | 37 => 76 | 38 => 77 | 39 => 78 | 41 => 79 | n => n, fun | 27 => 38 | 29 => 9 | 3 => 3 | 32 => 111 | 26 => 38 | 0 => 0 | 44 => 125 | 46 => 127 | 4 => 4 | 36 => 118 | 35 => 117 | 41 => 43 | 5 => 5 | 9 => 9 | 53 => 128 | 57 => 132 | 63 => 134 | 64 => 135 | n => n, fun | n => n⟩
theorem sk_sort55 : Go.Proofs.SlLaysM.n6 Try.prog sk_sort55_ren := {
  mixed := by kernel_rfl
  f6 := ⟨Try.f55.name, by decide, Try.func55.trans (congrArg some (by kernel_rfl))⟩
  f8 := Try.func61.trans (congrArg some (by kernel_rfl))
  f9 := ⟨Try.f60.name, by decide, Try.func60.trans (congrArg some (by kernel_rfl))⟩
  f19 := Try.func71.trans (congrArg some (by kernel_rfl))
  f20 := Try.func72.trans (congrArg some (by kernel_rfl))
  f21 := ⟨Try.f62.name, by decide, Try.func62.trans (congrArg some (by kernel_rfl))⟩
  f22 := ⟨Try.f63.name, by decide, Try.func63.trans (congrArg some (by kernel_rfl))⟩
  f23 := ⟨Try.f64.name, by decide, Try.func64.trans (congrArg some (by kernel_rfl))⟩
  f24 := ⟨Try.f65.name, by decide, Try.func65.trans (congrArg some (by kernel_rfl))⟩
  f25 := ⟨Try.f66.name, by decide, Try.func66.trans (congrArg some (by kernel_rfl))⟩
  f26 := ⟨Try.f67.name, by decide, Try.func67.trans (congrArg some (by kernel_rfl))⟩
  f27 := ⟨Try.f68.name, by decide, Try.func68.trans (congrArg some (by kernel_rfl))⟩
  f28 := ⟨Try.f69.name, by decide, Try.func69.trans (congrArg some (by kernel_rfl))⟩
  f29 := ⟨Try.f70.name, by decide, Try.func70.trans (congrArg some (by kernel_rfl))⟩
  f31 := Try.func74.trans (congrArg some (by kernel_rfl))
  f32 := Try.func75.trans (congrArg some (by kernel_rfl))
  f36 := ⟨Try.f73.name, by decide, Try.func73.trans (congrArg some (by kernel_rfl))⟩
  f37 := ⟨Try.f76.name, by decide, Try.func76.trans (congrArg some (by kernel_rfl))⟩
  f38 := ⟨Try.f77.name, by decide, Try.func77.trans (congrArg some (by kernel_rfl))⟩
  f39 := ⟨Try.f78.name, by decide, Try.func78.trans (congrArg some (by kernel_rfl))⟩
  f41 := ⟨Try.f79.name, by decide, Try.func79.trans (congrArg some (by kernel_rfl))⟩
  t0 := Try.underlying0
  a0 := Try.isAgg0
  z0 := Try.sizeOf0
  v0 := Try.zeroValue0
  t3 := Try.underlying3
  a3 := Try.isAgg3
  z3 := Try.sizeOf3
  v3 := Try.zeroValue3
  t4 := Try.underlying4
  a4 := Try.isAgg4
  z4 := Try.sizeOf4
  v4 := Try.zeroValue4
  t5 := Try.underlying5
  a5 := Try.isAgg5
  z5 := Try.sizeOf5
  v5 := Try.zeroValue5
  t9 := Try.underlying9
  a9 := Try.isAgg9
  z9 := Try.sizeOf9
  v9 := Try.zeroValue9
  t26 := Try.underlying38
  a26 := Try.isAgg38
  z26 := Try.sizeOf38
  v26 := Try.zeroValue38
  t27 := Try.underlying38
  a27 := Try.isAgg38
  z27 := Try.sizeOf38
  v27 := Try.zeroValue38
  t29 := Try.underlying9
  a29 := Try.isAgg9
  z29 := Try.sizeOf9
  v29 := Try.zeroValue9
  t32 := Try.underlying111
  a32 := Try.isAgg111
  z32 := Try.sizeOf111
  v32 := Try.zeroValue111
  t35 := Try.underlying117
  a35 := Try.isAgg117
  z35 := Try.sizeOf117
  v35 := Try.zeroValue117
  t36 := Try.underlying118
  a36 := Try.isAgg118
  z36 := Try.sizeOf118
  v36 := Try.zeroValue118
  t41 := Try.underlying43
  a41 := Try.isAgg43
  z41 := Try.sizeOf43
  v41 := Try.zeroValue43
  t44 := Try.underlying125
  a44 := Try.isAgg125
  z44 := Try.sizeOf125
  v44 := Try.zeroValue125
  t46 := Try.underlying127
  a46 := Try.isAgg127
  z46 := Try.sizeOf127
  v46 := Try.zeroValue127
  t53 := Try.underlying128
  a53 := Try.isAgg128
  z53 := Try.sizeOf128
  v53 := Try.zeroValue128
  t57 := Try.underlying132
  a57 := Try.isAgg132
  z57 := Try.sizeOf132
  v57 := Try.zeroValue132
  t63 := Try.underlying134
  a63 := Try.isAgg134
  z63 := Try.sizeOf134
  v63 := Try.zeroValue134
  t64 := Try.underlying135
  a64 := Try.isAgg135
  z64 := Try.sizeOf135
  v64 := Try.zeroValue135 }
open Go.RowKit Go.Maps Go.Sort Go.Shelf in
theorem sk_sorts37 (m : Nat) : AnyZ.SortsIn Try.prog sk_sorted37_ren Fence.wide m :=
  ⟨fun blk off cap ss W hH hblk hsz => callsIn_wide.2 (AnyM.slices_Sort_string sk_sort55 blk off cap ss W hH hblk hsz),
   fun p cap W => callsIn_wide.2 (AnyM.slices_Sort_string_none sk_sort55 p cap W)⟩

open Go.RowKit Go.Maps Go.Sort Go.Shelf in
theorem skKeys (mb : Option Nat) (W : World) : CallsIn Fence.wide 5 Try.prog 38 #[.map mb] W fun e w' => e = .returned (.func (.func 56) #[] #[.pointer (some ⟨W.heap.size, 0, none⟩)]) ∧ w' = W.alloc (.cells #[.map mb] 51) :=
  AnyZ.keys_in sk_keys38 Fence.wide 5 trivial rfl mb W

open Go.RowKit Go.Maps Go.Sort Go.Shelf in
theorem skSorted {H : Type} (b nn : Nat) (D0 : DataW H) (R : Value → Option (DataW H × List MemPlace)) (w : World) (hown : w.ownsMap Try.prog 9 R b nn D0) (hmax : Maps.size D0 ≤ maxLen) (hbytes : Maps.size D0 * 16 ≤ 140737488355328) :
    CallsIn Fence.wide 5 Try.prog 37 #[.func (.func 56) #[] #[.pointer (some ⟨w.heap.size, 0, none⟩)]] (w.alloc (.cells #[.map (some b)] 51)) fun e w' => ∃ (v : Value) (ss : List (List UInt8)), e = .returned v ∧ ss.Perm (strKeys D0) ∧
      w'.ownsRow (w.alloc (.cells #[.map (some b)] 51)).heap.size 9 1 v ss.length ((ss.mergeSort (fun x y => decide (x ≤ y))).map encStr) ∧ (v = .slice none 0 0 ↔ ss = []) ∧ Below (w.alloc (.cells #[.map (some b)] 51)).heap.size (w.alloc (.cells #[.map (some b)] 51)) w' := by
  have hbl := hown.lt
  have hseq : SeqGives Fence.wide 2 Try.prog 56 #[.pointer (some ⟨w.heap.size, 0, none⟩)] encStr (fun ss => ss.Perm (strKeys D0)) (Maps.size D0) (w.alloc (.cells #[.map (some b)] 51)) :=
    AnyZ.keys_gives (ρ := sk_keys38_ren) { sk_keys38 with } Fence.wide _ trivial rfl (by omega) w.heap.size b nn D0 _ (by simp) (by simp) (by
      obtain ⟨es, clock, hb, Ft, hs, hD⟩ := hown
      exact ⟨es, clock, (Below.heap_alloc _ _ b hbl).trans hb, Ft, hs, hD⟩)
  exact AnyZ.sorted_in sk_sorted37 Fence.wide 5 trivial trivial trivial trivial rfl (by omega) (sk_sorts37 _) (enters_of Try.func55 (by kernel_rfl) rfl) 56 #[.pointer (some ⟨w.heap.size, 0, none⟩)] trivial (enters_of Try.func56 (by kernel_rfl) rfl) _ _ hmax hbytes _ hseq

open Go.RowKit Go.Maps Go.Sort Go.Shelf in
theorem skSortedNil (w : World) :
    CallsIn Fence.wide 5 Try.prog 37 #[.func (.func 56) #[] #[.pointer (some ⟨w.heap.size, 0, none⟩)]] (w.alloc (.cells #[.map none] 51)) fun e w' => ∃ (v : Value) (ss : List (List UInt8)), e = .returned v ∧ ss = [] ∧
      w'.ownsRow (w.alloc (.cells #[.map none] 51)).heap.size 9 1 v ss.length ((ss.mergeSort (fun x y => decide (x ≤ y))).map encStr) ∧ (v = .slice none 0 0 ↔ ss = []) ∧ Below (w.alloc (.cells #[.map none] 51)).heap.size (w.alloc (.cells #[.map none] 51)) w' := by
  have hseq : SeqGives Fence.wide 2 Try.prog 56 #[.pointer (some ⟨w.heap.size, 0, none⟩)] encStr (fun ss : List (List UInt8) => ss = []) 0 (w.alloc (.cells #[.map none] 51)) :=
    AnyZ.keys_gives_nil (ρ := sk_keys38_ren) { sk_keys38 with } Fence.wide _ trivial rfl w.heap.size _ (by simp) (by simp)
  exact AnyZ.sorted_in sk_sorted37 Fence.wide 5 trivial trivial trivial trivial rfl (by omega) (sk_sorts37 _) (enters_of Try.func55 (by kernel_rfl) rfl) 56 #[.pointer (some ⟨w.heap.size, 0, none⟩)] trivial (enters_of Try.func56 (by kernel_rfl) rfl) _ 0 (Nat.zero_le _) (by omega) _ hseq
end Go.Proofs.Ytklhlffdpojkoaa
