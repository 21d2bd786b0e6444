/-
  The contracts on sorted keys of a map at this dump (printed by the kit's lay-iter and lay-plain).
-/
import Derived.Shelf.SlIter.Nil
import Derived.Shelf.SortM.Plain
import Derived.Shelf.SortM.SortNone
import Derived.Ground.GgzProg
import Derived.Ground.SlgmProg
import Derived.Test.YtegbiekfpcfnnaaProg
namespace Go.Proofs.Ytegbiekfpcfnnaa
open Go.Shelf
def sk_keys34_ren : Go.Shelf.Ren := ⟨fun | 7 => 34 | 10 => 41 | n => n, fun | 23 => 54 | 26 => 9 | 3 => 58 | 28 => 77 | 0 => 0 | 27 => 76 | 33 => 52 | 4 => 4 | n => n, fun | n => n⟩
theorem sk_keys34 : Go.Proofs.SlLaysZ.n7 Try.prog sk_keys34_ren := {
  mixed := by kernel_rfl
  f7 := ⟨Try.f34.name, by decide, Try.func34.trans (congrArg some (by kernel_rfl))⟩
  f10 := ⟨Try.f41.name, by decide, Try.func41.trans (congrArg some (by kernel_rfl))⟩
  t0 := Try.underlying0
  a0 := Try.isAgg0
  z0 := Try.sizeOf0
  v0 := Try.zeroValue0
  t4 := Try.underlying4
  a4 := Try.isAgg4
  z4 := Try.sizeOf4
  v4 := Try.zeroValue4
  t23 := Try.underlying54
  a23 := Try.isAgg54
  z23 := Try.sizeOf54
  v23 := Try.zeroValue54
  t26 := Try.underlying9
  a26 := Try.isAgg9
  z26 := Try.sizeOf9
  v26 := Try.zeroValue9
  t27 := Try.underlying76
  a27 := Try.isAgg76
  z27 := Try.sizeOf76
  v27 := Try.zeroValue76
  t28 := Try.underlying77
  a28 := Try.isAgg77
  z28 := Try.sizeOf77
  v28 := Try.zeroValue77
  t33 := Try.underlying52
  a33 := Try.isAgg52
  z33 := Try.sizeOf52
  v33 := Try.zeroValue52 }
def sk_sorted33_ren : Go.Shelf.Ren := ⟨fun | 6 => 33 | 8 => 39 | 9 => 40 | 11 => 43 | 13 => 45 | 12 => 44 | 23 => 55 | 24 => 56 | 14 => 46 | 15 => 47 | 16 => 48 | 17 => 49 | 18 => 50 | 19 => 51 | 20 => 52 | 21 => 53 | 22 => 54 | 25 => 57 | 26 => 58 | 27 => 59 | 28 => 60 | 29 => 61 | 30 => 62 | 31 => 63 | n => n, fun | 26 => 9 | 28 => 77 | 24 => 35 | 0 => 0 | 3 => 3 | 37 => 83 | 48 => 100 | 50 => 82 | 4 => 4 | 40 => 92 | 39 => 91 | 45 => 97 | 5 => 5 | 9 => 9 | 51 => 102 | 55 => 106 | 57 => 108 | 58 => 109 | 33 => 52 | n => n, fun | n => n⟩
theorem sk_sorted33 : Go.Proofs.SlLaysZ.n6 Try.prog sk_sorted33_ren := {
  mixed := by kernel_rfl
  f6 := ⟨Try.f33.name, by decide, Try.func33.trans (congrArg some (by kernel_rfl))⟩
  f8 := ⟨Try.f39.name, by decide, Try.func39.trans (congrArg some (by kernel_rfl))⟩
  f11 := ⟨Try.f43.name, by decide, Try.func43.trans (congrArg some (by kernel_rfl))⟩
  t0 := Try.underlying0
  a0 := Try.isAgg0
  z0 := Try.sizeOf0
  v0 := Try.zeroValue0
  t24 := Try.underlying35
  a24 := Try.isAgg35
  z24 := Try.sizeOf35
  v24 := Try.zeroValue35
  t26 := Try.underlying9
  a26 := Try.isAgg9
  z26 := Try.sizeOf9
  v26 := Try.zeroValue9
  t28 := Try.underlying77
  a28 := Try.isAgg77
  z28 := Try.sizeOf77
  v28 := Try.zeroValue77
  i26 := by kernel_rfl }
def sk_sort40_ren : Go.Shelf.Ren := ⟨fun | 6 => 40 | 8 => 45 | 9 => 44 | 19 => 55 | 20 => 56 | 21 => 46 | 22 => 47 | 23 => 48 | 24 => 49 | 25 => 50 | 26 => 51 | 27 => 52 | 28 => 53 | 29 => 54 | 36 => 57 | 31 => 58 | 32 => 59 | 37 => 60 | 38 => 61 | 39 => 62 | 41 => 63 | n => n, fun | 27 => 35 | 29 => 9 | 3 => 3 | 32 => 83 | 26 => 35 | 0 => 0 | 44 => 100 | 46 => 82 | 4 => 4 | 36 => 92 | 35 => 91 | 41 => 97 | 5 => 5 | 9 => 9 | 53 => 102 | 57 => 106 | 63 => 108 | 64 => 109 | n => n, fun | n => n⟩
theorem sk_sort40 : Go.Proofs.SlLaysM.n6 Try.prog sk_sort40_ren := {
  mixed := by kernel_rfl
  f6 := ⟨Try.f40.name, by decide, Try.func40.trans (congrArg some (by kernel_rfl))⟩
  f8 := Try.func45.trans (congrArg some (by kernel_rfl))
  f9 := ⟨Try.f44.name, by decide, Try.func44.trans (congrArg some (by kernel_rfl))⟩
  f19 := Try.func55.trans (congrArg some (by kernel_rfl))
  f20 := Try.func56.trans (congrArg some (by kernel_rfl))
  f21 := ⟨Try.f46.name, by decide, Try.func46.trans (congrArg some (by kernel_rfl))⟩
  f22 := ⟨Try.f47.name, by decide, Try.func47.trans (congrArg some (by kernel_rfl))⟩
  f23 := ⟨Try.f48.name, by decide, Try.func48.trans (congrArg some (by kernel_rfl))⟩
  f24 := ⟨Try.f49.name, by decide, Try.func49.trans (congrArg some (by kernel_rfl))⟩
  f25 := ⟨Try.f50.name, by decide, Try.func50.trans (congrArg some (by kernel_rfl))⟩
  f26 := ⟨Try.f51.name, by decide, Try.func51.trans (congrArg some (by kernel_rfl))⟩
  f27 := ⟨Try.f52.name, by decide, Try.func52.trans (congrArg some (by kernel_rfl))⟩
  f28 := ⟨Try.f53.name, by decide, Try.func53.trans (congrArg some (by kernel_rfl))⟩
  f29 := ⟨Try.f54.name, by decide, Try.func54.trans (congrArg some (by kernel_rfl))⟩
  f31 := Try.func58.trans (congrArg some (by kernel_rfl))
  f32 := Try.func59.trans (congrArg some (by kernel_rfl))
  f36 := ⟨Try.f57.name, by decide, Try.func57.trans (congrArg some (by kernel_rfl))⟩
  f37 := ⟨Try.f60.name, by decide, Try.func60.trans (congrArg some (by kernel_rfl))⟩
  f38 := ⟨Try.f61.name, by decide, Try.func61.trans (congrArg some (by kernel_rfl))⟩
  f39 := ⟨Try.f62.name, by decide, Try.func62.trans (congrArg some (by kernel_rfl))⟩
  f41 := ⟨Try.f63.name, by decide, Try.func63.trans (congrArg some (by kernel_rfl))⟩
  t0 := Try.underlying0
  a0 := Try.isAgg0
  z0 := Try.sizeOf0
  v0 := Try.zeroValue0
  t3 := Try.underlying3
  a3 := Try.isAgg3
  z3 := Try.sizeOf3
  v3 := Try.zeroValue3
  t4 := Try.underlying4
  a4 := Try.isAgg4
  z4 := Try.sizeOf4
  v4 := Try.zeroValue4
  t5 := Try.underlying5
  a5 := Try.isAgg5
  z5 := Try.sizeOf5
  v5 := Try.zeroValue5
  t9 := Try.underlying9
  a9 := Try.isAgg9
  z9 := Try.sizeOf9
  v9 := Try.zeroValue9
  t26 := Try.underlying35
  a26 := Try.isAgg35
  z26 := Try.sizeOf35
  v26 := Try.zeroValue35
  t27 := Try.underlying35
  a27 := Try.isAgg35
  z27 := Try.sizeOf35
  v27 := Try.zeroValue35
  t29 := Try.underlying9
  a29 := Try.isAgg9
  z29 := Try.sizeOf9
  v29 := Try.zeroValue9
  t32 := Try.underlying83
  a32 := Try.isAgg83
  z32 := Try.sizeOf83
  v32 := Try.zeroValue83
  t35 := Try.underlying91
  a35 := Try.isAgg91
  z35 := Try.sizeOf91
  v35 := Try.zeroValue91
  t36 := Try.underlying92
  a36 := Try.isAgg92
  z36 := Try.sizeOf92
  v36 := Try.zeroValue92
  t41 := Try.underlying97
  a41 := Try.isAgg97
  z41 := Try.sizeOf97
  v41 := Try.zeroValue97
  t44 := Try.underlying100
  a44 := Try.isAgg100
  z44 := Try.sizeOf100
  v44 := Try.zeroValue100
  t46 := Try.underlying82
  a46 := Try.isAgg82
  z46 := Try.sizeOf82
  v46 := Try.zeroValue82
  t53 := Try.underlying102
  a53 := Try.isAgg102
  z53 := Try.sizeOf102
  v53 := Try.zeroValue102
  t57 := Try.underlying106
  a57 := Try.isAgg106
  z57 := Try.sizeOf106
  v57 := Try.zeroValue106
  t63 := Try.underlying108
  a63 := Try.isAgg108
  z63 := Try.sizeOf108
  v63 := Try.zeroValue108
  t64 := Try.underlying109
  a64 := Try.isAgg109
  z64 := Try.sizeOf109
  v64 := Try.zeroValue109 }
open Go.RowKit Go.Maps Go.Sort Go.Shelf in
theorem sk_sorts33 (m : Nat) : AnyZ.SortsIn Try.prog sk_sorted33_ren Fence.wide m :=
  ⟨fun blk off cap ss W hH hblk hsz => callsIn_wide.2 (AnyM.slices_Sort_string sk_sort40 blk off cap ss W hH hblk hsz),
   fun p cap W => callsIn_wide.2 (AnyM.slices_Sort_string_none sk_sort40 p cap W)⟩

open Go.RowKit Go.Maps Go.Sort Go.Shelf in
theorem skKeys (mb : Option Nat) (W : World) : CallsIn Fence.wide 5 Try.prog 34 #[.map mb] W fun e w' => e = .returned (.func (.func 41) #[] #[.pointer (some ⟨W.heap.size, 0, none⟩)]) ∧ w' = W.alloc (.cells #[.map mb] 54) :=
  AnyZ.keys_in sk_keys34 Fence.wide 5 trivial rfl mb W

open Go.RowKit Go.Maps Go.Sort Go.Shelf in
theorem skSorted {H : Type} (b nn : Nat) (D0 : DataW H) (R : Value → Option (DataW H × List MemPlace)) (w : World) (hown : w.ownsMap Try.prog 9 R b nn D0) (hmax : Maps.size D0 ≤ maxLen) (hbytes : Maps.size D0 * 16 ≤ 140737488355328) :
    CallsIn Fence.wide 5 Try.prog 33 #[.func (.func 41) #[] #[.pointer (some ⟨w.heap.size, 0, none⟩)]] (w.alloc (.cells #[.map (some b)] 54)) fun e w' => ∃ (v : Value) (ss : List (List UInt8)), e = .returned v ∧ ss.Perm (strKeys D0) ∧
      w'.ownsRow (w.alloc (.cells #[.map (some b)] 54)).heap.size 9 1 v ss.length ((ss.mergeSort (fun x y => decide (x ≤ y))).map encStr) ∧ (v = .slice none 0 0 ↔ ss = []) ∧ Below (w.alloc (.cells #[.map (some b)] 54)).heap.size (w.alloc (.cells #[.map (some b)] 54)) w' := by
  have hbl := hown.lt
  have hseq : SeqGives Fence.wide 2 Try.prog 41 #[.pointer (some ⟨w.heap.size, 0, none⟩)] encStr (fun ss => ss.Perm (strKeys D0)) (Maps.size D0) (w.alloc (.cells #[.map (some b)] 54)) :=
    AnyZ.keys_gives (ρ := sk_keys34_ren) { sk_keys34 with } Fence.wide _ trivial rfl (by omega) w.heap.size b nn D0 _ (by simp) (by simp) (by
      obtain ⟨es, clock, hb, Ft, hs, hD⟩ := hown
      exact ⟨es, clock, (Below.heap_alloc _ _ b hbl).trans hb, Ft, hs, hD⟩)
  exact AnyZ.sorted_in sk_sorted33 Fence.wide 5 trivial trivial trivial trivial rfl (by omega) (sk_sorts33 _) (enters_of Try.func40 (by kernel_rfl) rfl) 41 #[.pointer (some ⟨w.heap.size, 0, none⟩)] trivial (enters_of Try.func41 (by kernel_rfl) rfl) _ _ hmax hbytes _ hseq

open Go.RowKit Go.Maps Go.Sort Go.Shelf in
theorem skSortedNil (w : World) :
    CallsIn Fence.wide 5 Try.prog 33 #[.func (.func 41) #[] #[.pointer (some ⟨w.heap.size, 0, none⟩)]] (w.alloc (.cells #[.map none] 54)) fun e w' => ∃ (v : Value) (ss : List (List UInt8)), e = .returned v ∧ ss = [] ∧
      w'.ownsRow (w.alloc (.cells #[.map none] 54)).heap.size 9 1 v ss.length ((ss.mergeSort (fun x y => decide (x ≤ y))).map encStr) ∧ (v = .slice none 0 0 ↔ ss = []) ∧ Below (w.alloc (.cells #[.map none] 54)).heap.size (w.alloc (.cells #[.map none] 54)) w' := by
  have hseq : SeqGives Fence.wide 2 Try.prog 41 #[.pointer (some ⟨w.heap.size, 0, none⟩)] encStr (fun ss : List (List UInt8) => ss = []) 0 (w.alloc (.cells #[.map none] 54)) :=
    AnyZ.keys_gives_nil (ρ := sk_keys34_ren) { sk_keys34 with } Fence.wide _ trivial rfl w.heap.size _ (by simp) (by simp)
  exact AnyZ.sorted_in sk_sorted33 Fence.wide 5 trivial trivial trivial trivial rfl (by omega) (sk_sorts33 _) (enters_of Try.func40 (by kernel_rfl) rfl) 41 #[.pointer (some ⟨w.heap.size, 0, none⟩)] trivial (enters_of Try.func41 (by kernel_rfl) rfl) _ 0 (Nat.zero_le _) (by omega) _ hseq
end Go.Proofs.Ytegbiekfpcfnnaa
