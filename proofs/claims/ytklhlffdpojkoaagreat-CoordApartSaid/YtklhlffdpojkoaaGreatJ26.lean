/-
  The contracts on sorted keys of a map at this dump (printed by the kit's lay-iter and lay-plain).
-/
import Derived.Shelf.SlIter.Nil
import Derived.Shelf.SortM.Plain
import Derived.Shelf.SortM.SortNone
import Derived.Ground.GgzProg
import Derived.Ground.SlgmProg
import Derived.Test.YtklhlffdpojkoaaGreatProg
import Derived.Test.YtklhlffdpojkoaaGreatJ00
import Derived.WalkKit
import Derived.RangeFuncNested
import Derived.RangeFuncBound
import Derived.RangeFuncCalls
import Derived.RangeFuncLeaves
import Derived.Shelf.Abstract
import Derived.Shelf.RegionOpen
import Derived.OwnWalkIn
import Derived.TacticsInMore
import Derived.LoopNIn
import Derived.LoopIn
import Derived.Maps.OwnIn
import Derived.Maps.AppendAt
import Derived.Test.YtklhlffdpojkoaaGreatJ23
import Derived.Test.YtklhlffdpojkoaaGreatJ25
namespace Go.Proofs.YtklhlffdpojkoaaGreat
open Go.Shelf
def sk_keys75_ren : Go.Shelf.Ren := ⟨fun | 7 => 75 | 10 => 111 | n => n, fun | 23 => 67 | 26 => 9 | 3 => 61 | 28 => 134 | 0 => 0 | 27 => 133 | 33 => 162 | 4 => 4 | n => n, fun | n => n⟩
theorem sk_keys75 : Go.Proofs.SlLaysZ.n7 Tryz.prog sk_keys75_ren := {
  mixed := by kernel_rfl
  f7 := ⟨Tryz.f75.name, by decide, Tryz.func75.trans (congrArg some (by kernel_rfl))⟩
  f10 := ⟨Tryz.f111.name, by decide, Tryz.func111.trans (congrArg some (by kernel_rfl))⟩
  t0 := Tryz.underlying0
  a0 := Tryz.isAgg0
  z0 := Tryz.sizeOf0
  v0 := Tryz.zeroValue0
  t4 := Tryz.underlying4
  a4 := Tryz.isAgg4
  z4 := Tryz.sizeOf4
  v4 := Tryz.zeroValue4
  t23 := Tryz.underlying67
  a23 := Tryz.isAgg67
  z23 := Tryz.sizeOf67
  v23 := Tryz.zeroValue67
  t26 := Tryz.underlying9
  a26 := Tryz.isAgg9
  z26 := Tryz.sizeOf9
  v26 := Tryz.zeroValue9
  t27 := Tryz.underlying133
  a27 := Tryz.isAgg133
  z27 := Tryz.sizeOf133
  v27 := Tryz.zeroValue133
  t28 := Tryz.underlying134
  a28 := Tryz.isAgg134
  z28 := Tryz.sizeOf134
  v28 := Tryz.zeroValue134
  t33 := Tryz.underlying162
  a33 := Tryz.isAgg162
  z33 := Tryz.sizeOf162
  v33 := Tryz.zeroValue162 }
def sk_sorted74_ren : Go.Shelf.Ren := ⟨fun | 6 => 74 | 8 => 109 | 9 => 110 | 11 => 125 | 13 => 127 | 12 => 126 | 23 => 141 | 24 => 142 | 14 => 132 | 15 => 133 | 16 => 134 | 17 => 135 | 18 => 136 | 19 => 137 | 20 => 138 | 21 => 139 | 22 => 140 | 25 => 145 | 26 => 146 | 27 => 147 | 28 => 148 | 29 => 149 | 30 => 150 | 31 => 151 | n => n, fun | 26 => 9 | 28 => 134 | 24 => 31 | 0 => 0 | 3 => 3 | 37 => 168 | 48 => 191 | 50 => 193 | 4 => 4 | 40 => 184 | 39 => 183 | 45 => 47 | 5 => 5 | 9 => 9 | 51 => 195 | 55 => 199 | 57 => 201 | 58 => 202 | 33 => 162 | n => n, fun | n => n⟩
theorem sk_sorted74 : Go.Proofs.SlLaysZ.n6 Tryz.prog sk_sorted74_ren := {
  mixed := by kernel_rfl
  f6 := ⟨Tryz.f74.name, by decide, Tryz.func74.trans (congrArg some (by kernel_rfl))⟩
  f8 := ⟨Tryz.f109.name, by decide, Tryz.func109.trans (congrArg some (by kernel_rfl))⟩
  f11 := ⟨Tryz.f125.name, by decide, Tryz.func125.trans (congrArg some (by kernel_rfl))⟩
  t0 := Tryz.underlying0
  a0 := Tryz.isAgg0
  z0 := Tryz.sizeOf0
  v0 := Tryz.zeroValue0
  t24 := Tryz.underlying31
  a24 := Tryz.isAgg31
  z24 := Tryz.sizeOf31
  v24 := Tryz.zeroValue31
  t26 := Tryz.underlying9
  a26 := Tryz.isAgg9
  z26 := Tryz.sizeOf9
  v26 := Tryz.zeroValue9
  t28 := Tryz.underlying134
  a28 := Tryz.isAgg134
  z28 := Tryz.sizeOf134
  v28 := Tryz.zeroValue134
  i26 := by kernel_rfl }
def sk_sort110_ren : Go.Shelf.Ren := ⟨fun | 6 => 110 | 8 => 127 | 9 => 126 | 19 => 141 | 20 => 142 | 21 => 132 | 22 => 133 | 23 => 134 | 24 => 135 | 25 => 136 | 26 => 137 | 27 => 138 | 28 => 139 | 29 => 140 | 36 => 145 | 31 => 146 | 32 => 147 | 37 => 148 | 38 => 149 | 39 => 150 | 41 => 151 | n => n, fun | 27 => 31 | 29 => 9 | 3 => 3 | 32 => 168 | 26 => 31 | 0 => 0 | 44 => 191 | 46 => 193 | 4 => 4 | 36 => 184 | 35 => 183 | 41 => 47 | 5 => 5 | 9 => 9 | 53 => 195 | 57 => 199 | 63 => 201 | 64 => 202 | n => n, fun | n => n⟩
theorem sk_sort110 : Go.Proofs.SlLaysM.n6 Tryz.prog sk_sort110_ren := {
  mixed := by kernel_rfl
  f6 := ⟨Tryz.f110.name, by decide, Tryz.func110.trans (congrArg some (by kernel_rfl))⟩
  f8 := Tryz.func127.trans (congrArg some (by kernel_rfl))
  f9 := ⟨Tryz.f126.name, by decide, Tryz.func126.trans (congrArg some (by kernel_rfl))⟩
  f19 := Tryz.func141.trans (congrArg some (by kernel_rfl))
  f20 := Tryz.func142.trans (congrArg some (by kernel_rfl))
  f21 := ⟨Tryz.f132.name, by decide, Tryz.func132.trans (congrArg some (by kernel_rfl))⟩
  f22 := ⟨Tryz.f133.name, by decide, Tryz.func133.trans (congrArg some (by kernel_rfl))⟩
  f23 := ⟨Tryz.f134.name, by decide, Tryz.func134.trans (congrArg some (by kernel_rfl))⟩
  f24 := ⟨Tryz.f135.name, by decide, Tryz.func135.trans (congrArg some (by kernel_rfl))⟩
  f25 := ⟨Tryz.f136.name, by decide, Tryz.func136.trans (congrArg some (by kernel_rfl))⟩
  f26 := ⟨Tryz.f137.name, by decide, Tryz.func137.trans (congrArg some (by kernel_rfl))⟩
  f27 := ⟨Tryz.f138.name, by decide, Tryz.func138.trans (congrArg some (by kernel_rfl))⟩
  f28 := ⟨Tryz.f139.name, by decide, Tryz.func139.trans (congrArg some (by kernel_rfl))⟩
  f29 := ⟨Tryz.f140.name, by decide, Tryz.func140.trans (congrArg some (by kernel_rfl))⟩
  f31 := Tryz.func146.trans (congrArg some (by kernel_rfl))
  f32 := Tryz.func147.trans (congrArg some (by kernel_rfl))
  f36 := ⟨Tryz.f145.name, by decide, Tryz.func145.trans (congrArg some (by kernel_rfl))⟩
  f37 := ⟨Tryz.f148.name, by decide, Tryz.func148.trans (congrArg some (by kernel_rfl))⟩
  f38 := ⟨Tryz.f149.name, by decide, Tryz.func149.trans (congrArg some (by kernel_rfl))⟩
  f39 := ⟨Tryz.f150.name, by decide, Tryz.func150.trans (congrArg some (by kernel_rfl))⟩
  f41 := ⟨Tryz.f151.name, by decide, Tryz.func151.trans (congrArg some (by kernel_rfl))⟩
  t0 := Tryz.underlying0
  a0 := Tryz.isAgg0
  z0 := Tryz.sizeOf0
  v0 := Tryz.zeroValue0
  t3 := Tryz.underlying3
  a3 := Tryz.isAgg3
  z3 := Tryz.sizeOf3
  v3 := Tryz.zeroValue3
  t4 := Tryz.underlying4
  a4 := Tryz.isAgg4
  z4 := Tryz.sizeOf4
  v4 := Tryz.zeroValue4
  t5 := Tryz.underlying5
  a5 := Tryz.isAgg5
  z5 := Tryz.sizeOf5
  v5 := Tryz.zeroValue5
  t9 := Tryz.underlying9
  a9 := Tryz.isAgg9
  z9 := Tryz.sizeOf9
  v9 := Tryz.zeroValue9
  t26 := Tryz.underlying31
  a26 := Tryz.isAgg31
  z26 := Tryz.sizeOf31
  v26 := Tryz.zeroValue31
  t27 := Tryz.underlying31
  a27 := Tryz.isAgg31
  z27 := Tryz.sizeOf31
  v27 := Tryz.zeroValue31
  t29 := Tryz.underlying9
  a29 := Tryz.isAgg9
  z29 := Tryz.sizeOf9
  v29 := Tryz.zeroValue9
  t32 := Tryz.underlying168
  a32 := Tryz.isAgg168
  z32 := Tryz.sizeOf168
  v32 := Tryz.zeroValue168
  t35 := Tryz.underlying183
  a35 := Tryz.isAgg183
  z35 := Tryz.sizeOf183
  v35 := Tryz.zeroValue183
  t36 := Tryz.underlying184
  a36 := Tryz.isAgg184
  z36 := Tryz.sizeOf184
  v36 := Tryz.zeroValue184
  t41 := Tryz.underlying47
  a41 := Tryz.isAgg47
  z41 := Tryz.sizeOf47
  v41 := Tryz.zeroValue47
  t44 := Tryz.underlying191
  a44 := Tryz.isAgg191
  z44 := Tryz.sizeOf191
  v44 := Tryz.zeroValue191
  t46 := Tryz.underlying193
  a46 := Tryz.isAgg193
  z46 := Tryz.sizeOf193
  v46 := Tryz.zeroValue193
  t53 := Tryz.underlying195
  a53 := Tryz.isAgg195
  z53 := Tryz.sizeOf195
  v53 := Tryz.zeroValue195
  t57 := Tryz.underlying199
  a57 := Tryz.isAgg199
  z57 := Tryz.sizeOf199
  v57 := Tryz.zeroValue199
  t63 := Tryz.underlying201
  a63 := Tryz.isAgg201
  z63 := Tryz.sizeOf201
  v63 := Tryz.zeroValue201
  t64 := Tryz.underlying202
  a64 := Tryz.isAgg202
  z64 := Tryz.sizeOf202
  v64 := Tryz.zeroValue202 }
open Go.RowKit Go.Maps Go.Sort Go.Shelf in
theorem sk_sorts74 (m : Nat) : AnyZ.SortsIn Tryz.prog sk_sorted74_ren Fence.wide m :=
  ⟨fun blk off cap ss W hH hblk hsz => callsIn_wide.2 (AnyM.slices_Sort_string sk_sort110 blk off cap ss W hH hblk hsz),
   fun p cap W => callsIn_wide.2 (AnyM.slices_Sort_string_none sk_sort110 p cap W)⟩

open Go.RowKit Go.Maps Go.Sort Go.Shelf in
theorem skKeys (mb : Option Nat) (W : World) : CallsIn Fence.wide 5 Tryz.prog 75 #[.map mb] W fun e w' => e = .returned (.func (.func 111) #[] #[.pointer (some ⟨W.heap.size, 0, none⟩)]) ∧ w' = W.alloc (.cells #[.map mb] 67) :=
  AnyZ.keys_in sk_keys75 Fence.wide 5 trivial rfl mb W

open Go.RowKit Go.Maps Go.Sort Go.Shelf in
theorem skSorted {H : Type} (b nn : Nat) (D0 : DataW H) (R : Value → Option (DataW H × List MemPlace)) (w : World) (hown : w.ownsMap Tryz.prog 9 R b nn D0) (hmax : Maps.size D0 ≤ maxLen) (hbytes : Maps.size D0 * 16 ≤ 140737488355328) :
    CallsIn Fence.wide 5 Tryz.prog 74 #[.func (.func 111) #[] #[.pointer (some ⟨w.heap.size, 0, none⟩)]] (w.alloc (.cells #[.map (some b)] 67)) fun e w' => ∃ (v : Value) (ss : List (List UInt8)), e = .returned v ∧ ss.Perm (strKeys D0) ∧
      w'.ownsRow (w.alloc (.cells #[.map (some b)] 67)).heap.size 9 1 v ss.length ((ss.mergeSort (fun x y => decide (x ≤ y))).map encStr) ∧ (v = .slice none 0 0 ↔ ss = []) ∧ Below (w.alloc (.cells #[.map (some b)] 67)).heap.size (w.alloc (.cells #[.map (some b)] 67)) w' := by
  have hbl := hown.lt
  have hseq : SeqGives Fence.wide 2 Tryz.prog 111 #[.pointer (some ⟨w.heap.size, 0, none⟩)] encStr (fun ss => ss.Perm (strKeys D0)) (Maps.size D0) (w.alloc (.cells #[.map (some b)] 67)) :=
    AnyZ.keys_gives (ρ := sk_keys75_ren) { sk_keys75 with } Fence.wide _ trivial rfl (by omega) w.heap.size b nn D0 _ (by simp) (by simp) (by
      obtain ⟨es, clock, hb, Ft, hs, hD⟩ := hown
      exact ⟨es, clock, (Below.heap_alloc _ _ b hbl).trans hb, Ft, hs, hD⟩)
  exact AnyZ.sorted_in sk_sorted74 Fence.wide 5 trivial trivial trivial trivial rfl (by omega) (sk_sorts74 _) (enters_of Tryz.func110 (by kernel_rfl) rfl) 111 #[.pointer (some ⟨w.heap.size, 0, none⟩)] trivial (enters_of Tryz.func111 (by kernel_rfl) rfl) _ _ hmax hbytes _ hseq

open Go.RowKit Go.Maps Go.Sort Go.Shelf in
theorem skSortedNil (w : World) :
    CallsIn Fence.wide 5 Tryz.prog 74 #[.func (.func 111) #[] #[.pointer (some ⟨w.heap.size, 0, none⟩)]] (w.alloc (.cells #[.map none] 67)) fun e w' => ∃ (v : Value) (ss : List (List UInt8)), e = .returned v ∧ ss = [] ∧
      w'.ownsRow (w.alloc (.cells #[.map none] 67)).heap.size 9 1 v ss.length ((ss.mergeSort (fun x y => decide (x ≤ y))).map encStr) ∧ (v = .slice none 0 0 ↔ ss = []) ∧ Below (w.alloc (.cells #[.map none] 67)).heap.size (w.alloc (.cells #[.map none] 67)) w' := by
  have hseq : SeqGives Fence.wide 2 Tryz.prog 111 #[.pointer (some ⟨w.heap.size, 0, none⟩)] encStr (fun ss : List (List UInt8) => ss = []) 0 (w.alloc (.cells #[.map none] 67)) :=
    AnyZ.keys_gives_nil (ρ := sk_keys75_ren) { sk_keys75 with } Fence.wide _ trivial rfl w.heap.size _ (by simp) (by simp)
  exact AnyZ.sorted_in sk_sorted74 Fence.wide 5 trivial trivial trivial trivial rfl (by omega) (sk_sorts74 _) (enters_of Tryz.func110 (by kernel_rfl) rfl) 111 #[.pointer (some ⟨w.heap.size, 0, none⟩)] trivial (enters_of Tryz.func111 (by kernel_rfl) rfl) _ 0 (Nat.zero_le _) (by omega) _ hseq
end Go.Proofs.YtklhlffdpojkoaaGreat

/-
  slices.Sorted(maps.Keys(m)) at a map that is an association list with texts as keys.
-/
namespace Go.Proofs.YtklhlffdpojkoaaGreat
open Go.RowKit Go.Maps Go.Sort Go.WideElems Go.ChangeShapes Go.WideShapes Go.ChangeMaps Fx

def bytesOf (l : List UInt8) : ByteArray := ⟨l.toArray⟩
def anyR : Value → Option (DataW Unit × List MemPlace) := fun _ => some (.lit (.bool true), [])
theorem keyOf_text (s : ByteArray) (hs : s.size ≤ maxLen) : keyOf Tryz.prog 9 (.string s) = some (.string s.data.toList) := by
  simp [keyOf, Tryz.underlying9, mapKey, hs]
/-- The kit's word for such a map. -/
theorem owns_of {w : World} {mb : Nat} {L : List (ByteArray × Value)} (h : MapAt .string w mb L) (hs : ∀ p ∈ L, p.1.size ≤ 100000) (hl : L.length ≤ 100000) :
    ∃ D0 : DataW Unit, w.ownsMap Tryz.prog 9 anyR mb L.length D0 ∧ Maps.size D0 = L.length ∧ (strKeys D0).Perm (L.map fun p => p.1.data.toList) := by
  obtain ⟨es, clock, hb, hst, hL⟩ := h
  have hlen : es.size = L.length := by have := congrArg List.length hL; simpa using this
  have hkey : ∀ x ∈ es.toList, ∃ p ∈ L, x.key = .string p.1 := fun x hx => by
    have : (x.key, x.val) ∈ L.map (fun p => (Value.string p.1, p.2)) := hL ▸ List.mem_map.2 ⟨x, hx, rfl⟩
    obtain ⟨p, hp, e⟩ := List.mem_map.1 this
    exact ⟨p, hp, (congrArg Prod.fst e).symm⟩
  have hrd : ∀ x ∈ es.toList, ∀ p ∈ L, x.key = .string p.1 → rd Tryz.prog 9 anyR x = some (.string p.1.data.toList, .lit (.bool true)) := fun x hx p hp e => by
    have hk : keyOf Tryz.prog 9 x.key = some (.string p.1.data.toList) := by rw [e]; exact keyOf_text _ (by have := hs p hp; unfold maxLen; omega)
    unfold WideElems.rd
    rw [hk]
    rfl
  have hperm : ((es.toList.map (rg Tryz.prog 9 anyR)).foldr DataW.insert []).Perm (es.toList.map (rg Tryz.prog 9 anyR)) := sorted_perm _
  refine ⟨_, ⟨es, clock, hb, ⟨by unfold maxLen; omega, hst, fun x hx => ?_⟩, by omega, rfl⟩, ?_, ?_⟩
  · obtain ⟨p, hp, e⟩ := hkey x hx
    exact ⟨_, hrd x hx p hp e⟩
  · show ((es.toList.map (rg Tryz.prog 9 anyR)).foldr DataW.insert []).length = L.length
    rw [hperm.length_eq]
    simpa using hlen
  · have h1 : ((((es.toList.map (rg Tryz.prog 9 anyR)).foldr DataW.insert [])).map fun p => Go.strOf p.1).Perm ((es.toList.map (rg Tryz.prog 9 anyR)).map fun p => Go.strOf p.1) := hperm.map _
    have h2 : ((es.toList.map (rg Tryz.prog 9 anyR)).map fun p => Go.strOf p.1) = L.map fun p => p.1.data.toList := by
      have h3 : es.toList.map (fun x => (rg Tryz.prog 9 anyR x).1) = L.map fun p => Lit.string p.1.data.toList := by
        have h4 : es.toList.map (fun x => (rg Tryz.prog 9 anyR x).1) = (es.toList.map fun x => (x.key, x.val)).map fun p => (match p.1 with | .string s => Lit.string s.data.toList | _ => .bool false) := by
          rw [List.map_map]
          apply List.map_congr_left
          intro x hx
          obtain ⟨p, hp, e⟩ := hkey x hx
          simp [WideElems.rg, hrd x hx p hp e, e]
        rw [h4, hL, List.map_map]
        rfl
      have h5 := congrArg (List.map Go.strOf) h3
      rw [List.map_map, List.map_map] at h5
      rw [List.map_map]
      exact h5
    rw [h2] at h1
    exact h1
theorem keys_any (mb : Option Nat) (W : World) : Calls Tryz.prog 75 #[.map mb] W fun e w' => e = .returned (.func (.func 111) #[] #[.pointer (some ⟨W.heap.size, 0, none⟩)]) ∧ w' = W.alloc (.cells #[.map mb] 67) := callsIn_wide.1 (skKeys mb W)
/-- A list of names in order, the row of them new. -/
structure NamesAt (base : Nat) (w' : World) (v : Value) (ss : List ByteArray) (L : List (ByteArray × Value)) : Prop where
  perm : ss.Perm (L.map (·.1))
  row : w'.ownsRow base 9 1 v ss.length (ss.map .string)
  ord : (ss.map fun s => s.data.toList).Pairwise (fun x y => x ≤ y)
  nil : v = .slice none 0 0 ↔ ss = []
theorem sorted_any {w : World} {mb : Nat} {L : List (ByteArray × Value)} (h : MapAt .string w mb L) (hs : ∀ p ∈ L, p.1.size ≤ 100000) (hl : L.length ≤ 100000) :
    Calls Tryz.prog 74 #[.func (.func 111) #[] #[.pointer (some ⟨w.heap.size, 0, none⟩)]] (w.alloc (.cells #[.map (some mb)] 67)) fun e w' => ∃ v ss, e = .returned v ∧ NamesAt (w.heap.size + 1) w' v ss L ∧ K0 (w.alloc (.cells #[.map (some mb)] 67)) w' := by
  obtain ⟨D0, h1, h2, h3⟩ := owns_of h hs hl
  refine (callsIn_wide.1 (skSorted mb L.length D0 anyR w h1 (by rw [h2]; unfold maxLen; omega) (by rw [h2]; omega))).mono ?_
  rintro e w' ⟨v, ss, rfl, hp, hr, hn, hb⟩
  have hperm : (ss.mergeSort (fun x y => decide (x ≤ y))).Perm ss := List.mergeSort_perm _ _
  have hlen : (ss.mergeSort (fun x y => decide (x ≤ y))).length = ss.length := hperm.length_eq
  have hid : ((ss.mergeSort (fun x y => decide (x ≤ y))).map bytesOf).map (fun s => s.data.toList) = ss.mergeSort (fun x y => decide (x ≤ y)) := by
    rw [List.map_map]
    conv => rhs; rw [← List.map_id (ss.mergeSort (fun x y => decide (x ≤ y)))]
    apply List.map_congr_left
    intro x _
    simp [bytesOf]
  have hsz : (w.alloc (.cells #[.map (some mb)] 67)).heap.size = w.heap.size + 1 := by simp
  refine ⟨v, (ss.mergeSort (fun x y => decide (x ≤ y))).map bytesOf, rfl, ⟨?_, ?_, ?_, ?_⟩, ?_⟩
  · have h4 : ((ss.mergeSort (fun x y => decide (x ≤ y))).map bytesOf).Perm ((L.map fun p => p.1.data.toList).map bytesOf) := (hperm.trans (hp.trans h3)).map _
    rw [List.map_map] at h4
    refine h4.trans (List.Perm.of_eq ?_)
    apply List.map_congr_left
    intro p _
    simp [bytesOf]
  · rw [List.length_map, hlen, List.map_map]
    rw [hsz] at hr
    exact hr
  · rw [hid]
    have := List.pairwise_mergeSort (le := fun x y : List UInt8 => decide (x ≤ y)) (fun a b c => by simpa using List.le_trans) (fun a b => by simpa using List.le_total a b) ss
    exact this.imp (fun h => of_decide_eq_true h)
  · rw [hn]
    constructor
    · rintro rfl; simp
    · intro e
      have := congrArg List.length e
      simp [hlen] at this
      exact this
  · exact K0.of_below hb
end Go.Proofs.YtklhlffdpojkoaaGreat

/-
  A coordinator's names in order: the iterator, for every body that turns at most its own box and that box's row.
-/
namespace Go.Proofs.YtklhlffdpojkoaaGreat
open Go.RowKit Go.Shelf Fx
attribute [local go_sem] Oper.semAt_some

/-- A round keeps all cells but the box and the box's row; what lies below n0 it keeps whole. -/
def Kq (n0 Bx : Nat) (W W' : World) : Prop :=
  Below n0 W W' ∧ ∀ v, W.cell? ⟨Bx, 0, none⟩ = some v → ∃ v', W'.cell? ⟨Bx, 0, none⟩ = some v' ∧
    (∀ k cs t f, W.heap[k]? = some (.cells cs t f) → k ≠ Bx → some k ≠ v.ownBlock → W'.heap[k]? = W.heap[k]?) ∧ (∀ k, v'.ownBlock = some k → v.ownBlock = some k ∨ W.heap.size ≤ k)
theorem Kq.t {n0 Bx : Nat} {A B C : World} (h : Kq n0 Bx A B) (g : Kq n0 Bx B C) : Kq n0 Bx A C := by
  refine ⟨h.1.trans g.1, fun v hv => ?_⟩
  obtain ⟨v1, c1, k1, r1⟩ := h.2 v hv
  obtain ⟨v2, c2, k2, r2⟩ := g.2 v1 c1
  refine ⟨v2, c2, fun k cs t f hk hne hno => ?_, fun k hk => ?_⟩
  · have e1 := k1 k cs t f hk hne hno
    refine (k2 k cs t f (e1.trans hk) hne (fun e => ?_)).trans e1
    rcases r1 k e.symm with e2 | e2
    · exact hno e2.symm
    · have := (Array.getElem?_eq_some_iff.1 hk).1; omega
  · rcases r2 k hk with e | e
    · exact r1 k e
    · exact .inr (Nat.le_trans h.1.size e)
theorem putObj_other (W : World) {l k : Nat} (o : Obj) (h : k ≠ l) : (W.putObj l o).heap[k]? = W.heap[k]? := by
  simp [World.putObj, Ne.symm h]
theorem Kq.b {n0 Bx : Nat} {w : World} (hn : n0 ≤ w.heap.size) (W : World) (l : Nat) (o o' : Obj) (hl : w.heap.size ≤ l) (h : W.heap[l]? = some o) (hc : o.isCells = false) (hw : o.isWalk = false) : Kq n0 Bx W (W.putObj l o') := by
  refine ⟨belowK_b hn W l o o' hl h hc hw, fun v hv => ⟨v, ?_, fun k cs t f hk hne hno => ?_, fun k hk => .inl hk⟩⟩
  · have : Bx ≠ l := fun e => by
      subst e
      simp only [World.cell?, h] at hv
      cases o <;> simp [Obj.isCells] at hc hv
    simp only [World.cell?, putObj_other W o' this] at hv ⊢
    exact hv
  · refine putObj_other W o' (fun e => ?_)
    subst e
    rw [h] at hk
    cases hk
    simp [Obj.isCells] at hc
/-- What is left of a world while rounds go by. -/
def KN (n0 Bx : Nat) (A W : World) : Prop :=
  Below n0 A W ∧ ∃ v, W.cell? ⟨Bx, 0, none⟩ = some v ∧ (∀ k cs t f, A.heap[k]? = some (.cells cs t f) → k ≠ Bx → W.heap[k]? = A.heap[k]?) ∧ ∀ k, v.ownBlock = some k → A.heap.size ≤ k
theorem KN.step {n0 Bx : Nat} {A W W' : World} (h : KN n0 Bx A W) (g : Kq n0 Bx W W') : KN n0 Bx A W' := by
  obtain ⟨hb, v, c, k, r⟩ := h
  obtain ⟨v1, c1, k1, r1⟩ := g.2 v c
  refine ⟨hb.trans g.1, v1, c1, fun j cs t f hj hne => ?_, fun j hj => ?_⟩
  · have e1 := k j cs t f hj hne
    refine (k1 j cs t f (e1.trans hj) hne (fun e => ?_)).trans e1
    have := r j e.symm
    have := (Array.getElem?_eq_some_iff.1 hj).1
    omega
  · rcases r1 j hj with e | e
    · exact r j e
    · exact Nat.le_trans hb.size e
theorem KN.start {n0 Bx : Nat} {A : World} (h : A.cell? ⟨Bx, 0, none⟩ = some (.slice none 0 0)) : KN n0 Bx A A :=
  ⟨Below.refl _ _, _, h, fun _ _ _ _ _ _ => rfl, fun k e => by simp [Value.ownBlock] at e⟩
theorem KN.cell {n0 Bx : Nat} {A W : World} (h : KN n0 Bx A W) {b i : Nat} {v : Value} (hc : A.cell? ⟨b, i, none⟩ = some v) (hne : b ≠ Bx) : W.cell? ⟨b, i, none⟩ = some v := by
  obtain ⟨_, _, _, k, _⟩ := h
  cases hb : A.heap[b]? with
  | none => simp [World.cell?, hb] at hc
  | some o =>
    cases o with
    | cells cs t f =>
      have := k b cs t f hb hne
      simp only [World.cell?, this] at hc ⊢
      exact hc
    | _ => simp [World.cell?, hb] at hc

section
variable {F : Fence} {nF : Nat} {P : Program} {kt : TypeId} {κ : Type} [DecidableEq κ]
variable (E : KeyEnc P kt κ) {w : World} {b : Nat} {L : List (κ × Value)} {ops : Array Oper} {rest : List Oper} {o : Oper} {a : Act} {Q : Exit → Act → World → Prop}
/-- A look-up in the fenced walk. -/
theorem wpListIn_look (hg : o.guard = none) {m x : Operand} {t : TypeId} {c : Bool} (hop : o.op = Op.lookup t m x c)
    {et : TypeId} (ht : P.underlying t = some (.map kt et)) {z : Value} (hz : ∀ w, (zeroValue et).run P w = .ok z w) (hm : a.eval m = .map (some b)) (k : κ) (hx : a.eval x = E.enc k) (h : MapAt E.enc w b L) (v : Option Value) (hv : aget L k = v)
    (hK : wpListIn F nF P ops Q rest (a.put o.dst (if c then .tuple #[v.getD z, .bool v.isSome] else v.getD z)) w) :
    wpListIn F nF P ops Q (o :: rest) a w := by
  refine wpListIn_plain hg fun K' hK' => ?_
  have hrun := h.look E ht (hz w) k c
  subst hv
  unfold Oper.wpIn
  refine ⟨by simp [Oper.about, hop], ?_⟩
  rw [Oper.semAt_plain F _ _ (by rw [hop]; intro c hc'; cases hc')]
  simp [execOp, hop, hm, hx, hrun, Result.andThen]
  exact hK' _ _ hK
end

set_option maxRecDepth 100000 in
set_option maxHeartbeats 1000000 in
theorem all_box (cb : Nat) (w : World) : Calls Tryz.prog 44 #[.pointer (some ⟨cb, 0, none⟩)] w fun e w' => e = .returned (.func (.func 73) #[] #[.pointer (some ⟨w.heap.size, 0, none⟩)]) ∧ w' = w.alloc (.cells #[.pointer (some ⟨cb, 0, none⟩)] 23) := by
  go_enter Tryz.func44, Tryz.ntmps44
  go_wp2
  go_ret
  exact ⟨rfl, rfl⟩
end Go.Proofs.YtklhlffdpojkoaaGreat

/-
  A coordinator's names in order: the iterator's contract.
-/
namespace Go.Proofs.YtklhlffdpojkoaaGreat
open Go.RowKit Go.Shelf Fx
attribute [local go_sem] Oper.semAt_some

theorem grown_of_k0 {w w' : World} (h : K0 w w') : w.grownBy w' none := ⟨h.os, h.tape, h.output, h.size, fun k hk _ => h.block k hk (fun e => e)⟩
/-- The names as the walk reads them. -/
def RowF (base : Nat) (w' : World) (a : Option Addr) (ss : List ByteArray) : Prop :=
  ∀ i (hi : i < ss.length), ∃ g, a = some ⟨g, 0, none⟩ ∧ base ≤ g ∧ g < w'.heap.size ∧ w'.cell? ⟨g, i, none⟩ = some (.string ss[i])
theorem NamesAt.form {base : Nat} {w' : World} {v : Value} {ss : List ByteArray} {L : List (ByteArray × Value)} (h : NamesAt base w' v ss L) : ∃ a c, v = .slice a ss.length c ∧ RowF base w' a ss := by
  have hr := h.row
  rcases hr.2 with ⟨h1, h2⟩ | ⟨g, cp, cur, h1, h2, h3, h4⟩
  · exact ⟨none, 0, by rw [h1, h2], fun i hi => by omega⟩
  · subst h1
    refine ⟨_, _, rfl, fun i hi => ⟨g, rfl, h2, (Array.getElem?_eq_some_iff.1 h3).1, ?_⟩⟩
    rw [hr.cellAt i (by omega), List.getElem?_map, List.getElem?_eq_getElem hi]
    rfl
theorem w64s {n : Nat} (h : n < 1000000) : wrap64 ((n : Int) + 1) = (n : Int) + 1 := by unfold wrap64; omega
set_option maxRecDepth 100000 in
set_option maxHeartbeats 4000000 in
theorem all_stops {w0 w : World} {cb B Bx n0 : Nat} {C : CoordC} {Y : CLay} (h : CAt w0 w cb C Y) (hl : Y.L.length ≤ 100000) (hks : ∀ p ∈ avals gptr Y.L, p.1.size ≤ 100000) (hcb : cb < n0) (hgb : Y.gb < n0) (hB : w.cell? ⟨B, 0, none⟩ = some (.pointer (some ⟨cb, 0, none⟩))) (hBl : B < w.heap.size) (hne : B ≠ Bx)
    (hx : w.cell? ⟨Bx, 0, none⟩ = some (.slice none 0 0)) (hxl : Bx < w.heap.size) (hn0 : n0 ≤ Bx) (n : Nat) (hn : 1 ≤ n) :
    SeqStopsK Fence.wide n Tryz.prog 73 #[.pointer (some ⟨B, 0, none⟩)] (fun x : ByteArray × Value => #[.string x.1, x.2]) (Kq n0 Bx) (fun xs => xs.length = Y.L.length) (fun _ => True) Y.L.length w := fun l J Jx W hb hJ hJx hY h0 => by
  have hkW := K0.of_below hb
  have hW := h.keep hkW
  have cB : W.cell? ⟨B, 0, none⟩ = some (.pointer (some ⟨cb, 0, none⟩)) := hkW.cell' hB (fun e => e)
  have c2 : W.cell? ⟨cb, 2, none⟩ = some (.map (some Y.gb)) := block_cell hW.blk 2
  have hBW : B < W.heap.size := Nat.lt_of_lt_of_le hBl hkW.size
  have hltc : cb < W.heap.size := block_lt hW.blk
  have cX := Lib.hid (hkW.cell' hx (fun e => e))
  have hXW : Bx < W.heap.size := Nat.lt_of_lt_of_le hxl hkW.size
  have S := Lib.hid (sorted_any hW.map hks (by rw [avals_len]; exact hl))
  have HM := Lib.hid hW.map
  have HL : Hid ((avals gptr Y.L).length = Y.L.length) := avals_len _ _
  clear hW h hb hkW
  refine callsIn_of_wp Tryz.func73 rfl trivial ?_ rfl
  simp only [Tryz.ntmps73, List.size_toArray, List.length_cons, List.length_nil, Nat.reduceAdd, Nat.reduceSub, Array.replicate_succ, Array.replicate_zero, List.push_toArray, List.append_toArray, List.nil_append, List.cons_append]
  gi_wp2_with (first | (refine ⟨trivial, ?_⟩; gi_at_call 75; refine (callsIn_wide.2 (keys_any (some Y.gb) W)).mono ?_; rintro e w1 ⟨rfl, rfl⟩) | (refine ⟨trivial, ?_⟩; gi_at_call 74; refine (callsIn_wide.2 S.out).mono ?_; rintro e w2 ⟨v, ss, rfl, hN, hk2⟩; obtain ⟨a, c, rfl, hF⟩ := hN.form))
  have kA : K0 W (W.alloc (.cells #[.map (some Y.gb)] 67)) := (Keeps.refl _ _).alloc _
  have k2 := K0.tr kA hk2
  have HJ0 : Hid (J [] w2) := hJ _ _ _ none h0 (grown_of_k0 k2) (by simp)
  have HKN : Hid (KN n0 Bx w2 w2) := KN.start (k2.cell' cX.out (fun e => e))
  have HE : Hid (ss.length = Y.L.length) := by have := hN.perm.length_eq; simp only [List.length_map] at this; exact this.trans HL.out
  have HFF := Lib.hid hF
  have dB := Lib.hid (k2.cell' cB (fun e => e))
  have d2 := Lib.hid (k2.cell' c2 (fun e => e))
  have HM2 : Hid (MapAt .string w2 Y.gb (avals gptr Y.L)) := HM.out.keep k2 (fun e => e)
  have HS : Hid (B < w2.heap.size ∧ cb < w2.heap.size ∧ Bx < W.heap.size) := ⟨Nat.lt_of_lt_of_le hBW k2.size, Nat.lt_of_lt_of_le hltc k2.size, hXW⟩
  clear hk2 hN hF kA k2 cB c2 hBW hltc hXW h0
  gi_loopw [14] (fun p wr => ∃ pre : List (ByteArray × Value), p = .int .i64 pre.length ∧ pre.length ≤ ss.length ∧ J pre wr ∧ KN n0 Bx w2 wr) (fun p _ => ss.length - (intOf p).toNat)
  case atStart => exact ⟨[], rfl, Nat.zero_le _, HJ0.out, HKN.out⟩
  case round =>
    obtain ⟨pre, rfl, hle, hJs, hkn⟩ := hrel
    by_cases hlt : pre.length < ss.length
    · obtain ⟨g, rfl, hg1, hg2, hc⟩ := HFF.out pre.length hlt
      have cg : wr.cell? ⟨g, pre.length, none⟩ = some (.string ss[pre.length]) := hkn.cell hc (by have := HS.out; omega)
      have cB : wr.cell? ⟨B, 0, none⟩ = some (.pointer (some ⟨cb, 0, none⟩)) := hkn.cell dB.out hne
      have c2 : wr.cell? ⟨cb, 2, none⟩ = some (.map (some Y.gb)) := hkn.cell d2.out (by omega)
      have hm : Hid (MapAt .string wr Y.gb (avals gptr Y.L)) := HM2.out.of_block (hkn.1.block _ hgb)
      have hz := hkn.1.size
      have b1 : B < wr.heap.size := by have := HS.out; omega
      have b2 : cb < wr.heap.size := by have := HS.out; omega
      have b3 : g < wr.heap.size := by omega
      obtain ⟨x, hx⟩ : ∃ x, x = (ss[pre.length], ((aget (avals gptr Y.L) ss[pre.length]).getD (.pointer none) : Value)) := ⟨_, rfl⟩
      obtain ⟨fn, tmps, assign, body, hy, hR⟩ := hY pre x wr hJs (by have := HE.out; omega)
      have HKN2 := Lib.hid hkn
      clear hkn hJs
      rw [hx] at hy hR
      dsimp only at hy hR
      have HV : Hid (aget (avals gptr Y.L) ss[pre.length] = aget (avals gptr Y.L) ss[pre.length]) := rfl
      gi_wp2_with (gi_at_lookup; refine wpListIn_look (strKey Tryz.underlying9) rfl rfl Tryz.underlying67 zeroPtr rfl ss[pre.length] rfl hm.out _ HV.out ?_)
      refine hR.mono ?_
      rintro e W3 (⟨rfl, hJ3, hk3⟩ | ⟨rfl, hJx3⟩)
      · have HKN3 := Lib.hid (HKN2.out.step hk3)
        have HJ3 := Lib.hid hJ3
        clear hk3 hJ3
        have hm0 : (pre ++ [x]).length ≤ ss.length := by rw [List.length_append]; exact hlt
        have hm1 : ss.length - ((pre.length : Int) + 1).toNat < ss.length - (pre.length : Int).toNat := by
          clear HKN3 HJ3 HV HKN2 hm HM2 HM HS HE
          omega
        have hw : wrap64 ((pre.length : Int) + 1) = (pre.length : Int) + 1 := w64s (by have := HE.out; omega)
        gi_wp2
        go_roundw
        case rel => exact ⟨pre ++ [x], by rw [hw, List.length_append]; rfl, hm0, by rw [hx]; exact HJ3.out, HKN3.out⟩
        case measure => rw [hw]; exact hm1
      · gi_wp2
        refine bodyPost_ret (results_none rfl _ _ _) rfl ?_
        exact ⟨⟨_, rfl⟩, .inr ⟨_, trivial, hJx3⟩⟩
    · have he : pre.length = ss.length := by omega
      have hxs : pre.length = Y.L.length := he.trans HE.out
      gi_wp2
      go_end0
      exact ⟨⟨_, rfl⟩, .inl ⟨pre, hxs, hJs⟩⟩
end Go.Proofs.YtklhlffdpojkoaaGreat

/-
  A coordinator's names: how many.
-/
namespace Go.Proofs.YtklhlffdpojkoaaGreat
open Go.RowKit Go.Shelf Fx
attribute [local go_sem] Oper.semAt_some

theorem infoStrN : (Tryz.prog.info? 9).map (fun i => (i.zero, i.size, i.bytes)) = some (some (.string ⟨#[]⟩), 1, 16) := by kernel_rfl
theorem kq_body {n0 Bx : Nat} {W w1 : World} {v v' : Value} {tmp : Obj} (hv : W.cell? ⟨Bx, 0, none⟩ = some v) (hv2 : (w1.setCell ⟨Bx, 0, none⟩ v').cell? ⟨Bx, 0, none⟩ = some v') (hg : (W.alloc tmp).grownBy w1 v.ownBlock) (hb : v'.ownBlock = v.ownBlock ∨ v'.ownBlock = some (W.alloc tmp).heap.size)
    (hB : Below n0 W (w1.setCell ⟨Bx, 0, none⟩ v')) : Kq n0 Bx W (w1.setCell ⟨Bx, 0, none⟩ v') := by
  refine ⟨hB, fun u hu => ?_⟩
  obtain rfl : v = u := by rw [hv] at hu; exact Option.some.inj hu
  refine ⟨v', hv2, fun k cs t f hk hne hno => ?_, fun k hk => ?_⟩
  · have hlt := (Array.getElem?_eq_some_iff.1 hk).1
    have e1 := hg.block k (by simp; omega) hno
    have e2 : (W.alloc tmp).heap[k]? = W.heap[k]? := Below.heap_alloc _ _ _ hlt
    exact ((Below.heap_setCell _ _ _ k (by exact hne)).trans e1).trans e2
  · rcases hb with e | e
    · exact .inl (e.symm.trans hk)
    · right
      rw [e] at hk
      simp at hk
      omega
set_option maxRecDepth 100000 in
set_option maxHeartbeats 4000000 in
theorem names_any {w0 w : World} {cb : Nat} {C : CoordC} {Y : CLay} (h : CAt w0 w cb C Y) (hl : Y.L.length ≤ 100000) (hks : ∀ p ∈ avals gptr Y.L, p.1.size ≤ 100000) :
    Calls Tryz.prog 21 #[.pointer (some ⟨cb, 0, none⟩)] w fun e w' => ∃ a c, e = .returned (.slice a Y.L.length c) ∧ K0 w w' := by
  refine (callsIn_wide (n := 6)).1 ?_
  have h1 : 1 ≤ 6 := by omega
  have hA : Fence.wide.fn 44 := trivial
  obtain ⟨i0, hi, hz0, hz1, hz2⟩ := info_parts infoStrN
  have hcb := block_lt h.blk
  have hgb := h.map.lt
  have HH := Lib.hid h
  clear h
  refine callsIn_of_wp_marks Tryz.func21 rfl trivial ?_ rfl
  simp only [Tryz.ntmps21, List.size_toArray, List.length_cons, List.length_nil, Nat.reduceAdd, Nat.reduceSub, Array.replicate_succ, Array.replicate_zero, List.push_toArray, List.append_toArray, List.nil_append, List.cons_append]
  gi_wp2_with (gi_at_call 44; refine (callsIn_wide.2 (all_box cb _)).mono ?_; rintro e w' ⟨rfl, rfl⟩)
  have bO := Boxed.new w 31 (.slice none 0 0)
  have bN := Boxed.new (w.alloc (.cells #[.slice none 0 0] 31)) 23 (.pointer (some ⟨cb, 0, none⟩))
  rw [World.size_alloc] at bN
  have hB0 : Below w.heap.size w ((w.alloc (.cells #[.slice none 0 0] 31)).alloc (.cells #[.pointer (some ⟨cb, 0, none⟩)] 23)) := ((Below.refl _ w).alloc (Nat.le_refl _) _).alloc (by simp) _
  have hst := all_stops (B := w.heap.size + 1) (Bx := w.heap.size) (n0 := w.heap.size) (HH.out.keep (K0.of_below hB0)) hl hks hcb hgb bN.cell (by simp) (by omega) (bO.alloc _).cell (by simp; omega) (Nat.le_refl _) (6 - 1) (by omega)
  refine wpIn_rangeFunc_ownF rfl h1 (gf := 73) (lb := #[.pointer (some ⟨w.heap.size + 1, 0, none⟩)]) rfl trivial (enters_of Tryz.func73 (by kernel_rfl) rfl) hst Kq.t (Kq.b (by simp; omega)) (Below.refl _ _) (fun _ => rfl)
    (fun pre W => (∃ v, Boxed W w.heap.size 31 v ∧ W.ownsRow w.heap.size 9 1 v pre.length (pre.map fun x => .string x.1) ∧ True) ∧ Below w.heap.size w W) (fun _ _ _ => False)
    (OwnFrom.and (Own.from (holdsRow_own w.heap.size w.heap.size 31 9 1 (fun pre : List (ByteArray × Value) => pre.length) (fun pre => pre.map fun x => .string x.1) (fun _ _ => True)) _) (ownFrom_below (Nat.le_refl _) (by simp; omega)))
    (fun _ _ _ _ _ hs _ _ => hs) ⟨⟨_, bO.alloc _, World.ownsRow_nil _ _ _ _, trivial⟩, hB0⟩
    (fun x => { tmps := #[.pointer (some ⟨cb, 0, none⟩), undef, .slice none 0 0, .pointer (some ⟨w.heap.size, 0, none⟩), .string x.1, .pointer (some ⟨cb, 0, none⟩), .func (.func 73) #[] #[.pointer (some ⟨w.heap.size + 1, 0, none⟩)], .string x.1, x.2, undef, undef, undef, undef, undef], defers := [] }) ?assign ?body ?done ?stop
  case assign =>
    intro l x W K hK
    gi_wp2
    exact hK
  case body =>
    rintro l pre x W ⟨⟨v, hv, hrow, _⟩, hB⟩ hlt
    have hc := hv.cell
    clear hst
    gi_wp2_with (gi_at_builtin; refine wpListIn_append_own_at _ rfl _ _ 31 rfl w.heap.size 9 i0 (.string ⟨#[]⟩) 1 16 Tryz.underlying31 hi hz0 hz1 hz2 rfl (by decide) _ _ _ rfl (hrow.alloc _) ⟨W.heap.size, 0, none⟩ 1 1 [.string x.1] rfl rfl (cell_one_new _ _ _) (by simp [Value.oneCell']) (by unfold maxLen; omega) (by omega) (by have := hB.size; simp; omega) ?_; intro v' w1 hown' hgrow _ hfr; obtain ⟨g', cap', rfl⟩ := ownsRow_succ hown'; obtain ⟨hv1, hv2, hr2, hk2, hb2⟩ := hv.appended (by decide) hrow hB.size (Nat.le_refl _) hown' hgrow; have hc1 := hv1.cell; have hf1 := hv1.frozen)
    exact ⟨hk2, kq_body hv.cell hv2.cell hgrow hfr hb2, ⟨_, hv2, by simpa using hr2, trivial⟩, hB.trans hb2⟩
  case done =>
    rintro D xs W hD hxs ⟨⟨v, hv, hrow, _⟩, hB⟩ hK
    obtain ⟨a, c, rfl⟩ : ∃ a c, v = .slice a xs.length c := by
      rcases hrow.2 with ⟨e1, e2⟩ | ⟨r, cp, cur, e1, _⟩
      · rw [e1, e2]; exact ⟨_, _, rfl⟩
      · exact ⟨_, _, e1⟩
    have hc := hv.cell
    clear hst
    gi_wp2
    refine ⟨by simp, Or.inl ⟨_, _, rfl, run_takeDeferred hK, ?_⟩⟩
    exact ⟨_, results_tmp rfl _ _ _, a, c, rfl, K0.of_below (hB.trans (belowK_b (w := w) (Nat.le_refl _) W D _ _ (by simp at hD; omega) hK rfl rfl))⟩
  case stop =>
    rintro D c pre W _ _ h _
    exact h.elim
end Go.Proofs.YtklhlffdpojkoaaGreat

/-
  The program's coordinator: its iterator for any body that keeps what is read; Names, the names told.
-/
namespace Go.Proofs.YtklhlffdpojkoaaGreat
open Go.RowKit Go.Shelf Fx
attribute [local go_sem] Oper.semAt_some

/-- An entry of the groups' map. -/
abbrev EntP (L : List (ByteArray × Value)) := { p : ByteArray × Value // p ∈ L }
def encE {L : List (ByteArray × Value)} (x : EntP L) : Array Value := #[.string x.1.1, x.1.2]
/-- Names in order. -/
structure OrdN (ss : List ByteArray) (L : List (ByteArray × Value)) : Prop where
  perm : ss.Perm (L.map (·.1))
  ord : (ss.map fun s => s.data.toList).Pairwise (fun x y => x ≤ y)
theorem NamesAt.ordN {base : Nat} {w' : World} {v : Value} {ss : List ByteArray} {L : List (ByteArray × Value)} (h : NamesAt base w' v ss L) : OrdN ss L := ⟨h.perm, h.ord⟩
theorem mem_getD {L : List (ByteArray × Value)} {s : ByteArray} (h : s ∈ L.map (·.1)) (z : Value) : (s, (aget L s).getD z) ∈ L := by
  cases hg : aget L s with
  | none =>
    obtain ⟨p, hp, e⟩ := List.mem_map.1 h
    exact absurd e (aget_none hg p hp)
  | some v => exact aget_in hg
/-- What a body must keep: the iterator's box, the coordinator, its map, the row of names. -/
def IterK (Kp : World → World → Prop) (w : World) (B cb gb : Nat) : Prop :=
  ∀ W w2, K0 w W → K0 W w2 → ∃ KN : World → Prop, KN w2 ∧ (∀ A A', KN A → Kp A A' → KN A') ∧ ∀ A, KN A → w2.heap.size ≤ A.heap.size ∧ A.heap[B]? = w2.heap[B]? ∧ A.heap[cb]? = w2.heap[cb]? ∧ A.heap[gb]? = w2.heap[gb]? ∧
    ∀ g cs t f, W.heap.size ≤ g → w2.heap[g]? = some (.cells cs t f) → A.heap[g]? = w2.heap[g]?
theorem cell_of_block {w w' : World} {b i : Nat} {v : Value} (h : w'.heap[b]? = w.heap[b]?) (hc : w.cell? ⟨b, i, none⟩ = some v) : w'.cell? ⟨b, i, none⟩ = some v := by
  simp only [World.cell?, h] at hc ⊢
  exact hc
/-- The names as the walk reads them, their row a block of cells. -/
def RowG (base : Nat) (w' : World) (a : Option Addr) (ss : List ByteArray) : Prop :=
  ∀ i (hi : i < ss.length), ∃ g cs t f, a = some ⟨g, 0, none⟩ ∧ base ≤ g ∧ g < w'.heap.size ∧ w'.heap[g]? = some (.cells cs t f) ∧ w'.cell? ⟨g, i, none⟩ = some (.string ss[i])
theorem NamesAt.formG {base : Nat} {w' : World} {v : Value} {ss : List ByteArray} {L : List (ByteArray × Value)} (h : NamesAt base w' v ss L) : ∃ a c, v = .slice a ss.length c ∧ RowG base w' a ss := by
  have hr := h.row
  rcases hr.2 with ⟨h1, h2⟩ | ⟨g, cp, cur, h1, h2, h3, h4⟩
  · exact ⟨none, 0, by rw [h1, h2], fun i hi => by omega⟩
  · subst h1
    refine ⟨_, _, rfl, fun i hi => ⟨g, _, _, _, rfl, h2, (Array.getElem?_eq_some_iff.1 h3).1, h3, ?_⟩⟩
    rw [hr.cellAt i (by omega), List.getElem?_map, List.getElem?_eq_getElem hi]
    rfl
set_option maxRecDepth 100000 in
set_option maxHeartbeats 4000000 in
theorem all_stops_g {w0 w : World} {cb B : Nat} {C : CoordC} {Y : CLay} {Kp : World → World → Prop} (h : CAt w0 w cb C Y) (hl : Y.L.length ≤ 100000) (hks : ∀ p ∈ avals gptr Y.L, p.1.size ≤ 100000) (hB : w.cell? ⟨B, 0, none⟩ = some (.pointer (some ⟨cb, 0, none⟩))) (hBl : B < w.heap.size)
    (hKp : IterK Kp w B cb Y.gb) (n : Nat) (hn : 1 ≤ n) :
    SeqStopsK Fence.wide n Tryz.prog 73 #[.pointer (some ⟨B, 0, none⟩)] (encE (L := avals gptr Y.L)) Kp (fun xs => OrdN (xs.map (fun x => x.1.1)) (avals gptr Y.L)) (fun _ => True) Y.L.length w := fun l J Jx W hb hJ hJx hY h0 => by
  have hkW := K0.of_below hb
  have hW := h.keep hkW
  have cB : W.cell? ⟨B, 0, none⟩ = some (.pointer (some ⟨cb, 0, none⟩)) := hkW.cell' hB (fun e => e)
  have c2 : W.cell? ⟨cb, 2, none⟩ = some (.map (some Y.gb)) := block_cell hW.blk 2
  have hBW : B < W.heap.size := Nat.lt_of_lt_of_le hBl hkW.size
  have hltc : cb < W.heap.size := block_lt hW.blk
  have HKW := Lib.hid hkW
  have HKP := Lib.hid hKp
  clear hKp
  have S := Lib.hid (sorted_any hW.map hks (by rw [avals_len]; exact hl))
  have HM := Lib.hid hW.map
  have HL : Hid ((avals gptr Y.L).length = Y.L.length) := avals_len _ _
  clear hW h hb hkW
  refine callsIn_of_wp Tryz.func73 rfl trivial ?_ rfl
  simp only [Tryz.ntmps73, List.size_toArray, List.length_cons, List.length_nil, Nat.reduceAdd, Nat.reduceSub, Array.replicate_succ, Array.replicate_zero, List.push_toArray, List.append_toArray, List.nil_append, List.cons_append]
  gi_wp2_with (first | (refine ⟨trivial, ?_⟩; gi_at_call 75; refine (callsIn_wide.2 (keys_any (some Y.gb) W)).mono ?_; rintro e w1 ⟨rfl, rfl⟩) | (refine ⟨trivial, ?_⟩; gi_at_call 74; refine (callsIn_wide.2 S.out).mono ?_; rintro e w2 ⟨v, ss, rfl, hN, hk2⟩; obtain ⟨a, c, rfl, hF⟩ := hN.formG))
  have kA : K0 W (W.alloc (.cells #[.map (some Y.gb)] 67)) := (Keeps.refl _ _).alloc _
  have k2 := K0.tr kA hk2
  have HJ0 : Hid (J [] w2) := hJ _ _ _ none h0 (grown_of_k0 k2) (by simp)
  obtain ⟨KN, hk0, hks2, hkk⟩ := HKP.out W w2 HKW.out k2
  have HKN := Lib.hid hk0
  have HKS := Lib.hid hks2
  have HKK := Lib.hid hkk
  have HORD := Lib.hid hN.ordN
  clear hk0 hks2 hkk
  have HE : Hid (ss.length = Y.L.length) := by have := hN.perm.length_eq; simp only [List.length_map] at this; exact this.trans HL.out
  have HFF := Lib.hid hF
  have dB := Lib.hid (k2.cell' cB (fun e => e))
  have d2 := Lib.hid (k2.cell' c2 (fun e => e))
  have HM2 : Hid (MapAt .string w2 Y.gb (avals gptr Y.L)) := HM.out.keep k2 (fun e => e)
  have HS : Hid (B < w2.heap.size ∧ cb < w2.heap.size) := ⟨Nat.lt_of_lt_of_le hBW k2.size, Nat.lt_of_lt_of_le hltc k2.size⟩
  have HWA : Hid (W.heap.size ≤ (W.alloc (.cells #[.map (some Y.gb)] 67)).heap.size) := kA.size
  clear hk2 hN hF kA k2 cB c2 hBW hltc h0
  gi_loopw [14] (fun p wr => ∃ pre : List (EntP (avals gptr Y.L)), p = .int .i64 pre.length ∧ pre.length ≤ ss.length ∧ pre.map (fun x => x.1.1) = ss.take pre.length ∧ J pre wr ∧ KN wr) (fun p _ => ss.length - (intOf p).toNat)
  case atStart => exact ⟨[], rfl, Nat.zero_le _, by simp, HJ0.out, HKN.out⟩
  case round =>
    obtain ⟨pre, rfl, hle, hpre, hJs, hkn⟩ := hrel
    have HPRE := Lib.hid hpre
    clear hpre
    by_cases hlt : pre.length < ss.length
    · obtain ⟨g, cs9, t9, f9, rfl, hg1, hg2, hg3, hc⟩ := HFF.out pre.length hlt
      obtain ⟨hz, kB, kc, kg, kr⟩ := HKK.out wr hkn
      have cg : wr.cell? ⟨g, pre.length, none⟩ = some (.string ss[pre.length]) := cell_of_block (kr g _ _ _ (by have h8 := HWA.out; omega) hg3) hc
      have cB : wr.cell? ⟨B, 0, none⟩ = some (.pointer (some ⟨cb, 0, none⟩)) := cell_of_block kB dB.out
      have c2 : wr.cell? ⟨cb, 2, none⟩ = some (.map (some Y.gb)) := cell_of_block kc d2.out
      have hm : Hid (MapAt .string wr Y.gb (avals gptr Y.L)) := HM2.out.of_block kg
      have b1 : B < wr.heap.size := by have := HS.out; omega
      have b2 : cb < wr.heap.size := by have := HS.out; omega
      have b3 : g < wr.heap.size := by omega
      clear kB kc kg kr hg3 cs9 t9 f9
      have hmem : ss[pre.length] ∈ (avals gptr Y.L).map (·.1) := HORD.out.perm.mem_iff.1 (List.getElem_mem hlt)
      obtain ⟨x, hx⟩ : ∃ x : EntP (avals gptr Y.L), x = ⟨(ss[pre.length], ((aget (avals gptr Y.L) ss[pre.length]).getD (.pointer none) : Value)), mem_getD hmem _⟩ := ⟨_, rfl⟩
      have HX1 : Hid (x.1.1 = ss[pre.length]) := by show _ = _; rw [hx]
      have HXE : Hid (encE x = #[.string ss[pre.length], (aget (avals gptr Y.L) ss[pre.length]).getD (.pointer none)]) := by show _ = _; rw [hx]; rfl
      obtain ⟨fn, tmps, assign, body, hy, hR⟩ := hY pre x wr hJs (by have := HE.out; omega)
      have HKN2 := Lib.hid hkn
      clear hkn hJs
      (try rw [HXE.out] at hy)
      (try rw [HXE.out] at hR)
      clear hx hmem
      have HV : Hid (aget (avals gptr Y.L) ss[pre.length] = aget (avals gptr Y.L) ss[pre.length]) := rfl
      gi_wp2_with (gi_at_lookup; refine wpListIn_look (strKey Tryz.underlying9) rfl rfl Tryz.underlying67 zeroPtr rfl ss[pre.length] rfl hm.out _ HV.out ?_)
      refine hR.mono ?_
      rintro e W3 (⟨rfl, hJ3, hk3⟩ | ⟨rfl, hJx3⟩)
      · have HKN3 := Lib.hid (HKS.out _ _ HKN2.out hk3)
        have HJ3 := Lib.hid hJ3
        clear hk3 hJ3
        have hm0 : (pre ++ [x]).length ≤ ss.length := by rw [List.length_append]; exact hlt
        have hm1 : ss.length - ((pre.length : Int) + 1).toNat < ss.length - (pre.length : Int).toNat := by
          clear HKN3 HJ3 HV HKN2 hm HM2 HM HS HE HX1 HXE HPRE HORD HKS HKK
          omega
        have hw : wrap64 ((pre.length : Int) + 1) = (pre.length : Int) + 1 := w64s (by have := HE.out; omega)
        gi_wp2
        go_roundw
        case rel => exact ⟨pre ++ [x], by rw [hw, List.length_append]; rfl, hm0, by rw [List.map_append, List.length_append, HPRE.out]; show _ = ss.take (pre.length + 1); rw [List.take_succ_eq_append_getElem hlt, ← HX1.out]; rfl, HJ3.out, HKN3.out⟩
        case measure => rw [hw]; exact hm1
      · gi_wp2
        refine bodyPost_ret (results_none rfl _ _ _) rfl ?_
        exact ⟨⟨_, rfl⟩, .inr ⟨_, trivial, hJx3⟩⟩
    · have he : pre.length = ss.length := by omega
      have HXS : Hid (OrdN (pre.map (fun x => x.1.1)) (avals gptr Y.L)) := by show OrdN _ _; rw [HPRE.out, he, List.take_length]; exact HORD.out
      clear he
      gi_wp2
      go_end0
      exact ⟨⟨_, rfl⟩, .inl ⟨pre, HXS.out, hJs⟩⟩
theorem iterK_names {w : World} {B cb gb Bx n0 : Nat} (hcb : cb < n0) (hgb : gb < n0) (hne : B ≠ Bx) (hx : w.cell? ⟨Bx, 0, none⟩ = some (.slice none 0 0)) (hxl : Bx < w.heap.size) (hB : ∃ cs t f, w.heap[B]? = some (.cells cs t f)) : IterK (Kq n0 Bx) w B cb gb := fun W w2 k1 k2 => by
  have hk := K0.tr k1 k2
  obtain ⟨cs, t, f, hB⟩ := hB
  have hBl := (Array.getElem?_eq_some_iff.1 hB).1
  refine ⟨KN n0 Bx w2, KN.start (hk.cell' hx (fun e => e)), fun A A' h g => h.step g, fun A hA => ?_⟩
  obtain ⟨hb, v, c, k, r⟩ := hA
  exact ⟨hb.size, k B cs t f ((hk.block B hBl (fun e => e)).trans hB) hne, hb.block _ hcb, hb.block _ hgb, fun g cs t f hg he => k g cs t f he (fun e => by have := k1.size; omega)⟩
theorem y_row_putObj {w : World} {base : Nat} {e : TypeId} {size : Nat} {v : Value} {n D : Nat} {xs : List Value} {o o' : Obj} (h : w.ownsRow base e size v n xs) (hD : w.heap[D]? = some o) (hc : o.isCells = false) : (w.putObj D o').ownsRow base e size v n xs := by
  refine ⟨h.1, ?_⟩
  rcases h.2 with h1 | ⟨g, cap, cur, h1, h2, h3, h4⟩
  · exact .inl h1
  · refine .inr ⟨g, cap, cur, h1, h2, ?_, h4⟩
    rw [putObj_other w o' (fun e => by subst e; rw [hD] at h3; cases h3; simp [Obj.isCells] at hc)]
    exact h3
/-- The names in order. -/
def PNamesP (w : World) (L : List (ByteArray × Value)) (e : Ending) (w' : World) : Prop := ∃ ss, OrdN ss L ∧ ∃ v, e = .returned v ∧ w'.ownsRow w.heap.size 9 1 v ss.length (ss.map .string) ∧ K0 w w'
set_option maxRecDepth 100000 in
set_option maxHeartbeats 4000000 in
theorem pnames_at {w0 w : World} {cb : Nat} {C : CoordC} {Y : CLay} (h : CAt w0 w cb C Y) (hl : Y.L.length ≤ 100000) (hks : ∀ p ∈ avals gptr Y.L, p.1.size ≤ 100000) :
    Calls Tryz.prog 21 #[.pointer (some ⟨cb, 0, none⟩)] w (PNamesP w (avals gptr Y.L)) := by
  refine (callsIn_wide (n := 6)).1 ?_
  have h1 : 1 ≤ 6 := by omega
  have hA : Fence.wide.fn 44 := trivial
  obtain ⟨i0, hi, hz0, hz1, hz2⟩ := info_parts infoStrN
  have hcb := block_lt h.blk
  have hgb := h.map.lt
  have HH := Lib.hid h
  clear h
  refine callsIn_of_wp_marks Tryz.func21 rfl trivial ?_ rfl
  simp only [Tryz.ntmps21, List.size_toArray, List.length_cons, List.length_nil, Nat.reduceAdd, Nat.reduceSub, Array.replicate_succ, Array.replicate_zero, List.push_toArray, List.append_toArray, List.nil_append, List.cons_append]
  gi_wp2_with (gi_at_call 44; refine (callsIn_wide.2 (all_box cb _)).mono ?_; rintro e w' ⟨rfl, rfl⟩)
  have bO := Boxed.new w 31 (.slice none 0 0)
  have bN := Boxed.new (w.alloc (.cells #[.slice none 0 0] 31)) 23 (.pointer (some ⟨cb, 0, none⟩))
  rw [World.size_alloc] at bN
  have hB0 : Below w.heap.size w ((w.alloc (.cells #[.slice none 0 0] 31)).alloc (.cells #[.pointer (some ⟨cb, 0, none⟩)] 23)) := ((Below.refl _ w).alloc (Nat.le_refl _) _).alloc (by simp) _
  have HBC : Hid (∃ cs t f, ((w.alloc (.cells #[.slice none 0 0] 31)).alloc (.cells #[.pointer (some ⟨cb, 0, none⟩)] 23)).heap[w.heap.size + 1]? = some (.cells cs t f)) := ⟨_, _, _, by have h9 := heap_new (w.alloc (.cells #[.slice none 0 0] 31)) (.cells #[.pointer (some ⟨cb, 0, none⟩)] 23) _ rfl; rw [World.size_alloc] at h9; exact h9⟩
  have hst := all_stops_g (B := w.heap.size + 1) (Kp := Kq w.heap.size w.heap.size) (HH.out.keep (K0.of_below hB0)) hl hks bN.cell (by simp) (iterK_names hcb hgb (by omega) (bO.alloc _).cell (by simp; omega) HBC.out) (6 - 1) (by omega)
  refine wpIn_rangeFunc_ownF rfl h1 (gf := 73) (lb := #[.pointer (some ⟨w.heap.size + 1, 0, none⟩)]) rfl trivial (enters_of Tryz.func73 (by kernel_rfl) rfl) hst Kq.t (Kq.b (by simp; omega)) (Below.refl _ _) (fun _ => rfl)
    (fun pre W => (∃ v, Boxed W w.heap.size 31 v ∧ W.ownsRow w.heap.size 9 1 v pre.length (pre.map fun x => .string x.1.1) ∧ True) ∧ Below w.heap.size w W) (fun _ _ _ => False)
    (OwnFrom.and (Own.from (holdsRow_own w.heap.size w.heap.size 31 9 1 (fun pre : List (EntP (avals gptr Y.L)) => pre.length) (fun pre => pre.map fun x => .string x.1.1) (fun _ _ => True)) _) (ownFrom_below (Nat.le_refl _) (by simp; omega)))
    (fun _ _ _ _ _ hs _ _ => hs) ⟨⟨_, bO.alloc _, World.ownsRow_nil _ _ _ _, trivial⟩, hB0⟩
    (fun x => { tmps := #[.pointer (some ⟨cb, 0, none⟩), undef, .slice none 0 0, .pointer (some ⟨w.heap.size, 0, none⟩), .string x.1.1, .pointer (some ⟨cb, 0, none⟩), .func (.func 73) #[] #[.pointer (some ⟨w.heap.size + 1, 0, none⟩)], .string x.1.1, x.1.2, undef, undef, undef, undef, undef], defers := [] }) ?assign ?body ?done ?stop
  case assign =>
    intro l x W K hK
    dsimp only [encE]
    gi_wp2
    exact hK
  case body =>
    rintro l pre x W ⟨⟨v, hv, hrow, _⟩, hB⟩ hlt
    have hc := hv.cell
    clear hst
    gi_wp2_with (gi_at_builtin; refine wpListIn_append_own_at _ rfl _ _ 31 rfl w.heap.size 9 i0 (.string ⟨#[]⟩) 1 16 Tryz.underlying31 hi hz0 hz1 hz2 rfl (by decide) _ _ _ rfl (hrow.alloc _) ⟨W.heap.size, 0, none⟩ 1 1 [.string x.1.1] rfl rfl (cell_one_new _ _ _) (by simp [Value.oneCell']) (by unfold maxLen; omega) (by omega) (by have := hB.size; simp; omega) ?_; intro v' w1 hown' hgrow _ hfr; obtain ⟨g', cap', rfl⟩ := ownsRow_succ hown'; obtain ⟨hv1, hv2, hr2, hk2, hb2⟩ := hv.appended (by decide) hrow hB.size (Nat.le_refl _) hown' hgrow; have hc1 := hv1.cell; have hf1 := hv1.frozen)
    exact ⟨hk2, kq_body hv.cell hv2.cell hgrow hfr hb2, ⟨_, hv2, by simpa using hr2, trivial⟩, hB.trans hb2⟩
  case done =>
    rintro D xs W hD hxs ⟨⟨v, hv, hrow, _⟩, hB⟩ hK
    obtain ⟨a, c, rfl⟩ : ∃ a c, v = .slice a xs.length c := y_own_slice hrow
    have HROW := Lib.hid hrow
    have hc := hv.cell
    clear hst
    gi_wp2
    refine ⟨by simp, Or.inl ⟨_, _, rfl, run_takeDeferred hK, ?_⟩⟩
    refine ⟨_, results_tmp rfl _ _ _, xs.map (fun x => x.1.1), hxs, _, rfl, ?_, K0.of_below (hB.trans (belowK_b (w := w) (Nat.le_refl _) W D _ _ (by simp at hD; omega) hK rfl rfl))⟩
    have h9 := HROW.out
    rw [List.length_map, List.map_map]
    exact y_row_putObj h9 hK rfl
  case stop =>
    rintro D c pre W _ _ h _
    exact h.elim
end Go.Proofs.YtklhlffdpojkoaaGreat
