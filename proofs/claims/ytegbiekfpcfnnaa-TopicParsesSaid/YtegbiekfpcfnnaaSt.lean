/-
  slices.Sorted(maps.Keys(m)) at a map that is an association list with texts as keys.
-/
import Derived.Test.YtegbiekfpcfnnaaSk
import Derived.Test.YtegbiekfpcfnnaaMl
import Derived.WalkKit
namespace Go.Proofs.Ytegbiekfpcfnnaa
open Go.RowKit Go.Maps Go.Sort Go.WideElems Go.ChangeShapes Go.WideShapes Go.ChangeMaps Fx

def bytesOf (l : List UInt8) : ByteArray := ⟨l.toArray⟩
def anyR : Value → Option (DataW Unit × List MemPlace) := fun _ => some (.lit (.bool true), [])
theorem keyOf_text (s : ByteArray) (hs : s.size ≤ maxLen) : keyOf Try.prog 9 (.string s) = some (.string s.data.toList) := by
  simp [keyOf, Try.underlying9, mapKey, hs]
/-- The kit's word for such a map. -/
theorem owns_of {w : World} {mb : Nat} {L : List (ByteArray × Value)} (h : MapAt .string w mb L) (hs : ∀ p ∈ L, p.1.size ≤ 100000) (hl : L.length ≤ 100000) :
    ∃ D0 : DataW Unit, w.ownsMap Try.prog 9 anyR mb L.length D0 ∧ Maps.size D0 = L.length ∧ (strKeys D0).Perm (L.map fun p => p.1.data.toList) := by
  obtain ⟨es, clock, hb, hst, hL⟩ := h
  have hlen : es.size = L.length := by have := congrArg List.length hL; simpa using this
  have hkey : ∀ x ∈ es.toList, ∃ p ∈ L, x.key = .string p.1 := fun x hx => by
    have : (x.key, x.val) ∈ L.map (fun p => (Value.string p.1, p.2)) := hL ▸ List.mem_map.2 ⟨x, hx, rfl⟩
    obtain ⟨p, hp, e⟩ := List.mem_map.1 this
    exact ⟨p, hp, (congrArg Prod.fst e).symm⟩
  have hrd : ∀ x ∈ es.toList, ∀ p ∈ L, x.key = .string p.1 → rd Try.prog 9 anyR x = some (.string p.1.data.toList, .lit (.bool true)) := fun x hx p hp e => by
    have hk : keyOf Try.prog 9 x.key = some (.string p.1.data.toList) := by rw [e]; exact keyOf_text _ (by have := hs p hp; unfold maxLen; omega)
    unfold WideElems.rd
    rw [hk]
    rfl
  have hperm : ((es.toList.map (rg Try.prog 9 anyR)).foldr DataW.insert []).Perm (es.toList.map (rg Try.prog 9 anyR)) := sorted_perm _
  refine ⟨_, ⟨es, clock, hb, ⟨by unfold maxLen; omega, hst, fun x hx => ?_⟩, by omega, rfl⟩, ?_, ?_⟩
  · obtain ⟨p, hp, e⟩ := hkey x hx
    exact ⟨_, hrd x hx p hp e⟩
  · show ((es.toList.map (rg Try.prog 9 anyR)).foldr DataW.insert []).length = L.length
    rw [hperm.length_eq]
    simpa using hlen
  · have h1 : ((((es.toList.map (rg Try.prog 9 anyR)).foldr DataW.insert [])).map fun p => Go.strOf p.1).Perm ((es.toList.map (rg Try.prog 9 anyR)).map fun p => Go.strOf p.1) := hperm.map _
    have h2 : ((es.toList.map (rg Try.prog 9 anyR)).map fun p => Go.strOf p.1) = L.map fun p => p.1.data.toList := by
      have h3 : es.toList.map (fun x => (rg Try.prog 9 anyR x).1) = L.map fun p => Lit.string p.1.data.toList := by
        have h4 : es.toList.map (fun x => (rg Try.prog 9 anyR x).1) = (es.toList.map fun x => (x.key, x.val)).map fun p => (match p.1 with | .string s => Lit.string s.data.toList | _ => .bool false) := by
          rw [List.map_map]
          apply List.map_congr_left
          intro x hx
          obtain ⟨p, hp, e⟩ := hkey x hx
          simp [WideElems.rg, hrd x hx p hp e, e]
        rw [h4, hL, List.map_map]
        rfl
      have h5 := congrArg (List.map Go.strOf) h3
      rw [List.map_map, List.map_map] at h5
      rw [List.map_map]
      exact h5
    rw [h2] at h1
    exact h1
theorem keys_any (mb : Option Nat) (W : World) : Calls Try.prog 34 #[.map mb] W fun e w' => e = .returned (.func (.func 41) #[] #[.pointer (some ⟨W.heap.size, 0, none⟩)]) ∧ w' = W.alloc (.cells #[.map mb] 54) := callsIn_wide.1 (skKeys mb W)
/-- A list of names in order, the row of them new. -/
structure NamesAt (base : Nat) (w' : World) (v : Value) (ss : List ByteArray) (L : List (ByteArray × Value)) : Prop where
  perm : ss.Perm (L.map (·.1))
  row : w'.ownsRow base 9 1 v ss.length (ss.map .string)
  ord : (ss.map fun s => s.data.toList).Pairwise (fun x y => x ≤ y)
  nil : v = .slice none 0 0 ↔ ss = []
theorem sorted_any {w : World} {mb : Nat} {L : List (ByteArray × Value)} (h : MapAt .string w mb L) (hs : ∀ p ∈ L, p.1.size ≤ 100000) (hl : L.length ≤ 100000) :
    Calls Try.prog 33 #[.func (.func 41) #[] #[.pointer (some ⟨w.heap.size, 0, none⟩)]] (w.alloc (.cells #[.map (some mb)] 54)) fun e w' => ∃ v ss, e = .returned v ∧ NamesAt (w.heap.size + 1) w' v ss L ∧ K0 (w.alloc (.cells #[.map (some mb)] 54)) w' := by
  obtain ⟨D0, h1, h2, h3⟩ := owns_of h hs hl
  refine (callsIn_wide.1 (skSorted mb L.length D0 anyR w h1 (by rw [h2]; unfold maxLen; omega) (by rw [h2]; omega))).mono ?_
  rintro e w' ⟨v, ss, rfl, hp, hr, hn, hb⟩
  have hperm : (ss.mergeSort (fun x y => decide (x ≤ y))).Perm ss := List.mergeSort_perm _ _
  have hlen : (ss.mergeSort (fun x y => decide (x ≤ y))).length = ss.length := hperm.length_eq
  have hid : ((ss.mergeSort (fun x y => decide (x ≤ y))).map bytesOf).map (fun s => s.data.toList) = ss.mergeSort (fun x y => decide (x ≤ y)) := by
    rw [List.map_map]
    conv => rhs; rw [← List.map_id (ss.mergeSort (fun x y => decide (x ≤ y)))]
    apply List.map_congr_left
    intro x _
    simp [bytesOf]
  have hsz : (w.alloc (.cells #[.map (some mb)] 54)).heap.size = w.heap.size + 1 := by simp
  refine ⟨v, (ss.mergeSort (fun x y => decide (x ≤ y))).map bytesOf, rfl, ⟨?_, ?_, ?_, ?_⟩, ?_⟩
  · have h4 : ((ss.mergeSort (fun x y => decide (x ≤ y))).map bytesOf).Perm ((L.map fun p => p.1.data.toList).map bytesOf) := (hperm.trans (hp.trans h3)).map _
    rw [List.map_map] at h4
    refine h4.trans (List.Perm.of_eq ?_)
    apply List.map_congr_left
    intro p _
    simp [bytesOf]
  · rw [List.length_map, hlen, List.map_map]
    rw [hsz] at hr
    exact hr
  · rw [hid]
    have := List.pairwise_mergeSort (le := fun x y : List UInt8 => decide (x ≤ y)) (fun a b c => by simpa using List.le_trans) (fun a b => by simpa using List.le_total a b) ss
    exact this.imp (fun h => of_decide_eq_true h)
  · rw [hn]
    constructor
    · rintro rfl; simp
    · intro e
      have := congrArg List.length e
      simp [hlen] at this
      exact this
  · exact K0.of_below hb
end Go.Proofs.Ytegbiekfpcfnnaa
