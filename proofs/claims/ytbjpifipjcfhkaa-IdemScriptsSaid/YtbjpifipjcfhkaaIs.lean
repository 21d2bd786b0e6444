/-
  slices.Sorted(maps.Keys(m)) at a map that is an association list with ints as keys.
-/
import Derived.Test.YtbjpifipjcfhkaaSk
import Derived.Test.YtbjpifipjcfhkaaMl
import Derived.WalkKit
namespace Go.Proofs.Ytbjpifipjcfhkaa
open Go.RowKit Go.Maps Go.Sort Go.WideElems Go.ChangeShapes Go.WideShapes Go.ChangeMaps Fx

def anyR : Value → Option (DataW Unit × List MemPlace) := fun _ => some (.lit (.bool true), [])
theorem keyOf_num (x : Int) (hs : (Lit.int .i64 x).wf = true) : keyOf Try.prog 3 (.int .i64 x) = some (.int .i64 x) := Maps.keyOf_int_mk Try.underlying3 hs
/-- The kit's word for such a map. -/
theorem owns_of {w : World} {mb : Nat} {L : List (Int × Value)} (h : MapAt (.int .i64) w mb L) (hs : ∀ p ∈ L, (Lit.int .i64 p.1).wf = true) (hl : L.length ≤ 100000) :
    ∃ D0 : DataW Unit, w.ownsMap Try.prog 3 anyR mb L.length D0 ∧ Maps.size D0 = L.length ∧ (intKeys D0).Perm (L.map fun p => p.1) := by
  obtain ⟨es, clock, hb, hst, hL⟩ := h
  have hlen : es.size = L.length := by have := congrArg List.length hL; simpa using this
  have hkey : ∀ x ∈ es.toList, ∃ p ∈ L, x.key = .int .i64 p.1 := fun x hx => by
    have : (x.key, x.val) ∈ L.map (fun p => (Value.int .i64 p.1, p.2)) := hL ▸ List.mem_map.2 ⟨x, hx, rfl⟩
    obtain ⟨p, hp, e⟩ := List.mem_map.1 this
    exact ⟨p, hp, (congrArg Prod.fst e).symm⟩
  have hrd : ∀ x ∈ es.toList, ∀ p ∈ L, x.key = .int .i64 p.1 → rd Try.prog 3 anyR x = some (.int .i64 p.1, .lit (.bool true)) := fun x hx p hp e => by
    have hk : keyOf Try.prog 3 x.key = some (.int .i64 p.1) := by rw [e]; exact keyOf_num _ (hs p hp)
    unfold WideElems.rd
    rw [hk]
    rfl
  have hperm : ((es.toList.map (rg Try.prog 3 anyR)).foldr DataW.insert []).Perm (es.toList.map (rg Try.prog 3 anyR)) := sorted_perm _
  refine ⟨_, ⟨es, clock, hb, ⟨by unfold maxLen; omega, hst, fun x hx => ?_⟩, by omega, rfl⟩, ?_, ?_⟩
  · obtain ⟨p, hp, e⟩ := hkey x hx
    exact ⟨_, hrd x hx p hp e⟩
  · show ((es.toList.map (rg Try.prog 3 anyR)).foldr DataW.insert []).length = L.length
    rw [hperm.length_eq]
    simpa using hlen
  · have h1 : ((((es.toList.map (rg Try.prog 3 anyR)).foldr DataW.insert [])).map fun p => Go.intOf p.1).Perm ((es.toList.map (rg Try.prog 3 anyR)).map fun p => Go.intOf p.1) := hperm.map _
    have h2 : ((es.toList.map (rg Try.prog 3 anyR)).map fun p => Go.intOf p.1) = L.map fun p => p.1 := by
      have h3 : es.toList.map (fun x => (rg Try.prog 3 anyR x).1) = L.map fun p => Lit.int .i64 p.1 := by
        have h4 : es.toList.map (fun x => (rg Try.prog 3 anyR x).1) = (es.toList.map fun x => (x.key, x.val)).map fun p => (match p.1 with | .int _ s => Lit.int .i64 s | _ => .bool false) := by
          rw [List.map_map]
          apply List.map_congr_left
          intro x hx
          obtain ⟨p, hp, e⟩ := hkey x hx
          simp [WideElems.rg, hrd x hx p hp e, e]
        rw [h4, hL, List.map_map]
        rfl
      have h5 := congrArg (List.map Go.intOf) h3
      rw [List.map_map, List.map_map] at h5
      rw [List.map_map]
      exact h5
    rw [h2] at h1
    exact h1
theorem keys_any (mb : Option Nat) (W : World) : Calls Try.prog 34 #[.map mb] W fun e w' => e = .returned (.func (.func 41) #[] #[.pointer (some ⟨W.heap.size, 0, none⟩)]) ∧ w' = W.alloc (.cells #[.map mb] 56) := callsIn_wide.1 (skKeys mb W)
/-- Sorted keys of a map with the one key x. -/
theorem sorted_one {w : World} {mb : Nat} {x : Int} {v : Value} (h : MapAt (.int .i64) w mb [(x, v)]) (hx : (Lit.int .i64 x).wf = true) :
    Calls Try.prog 33 #[.func (.func 41) #[] #[.pointer (some ⟨w.heap.size, 0, none⟩)]] (w.alloc (.cells #[.map (some mb)] 56)) fun e w' => ∃ g c, e = .returned (.slice (some ⟨g, 0, none⟩) 1 c) ∧ w'.cell? ⟨g, 0, none⟩ = some (.int .i64 x) ∧ g < w'.heap.size ∧ K0 (w.alloc (.cells #[.map (some mb)] 56)) w' := by
  obtain ⟨D0, h1, h2, h3⟩ := owns_of h (fun p hp => by simp at hp; subst hp; exact hx) (by simp)
  refine (callsIn_wide.1 (skSorted mb 1 D0 anyR w h1 (by rw [h2]; unfold maxLen; simp) (by rw [h2]; simp))).mono ?_
  rintro e w' ⟨v, ss, rfl, hp, hr, hn, hb⟩
  have hs : ss = [x] := by
    have := hp.trans h3
    simpa using this
  subst hs
  rcases hr.2 with ⟨_, h2⟩ | ⟨g, cp, cur, e1, h2, h4, h5⟩
  · simp at h2
  · subst e1
    refine ⟨g, cp, rfl, ?_, (Array.getElem?_eq_some_iff.1 h4).1, K0.of_below hb⟩
    rw [hr.cellAt 0 (by simp)]
    simp
end Go.Proofs.Ytbjpifipjcfhkaa
