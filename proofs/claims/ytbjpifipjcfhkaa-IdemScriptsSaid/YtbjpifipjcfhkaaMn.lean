/-
  Maps at regions that draw their order: a look-up, a length, a store as equations in every world with the same heap.
-/
import Derived.Test.YtbjpifipjcfhkaaMq
namespace Go.Proofs.Ytbjpifipjcfhkaa.Fx
open Go.RowKit Go.MapKept
section
variable {P : Program} {kt : TypeId} {κ : Type} [DecidableEq κ] (E : KeyEnc P kt κ) {w : World} {b : Nat} {L : List (κ × Value)}
theorem MapAt.look_all {t et : TypeId} (h : MapAt E.enc w b L) (ht : P.underlying t = some (.map kt et)) {z : Value} (hz : ∀ w, (zeroValue et).run P w = .ok z w) (x : κ) (c : Bool) {v : Option Value} (hv : aget L x = v) :
    ∀ w', w'.heap = w.heap → (Instr.lookup t (.map (some b)) (E.enc x) c).run P w' = .ok (if c then .tuple #[v.getD z, .bool v.isSome] else v.getD z) w' := fun w' e => by
  subst hv
  exact (h.of_block (by rw [e])).look E ht (hz w') x c
omit [DecidableEq κ] in
theorem MapAt.len_all {e : κ → Value} {t et : TypeId} (h : MapAt e w b L) (ht : P.underlying t = some (.map kt et)) (ty : TypeId) :
    ∀ w', w'.heap = w.heap → (Builtin.len_ #[t] ty #[.map (some b)]).run P w' = .ok (.int .i64 L.length) w' := fun w' e => (h.of_block (by rw [e])).len ht ty
/-- 'm[k] = v': one block, in every world with this heap. -/
theorem MapAt.put_all {t et : TypeId} (h : MapAt E.enc w b L) (ht : P.underlying t = some (.map kt et)) (x : κ) (v : Value) :
    ∃ o, (∀ w', w'.heap[b]? = w.heap[b]? → (Instr.mapUpdate t (.map (some b)) (E.enc x) v).run P w' = .ok () (setObjAt w' b o)) ∧ ∀ w', w'.heap[b]? = w.heap[b]? → MapAt E.enc (setObjAt w' b o) b (aput L x v) := by
  have hlt := h.lt
  obtain ⟨es, clock, hb, hs, hL⟩ := h
  have hf := fun w' => E.find w' x hL
  have hsame : ∀ (w' : World) o, w'.heap[b]? = w.heap[b]? → (setObjAt w' b o).heap[b]? = some o := fun w' o e => by
    have : b < w'.heap.size := (Array.getElem?_eq_some_iff.1 (e.trans hb)).1
    simp [setObjAt, this]
  cases hg : aget L x with
  | none =>
    rw [hg] at hf
    refine ⟨.map (es.push { key := E.enc x, val := v, born := clock }) (clock + 1), fun w' e => ?_, fun w' e => ⟨_, _, hsame _ _ e, stamped_push hs ?_, ?_⟩⟩
    · simp [Instr.mapUpdate, run_underlying ht, MapKept.run_getObj_map (e.trans hb), E.check, hf, run_setObj_map _ (e.trans hb), Result.andThen, setObjAt]
    · intro y hy
      have hmem : (y.key, y.val) ∈ L.map (fun p => (E.enc p.1, p.2)) := hL ▸ List.mem_map.2 ⟨y, hy, rfl⟩
      obtain ⟨p, hp, hpe⟩ := List.mem_map.1 hmem
      intro e
      have : E.enc p.1 = E.enc x := (congrArg Prod.fst hpe).trans e
      exact aget_none hg p hp (E.inj _ _ this)
    · simp [hL, aput_new hg]
  | some u =>
    rw [hg] at hf
    simp only [Option.map_some] at hf
    have hi := get_findIdx hg
    have hi' : es[(L.findIdx fun p => p.1 = x)]?.map (fun y => (y.key, y.val)) = some (E.enc x, u) := by
      have := congrArg (fun l => l[(L.findIdx fun p => p.1 = x)]?) hL
      simp only [List.getElem?_map, Array.getElem?_toList, hi, Option.map_some] at this
      exact this
    obtain ⟨y, hy, hye⟩ := Option.map_eq_some_iff.1 hi'
    have hyk : y.key = E.enc x := congrArg Prod.fst hye
    refine ⟨.map (es.modify (L.findIdx fun p => p.1 = x) fun e => { e with key := E.enc x, val := v }) clock, fun w' e => ?_, fun w' e => ⟨_, _, hsame _ _ e, stamped_modify hs _ _ (fun _ _ => rfl) ?_, ?_⟩⟩
    · simp [Instr.mapUpdate, run_underlying ht, MapKept.run_getObj_map (e.trans hb), E.check, hf, run_setObj_map _ (e.trans hb), Result.andThen, setObjAt, hy, hyk, E.stays]
    · intro e _ he
      rw [hy] at he
      cases he
      exact hyk.symm
    · rw [aput_mod hg]
      apply List.ext_getElem?
      intro j
      have hj := congrArg (fun l => l[j]?) hL
      simp only [List.getElem?_map, Array.getElem?_toList, Array.getElem?_modify, List.getElem?_modify] at hj ⊢
      by_cases hij : (L.findIdx fun p => p.1 = x) = j
      · subst hij
        simp [hy, hi]
      · simp [hij, hj]
end
/-- The values of an association list under a map on values. -/
def avals {κ α : Type} (f : α → Value) (l : List (κ × α)) : List (κ × Value) := l.map fun p => (p.1, f p.2)
theorem aget_avals {κ α : Type} [DecidableEq κ] (f : α → Value) (l : List (κ × α)) (s : κ) : aget (avals f l) s = (aget l s).map f := by
  induction l with
  | nil => rfl
  | cons p l ih =>
    obtain ⟨k, x⟩ := p
    simp only [avals, List.map_cons, aget] at ih ⊢
    by_cases h : k = s
    · simp [h]
    · simp only [h, if_false]; exact ih
theorem aput_avals {κ α : Type} [DecidableEq κ] (f : α → Value) (l : List (κ × α)) (s : κ) (x : α) : aput (avals f l) s (f x) = avals f (aput l s x) := by
  induction l with
  | nil => rfl
  | cons p l ih =>
    obtain ⟨k, u⟩ := p
    simp only [avals, List.map_cons, aput] at ih ⊢
    by_cases h : k = s
    · simp [h]
    · simp only [h, if_false, List.map_cons]; rw [ih]
theorem adel_avals {κ α : Type} [DecidableEq κ] (f : α → Value) (l : List (κ × α)) (s : κ) : adel (avals f l) s = avals f (adel l s) := by
  induction l with
  | nil => rfl
  | cons p l ih =>
    obtain ⟨k, u⟩ := p
    simp only [avals, List.map_cons, adel] at ih ⊢
    by_cases h : k = s
    · simp [h]
    · simp only [h, if_false, List.map_cons]; rw [ih]
theorem avals_len {κ α : Type} (f : α → Value) (l : List (κ × α)) : (avals f l).length = l.length := by simp [avals]
/-- Texts, empty or not. -/
theorem bytes_empty {s : ByteArray} (h : s.size = 0) : s.toList.isEmpty = true := by
  rw [List.isEmpty_iff, ByteArray.toList_eq, ← List.length_eq_zero_iff, Array.length_toList]
  exact h
theorem bytes_some {s : ByteArray} (h : ¬ s.size = 0) : s.toList.isEmpty = false := by
  cases hq : s.toList.isEmpty
  · rfl
  · rw [List.isEmpty_iff, ByteArray.toList_eq, ← List.length_eq_zero_iff, Array.length_toList] at hq
    exact absurd hq h
end Go.Proofs.Ytbjpifipjcfhkaa.Fx
