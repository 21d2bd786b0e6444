/-
  Maps in memory as association lists, over any program: a look-up, a store, a delete, a length, and what keeps a map as it is. No program's text is used.
-/
import Derived.WalkKit
import Derived.Maps.OwnSet
namespace Go.Proofs.Ytbjpifipjcfhkaa.Fx
open Go.RowKit Go.MapKept

/-- The value at a key. -/
def aget {κ α : Type} [DecidableEq κ] : List (κ × α) → κ → Option α
  | [], _ => none
  | (k, v) :: r, x => if k = x then some v else aget r x
/-- A value put at a key: in its place, or at the end. -/
def aput {κ α : Type} [DecidableEq κ] : List (κ × α) → κ → α → List (κ × α)
  | [], x, v => [(x, v)]
  | (k, u) :: r, x, v => if k = x then (k, v) :: r else (k, u) :: aput r x v
/-- A key struck. -/
def adel {κ α : Type} [DecidableEq κ] : List (κ × α) → κ → List (κ × α)
  | [], _ => []
  | (k, u) :: r, x => if k = x then r else (k, u) :: adel r x

/-- How plain keys (numbers, texts) of a type lie in memory. -/
structure KeyB (P : Program) (kt : TypeId) (κ : Type) where
  d : TypeDesc
  under : P.underlying kt = some d
  enc : κ → Value
  isKey : ∀ x, IsKey d (enc x)
  inj : ∀ x y, enc x = enc y → x = y
/-- How keys of a type lie in memory, and that they are found. -/
structure KeyEnc (P : Program) (kt : TypeId) (κ : Type) [DecidableEq κ] where
  enc : κ → Value
  inj : ∀ x y, enc x = enc y → x = y
  check : ∀ (w : World) (em : Bool) (x : κ), (Instr.checkKey em 10000 kt (enc x)).run P w = .ok () w
  find : ∀ (w : World) (x : κ) {es : List MapEntry} {L : List (κ × Value)}, es.map (fun x => (x.key, x.val)) = L.map (fun p => (enc p.1, p.2)) →
    (Instr.findKey kt (enc x) es).run P w = .ok ((aget L x).map fun v => ((L.findIdx fun p => p.1 = x), v)) w
  stays : ∀ (w : World) (x : κ), (Instr.keyThatStays (enc x) (enc x)).run P w = .ok (enc x) w

section
variable {P : Program} {kt : TypeId} {κ : Type} [DecidableEq κ] (E : KeyB P kt κ) {L : List (κ × Value)}
theorem sameNow_enc (x y : κ) : Instr.sameNow E.d (E.enc x) (E.enc y) = some (decide (x = y)) := by
  obtain ⟨r, hr, hiff⟩ := sameNow_of_keys (E.isKey x) (E.isKey y)
  rw [hr]
  by_cases h : x = y
  · subst h; rw [hiff.2 rfl]; simp
  · cases r
    · simp [h]
    · exact absurd (E.inj _ _ (hiff.1 rfl)) h

theorem findNow_enc (x : κ) : ∀ (es : List MapEntry) (L : List (κ × Value)) (i : Nat), es.map (fun x => (x.key, x.val)) = L.map (fun p => (E.enc p.1, p.2)) →
    Instr.findNow E.d (E.enc x) es i = some ((aget L x).map fun v => (i + (L.findIdx fun p => p.1 = x), v)) := by
  intro es
  induction es with
  | nil => intro L i h; cases L <;> simp_all [Instr.findNow, aget]
  | cons e es ih =>
    intro L i h
    cases L with
    | nil => simp at h
    | cons p L =>
      simp only [List.map_cons, List.cons.injEq] at h
      obtain ⟨h1, h2⟩ := h
      have hk : e.key = E.enc p.1 := congrArg Prod.fst h1
      have hv : e.val = p.2 := congrArg Prod.snd h1
      obtain ⟨k, v⟩ := p
      simp only at hk hv
      simp only [Instr.findNow, hk, sameNow_enc]
      by_cases hx : x = k
      · subst hx; simp [aget, hv, List.findIdx_cons]
      · have hx' : ¬ k = x := fun e => hx e.symm
        simp [hx, ih L (i + 1) h2, aget, hx', List.findIdx_cons]
        cases aget L x <;> simp
        omega

omit [DecidableEq κ] in
theorem checkKey_enc (w : World) (em : Bool) (x : κ) : (Instr.checkKey em 10000 kt (E.enc x)).run P w = .ok () w :=
  run_checkKey E.under (E.isKey x) em 9999

theorem findKey_enc (w : World) (x : κ) {es : List MapEntry} (h : es.map (fun x => (x.key, x.val)) = L.map (fun p => (E.enc p.1, p.2))) :
    (Instr.findKey kt (E.enc x) es).run P w = .ok ((aget L x).map fun v => ((L.findIdx fun p => p.1 = x), v)) w := by
  have := findNow_enc E x es L 0 h
  simp only [Nat.zero_add] at this
  exact run_findKey E.under this
/-- Plain keys are found. -/
def KeyB.key : KeyEnc P kt κ := ⟨E.enc, E.inj, fun w em x => checkKey_enc E w em x, fun w x => findKey_enc E w x, fun _ x => run_keyThatStays (E.isKey x)⟩
end
def strKey {P : Program} {kt : TypeId} (h : P.underlying kt = some .string) : KeyEnc P kt ByteArray :=
  KeyB.key ⟨.string, h, .string, fun _ => trivial, fun _ _ e => by cases e; rfl⟩
def intKey {P : Program} {kt : TypeId} {q : IntKind} (h : P.underlying kt = some (.int q)) : KeyEnc P kt Int :=
  KeyB.key ⟨.int q, h, .int q, fun _ => rfl, fun _ _ e => by cases e; rfl⟩

section
variable {P : Program} {kt : TypeId} {κ : Type} [DecidableEq κ]

/-- Block b is a map with the entries L, in the order in which they were made. -/
def MapAt (e : κ → Value) (w : World) (b : Nat) (L : List (κ × Value)) : Prop :=
  ∃ es clock, w.heap[b]? = some (.map es clock) ∧ Stamped es clock ∧ es.toList.map (fun x => (x.key, x.val)) = L.map (fun p => (e p.1, p.2))

variable (E : KeyEnc P kt κ) {w : World} {b : Nat} {L : List (κ × Value)}

omit [DecidableEq κ] in
theorem MapAt.lt {e : κ → Value} (h : MapAt e w b L) : b < w.heap.size := by
  obtain ⟨es, clock, hb, _⟩ := h
  exact (Array.getElem?_eq_some_iff.1 hb).1
omit [DecidableEq κ] in
theorem MapAt.of_block {e : κ → Value} {w' : World} (h : MapAt e w b L) (hb : w'.heap[b]? = w.heap[b]?) : MapAt e w' b L := by
  obtain ⟨es, clock, h1, h2⟩ := h
  exact ⟨es, clock, hb.trans h1, h2⟩
omit [DecidableEq κ] in
theorem mapAt_new {e : κ → Value} (w : World) : MapAt e (w.alloc (.map #[] 0)) w.heap.size [] :=
  ⟨#[], 0, (MapKept.heap_alloc w _).1, stamped_empty 0, rfl⟩

omit [DecidableEq κ] in
theorem keys_of {e : κ → Value} {es : List MapEntry} : ∀ {L : List (κ × Value)}, es.map (fun x => (x.key, x.val)) = L.map (fun p => (e p.1, p.2)) → ∀ x ∈ es, ∃ k, x.key = e k := by
  intro L h x hx
  have : (x.key, x.val) ∈ L.map (fun p => (e p.1, p.2)) := h ▸ List.mem_map.2 ⟨x, hx, rfl⟩
  obtain ⟨p, _, hp⟩ := List.mem_map.1 this
  exact ⟨p.1, (congrArg Prod.fst hp).symm⟩

theorem aget_none {α : Type} {L : List (κ × α)} {x : κ} (h : aget L x = none) : ∀ p ∈ L, p.1 ≠ x := by
  induction L with
  | nil => simp
  | cons p L ih =>
    obtain ⟨k, v⟩ := p
    simp only [aget] at h
    split at h
    · cases h
    · rename_i hk
      intro q hq
      cases hq with
      | head => exact hk
      | tail _ hq => exact ih h q hq

/-- 'm[k]', 'v, ok := m[k]'. -/
theorem MapAt.look {t et : TypeId} (h : MapAt E.enc w b L) (ht : P.underlying t = some (.map kt et)) {z : Value} (hz : (zeroValue et).run P w = .ok z w) (x : κ) (c : Bool) :
    (Instr.lookup t (.map (some b)) (E.enc x) c).run P w = .ok (if c then .tuple #[(aget L x).getD z, .bool (aget L x).isSome] else (aget L x).getD z) w := by
  obtain ⟨es, clock, hb, hs, hL⟩ := h
  have hf := E.find w x hL
  cases hg : aget L x with
  | none =>
    rw [hg] at hf
    cases c <;> simp [Instr.lookup, run_underlying ht, MapKept.run_getObj_map hb, E.check, hf, hz, Result.andThen]
  | some v =>
    rw [hg] at hf
    cases c <;> simp [Instr.lookup, run_underlying ht, MapKept.run_getObj_map hb, E.check, hf, Result.andThen]
/-- A look-up in a nil map. -/
theorem look_nil {t et : TypeId} (ht : P.underlying t = some (.map kt et)) {z : Value} (hz : (zeroValue et).run P w = .ok z w) (x : κ) (c : Bool) :
    (Instr.lookup t (.map none) (E.enc x) c).run P w = .ok (if c then .tuple #[z, .bool false] else z) w := by
  have hf := E.find (L := []) w x (es := []) rfl
  cases c <;> simp [Instr.lookup, run_underlying ht, E.check, hf, aget, hz, Result.andThen]
omit [DecidableEq κ] in
/-- 'len(m)'. -/
theorem MapAt.len {e : κ → Value} {t et : TypeId} (h : MapAt e w b L) (ht : P.underlying t = some (.map kt et)) (ty : TypeId) :
    (Builtin.len_ #[t] ty #[.map (some b)]).run P w = .ok (.int .i64 L.length) w := by
  obtain ⟨es, clock, hb, hs, hL⟩ := h
  have e1 : es.size = L.length := by have := congrArg List.length hL; simpa using this
  simp [Builtin.len_, run_underlying ht, MapKept.run_getObj_map hb, goInt, Result.andThen, e1]

/-- Block b of w turned into o. -/
def setObjAt (w : World) (b : Nat) (o : Obj) : World := { w with heap := w.heap.setIfInBounds b o }
theorem setObjAt_other (w : World) {b b' : Nat} (o : Obj) (h : b' ≠ b) : (setObjAt w b o).heap[b']? = w.heap[b']? := by
  simp [setObjAt, Ne.symm h]
theorem setObjAt_size (w : World) (b : Nat) (o : Obj) : (setObjAt w b o).heap.size = w.heap.size := by simp [setObjAt]

theorem findIdx_lt {α : Type} {L : List (κ × α)} {x : κ} {v : α} (h : aget L x = some v) : (L.findIdx fun p => p.1 = x) < L.length := by
  induction L with
  | nil => simp [aget] at h
  | cons p L ih =>
    obtain ⟨k, u⟩ := p
    simp only [aget] at h
    split at h
    · rename_i hk; simp [List.findIdx_cons, hk]
    · rename_i hk; simp [List.findIdx_cons, hk, ih h]

theorem get_findIdx {α : Type} {L : List (κ × α)} {x : κ} {v : α} (h : aget L x = some v) : L[(L.findIdx fun p => p.1 = x)]? = some (x, v) := by
  induction L with
  | nil => simp [aget] at h
  | cons p L ih =>
    obtain ⟨k, u⟩ := p
    simp only [aget] at h
    split at h
    · rename_i hk; subst hk; simp at h; subst h; simp [List.findIdx_cons]
    · rename_i hk; simp [List.findIdx_cons, hk, ih h]

theorem aput_mod {α : Type} {L : List (κ × α)} {x : κ} {v u : α} (h : aget L x = some u) : aput L x v = L.modify (L.findIdx fun p => p.1 = x) fun p => (p.1, v) := by
  induction L with
  | nil => simp [aget] at h
  | cons p L ih =>
    obtain ⟨k, u⟩ := p
    simp only [aget] at h
    split at h
    · rename_i hk; subst hk; simp [aput, List.findIdx_cons]
    · rename_i hk; simp [aput, List.findIdx_cons, hk, ih h]
theorem aput_new {α : Type} {L : List (κ × α)} {x : κ} {v : α} (h : aget L x = none) : aput L x v = L ++ [(x, v)] := by
  induction L with
  | nil => simp [aput]
  | cons p L ih =>
    obtain ⟨k, u⟩ := p
    simp only [aget] at h
    split at h
    · cases h
    · rename_i hk; simp [aput, hk, ih h]
theorem adel_erase {α : Type} {L : List (κ × α)} {x : κ} {u : α} (h : aget L x = some u) : adel L x = L.eraseIdx (L.findIdx fun p => p.1 = x) := by
  induction L with
  | nil => simp [aget] at h
  | cons p L ih =>
    obtain ⟨k, u⟩ := p
    simp only [aget] at h
    split at h
    · rename_i hk; subst hk; simp [adel, List.findIdx_cons]
    · rename_i hk; simp [adel, List.findIdx_cons, hk, ih h]
theorem adel_none {α : Type} {L : List (κ × α)} {x : κ} (h : aget L x = none) : adel L x = L := by
  induction L with
  | nil => simp [adel]
  | cons p L ih =>
    obtain ⟨k, u⟩ := p
    simp only [aget] at h
    split at h
    · cases h
    · rename_i hk; simp [adel, hk, ih h]

/-- 'm[k] = v'. -/
theorem MapAt.put {t et : TypeId} (h : MapAt E.enc w b L) (ht : P.underlying t = some (.map kt et)) (x : κ) (v : Value) :
    ∃ o, (Instr.mapUpdate t (.map (some b)) (E.enc x) v).run P w = .ok () (setObjAt w b o) ∧ MapAt E.enc (setObjAt w b o) b (aput L x v) := by
  have hlt := h.lt
  obtain ⟨es, clock, hb, hs, hL⟩ := h
  have hf := E.find w x hL
  have hsame : ∀ o, (setObjAt w b o).heap[b]? = some o := fun o => by simp [setObjAt, hlt]
  cases hg : aget L x with
  | none =>
    rw [hg] at hf
    refine ⟨.map (es.push { key := E.enc x, val := v, born := clock }) (clock + 1), ?_, _, _, hsame _, stamped_push hs ?_, ?_⟩
    · simp [Instr.mapUpdate, run_underlying ht, MapKept.run_getObj_map hb, E.check, hf, run_setObj_map _ hb, Result.andThen, setObjAt]
    · intro y hy
      have hmem : (y.key, y.val) ∈ L.map (fun p => (E.enc p.1, p.2)) := hL ▸ List.mem_map.2 ⟨y, hy, rfl⟩
      obtain ⟨p, hp, hpe⟩ := List.mem_map.1 hmem
      intro e
      have : E.enc p.1 = E.enc x := (congrArg Prod.fst hpe).trans e
      exact aget_none hg p hp (E.inj _ _ this)
    · simp [hL, aput_new hg]
  | some u =>
    rw [hg] at hf
    simp only [Option.map_some] at hf
    have hi := get_findIdx hg
    have hi' : es[(L.findIdx fun p => p.1 = x)]?.map (fun y => (y.key, y.val)) = some (E.enc x, u) := by
      have := congrArg (fun l => l[(L.findIdx fun p => p.1 = x)]?) hL
      simp only [List.getElem?_map, Array.getElem?_toList, hi, Option.map_some] at this
      exact this
    obtain ⟨y, hy, hye⟩ := Option.map_eq_some_iff.1 hi'
    have hyk : y.key = E.enc x := congrArg Prod.fst hye
    refine ⟨.map (es.modify (L.findIdx fun p => p.1 = x) fun e => { e with key := E.enc x, val := v }) clock, ?_, _, _, hsame _, stamped_modify hs _ _ (fun _ _ => rfl) ?_, ?_⟩
    · simp [Instr.mapUpdate, run_underlying ht, MapKept.run_getObj_map hb, E.check, hf, run_setObj_map _ hb, Result.andThen, setObjAt, hy, hyk, E.stays]
    · intro e _ he
      rw [hy] at he
      cases he
      exact hyk.symm
    · rw [aput_mod hg]
      apply List.ext_getElem?
      intro j
      have hj := congrArg (fun l => l[j]?) hL
      simp only [List.getElem?_map, Array.getElem?_toList, Array.getElem?_modify, List.getElem?_modify] at hj ⊢
      by_cases hij : (L.findIdx fun p => p.1 = x) = j
      · subst hij
        simp [hy, hi]
      · simp [hij, hj]
theorem map_eraseIdx' {α β : Type} (f : α → β) : ∀ (l : List α) (i : Nat), (l.eraseIdx i).map f = (l.map f).eraseIdx i
  | [], _ => by simp
  | _ :: _, 0 => by simp
  | _ :: l, i + 1 => by simp [map_eraseIdx' f l i]
/-- 'delete(m, k)'. -/
theorem MapAt.del {t et : TypeId} (h : MapAt E.enc w b L) (ht : P.underlying t = some (.map kt et)) (x : κ) (ty : TypeId) (ts : TypeId) :
    ∃ o, (Builtin.delete_ #[t, ts] ty #[.map (some b), E.enc x]).run P w = .ok (.tuple #[]) (setObjAt w b o) ∧ MapAt E.enc (setObjAt w b o) b (adel L x) := by
  have hlt := h.lt
  obtain ⟨es, clock, hb, hs, hL⟩ := h
  have hf := E.find w x hL
  have hsame : ∀ o, (setObjAt w b o).heap[b]? = some o := fun o => by simp [setObjAt, hlt]
  cases hg : aget L x with
  | none =>
    rw [hg] at hf
    refine ⟨.map es clock, ?_, _, _, hsame _, hs, ?_⟩
    · simp [Builtin.delete_, run_underlying ht, MapKept.run_getObj_map hb, E.check, hf, run_setObj_map _ hb, Result.andThen, setObjAt]
    · rw [adel_none hg]; exact hL
  | some u =>
    rw [hg] at hf
    simp only [Option.map_some] at hf
    refine ⟨.map (es.eraseIdxIfInBounds (L.findIdx fun p => p.1 = x)) clock, ?_, _, _, hsame _, stamped_erase hs _, ?_⟩
    · simp [Builtin.delete_, run_underlying ht, MapKept.run_getObj_map hb, E.check, hf, run_setObj_map _ hb, Result.andThen, setObjAt]
    · have hi := findIdx_lt hg
      have e1 : es.size = L.length := by have := congrArg List.length hL; simpa using this
      rw [adel_erase hg]
      have : (es.eraseIdxIfInBounds (L.findIdx fun p => p.1 = x)).toList = es.toList.eraseIdx (L.findIdx fun p => p.1 = x) := by
        simp only [Array.eraseIdxIfInBounds]
        rw [dif_pos (by omega)]
        simp [Array.toList_eraseIdx]
      rw [this]
      rw [map_eraseIdx', map_eraseIdx', hL]
end
end Go.Proofs.Ytbjpifipjcfhkaa.Fx
