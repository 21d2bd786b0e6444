/-
  Maps in memory as association lists, over any program: a look-up, a store, a delete, a length, and what keeps a map as it is. No program's text is used.
-/
import Derived.WalkKit
import Derived.Maps.OwnSet
import Derived.Deep.Draws
import Derived.Test.YtklhlffdpojkoaaGreatRows
import Derived.Laws.StructEq
import Derived.ProofKit
import Derived.Deep.Slices
import Derived.Deep.Strs
import Derived.SizedLaws
import Derived.WalkSpells
import Derived.WalkLawsBesides
import Derived.Deep.QuietTactic
import Derived.BigQuiet
import Derived.Outline
import Derived.Lib.Hide
namespace Go.Proofs.YtklhlffdpojkoaaGreat.Fx
open Go.RowKit Go.MapKept

/-- The value at a key. -/
def aget {κ α : Type} [DecidableEq κ] : List (κ × α) → κ → Option α
  | [], _ => none
  | (k, v) :: r, x => if k = x then some v else aget r x
/-- A value put at a key: in its place, or at the end. -/
def aput {κ α : Type} [DecidableEq κ] : List (κ × α) → κ → α → List (κ × α)
  | [], x, v => [(x, v)]
  | (k, u) :: r, x, v => if k = x then (k, v) :: r else (k, u) :: aput r x v
/-- A key struck. -/
def adel {κ α : Type} [DecidableEq κ] : List (κ × α) → κ → List (κ × α)
  | [], _ => []
  | (k, u) :: r, x => if k = x then r else (k, u) :: adel r x

/-- How plain keys (numbers, texts) of a type lie in memory. -/
structure KeyB (P : Program) (kt : TypeId) (κ : Type) where
  d : TypeDesc
  under : P.underlying kt = some d
  enc : κ → Value
  isKey : ∀ x, IsKey d (enc x)
  inj : ∀ x y, enc x = enc y → x = y
/-- How keys of a type lie in memory, and that they are found. -/
structure KeyEnc (P : Program) (kt : TypeId) (κ : Type) [DecidableEq κ] where
  enc : κ → Value
  inj : ∀ x y, enc x = enc y → x = y
  check : ∀ (w : World) (em : Bool) (x : κ), (Instr.checkKey em 10000 kt (enc x)).run P w = .ok () w
  find : ∀ (w : World) (x : κ) {es : List MapEntry} {L : List (κ × Value)}, es.map (fun x => (x.key, x.val)) = L.map (fun p => (enc p.1, p.2)) →
    (Instr.findKey kt (enc x) es).run P w = .ok ((aget L x).map fun v => ((L.findIdx fun p => p.1 = x), v)) w
  stays : ∀ (w : World) (x : κ), (Instr.keyThatStays (enc x) (enc x)).run P w = .ok (enc x) w

section
variable {P : Program} {kt : TypeId} {κ : Type} [DecidableEq κ] (E : KeyB P kt κ) {L : List (κ × Value)}
theorem sameNow_enc (x y : κ) : Instr.sameNow E.d (E.enc x) (E.enc y) = some (decide (x = y)) := by
  obtain ⟨r, hr, hiff⟩ := sameNow_of_keys (E.isKey x) (E.isKey y)
  rw [hr]
  by_cases h : x = y
  · subst h; rw [hiff.2 rfl]; simp
  · cases r
    · simp [h]
    · exact absurd (E.inj _ _ (hiff.1 rfl)) h

theorem findNow_enc (x : κ) : ∀ (es : List MapEntry) (L : List (κ × Value)) (i : Nat), es.map (fun x => (x.key, x.val)) = L.map (fun p => (E.enc p.1, p.2)) →
    Instr.findNow E.d (E.enc x) es i = some ((aget L x).map fun v => (i + (L.findIdx fun p => p.1 = x), v)) := by
  intro es
  induction es with
  | nil => intro L i h; cases L <;> simp_all [Instr.findNow, aget]
  | cons e es ih =>
    intro L i h
    cases L with
    | nil => simp at h
    | cons p L =>
      simp only [List.map_cons, List.cons.injEq] at h
      obtain ⟨h1, h2⟩ := h
      have hk : e.key = E.enc p.1 := congrArg Prod.fst h1
      have hv : e.val = p.2 := congrArg Prod.snd h1
      obtain ⟨k, v⟩ := p
      simp only at hk hv
      simp only [Instr.findNow, hk, sameNow_enc]
      by_cases hx : x = k
      · subst hx; simp [aget, hv, List.findIdx_cons]
      · have hx' : ¬ k = x := fun e => hx e.symm
        simp [hx, ih L (i + 1) h2, aget, hx', List.findIdx_cons]
        cases aget L x <;> simp
        omega

omit [DecidableEq κ] in
theorem checkKey_enc (w : World) (em : Bool) (x : κ) : (Instr.checkKey em 10000 kt (E.enc x)).run P w = .ok () w :=
  run_checkKey E.under (E.isKey x) em 9999

theorem findKey_enc (w : World) (x : κ) {es : List MapEntry} (h : es.map (fun x => (x.key, x.val)) = L.map (fun p => (E.enc p.1, p.2))) :
    (Instr.findKey kt (E.enc x) es).run P w = .ok ((aget L x).map fun v => ((L.findIdx fun p => p.1 = x), v)) w := by
  have := findNow_enc E x es L 0 h
  simp only [Nat.zero_add] at this
  exact run_findKey E.under this
/-- Plain keys are found. -/
def KeyB.key : KeyEnc P kt κ := ⟨E.enc, E.inj, fun w em x => checkKey_enc E w em x, fun w x => findKey_enc E w x, fun _ x => run_keyThatStays (E.isKey x)⟩
end
def strKey {P : Program} {kt : TypeId} (h : P.underlying kt = some .string) : KeyEnc P kt ByteArray :=
  KeyB.key ⟨.string, h, .string, fun _ => trivial, fun _ _ e => by cases e; rfl⟩
def intKey {P : Program} {kt : TypeId} {q : IntKind} (h : P.underlying kt = some (.int q)) : KeyEnc P kt Int :=
  KeyB.key ⟨.int q, h, .int q, fun _ => rfl, fun _ _ e => by cases e; rfl⟩

section
variable {P : Program} {kt : TypeId} {κ : Type} [DecidableEq κ]

/-- Block b is a map with the entries L, in the order in which they were made. -/
def MapAt (e : κ → Value) (w : World) (b : Nat) (L : List (κ × Value)) : Prop :=
  ∃ es clock, w.heap[b]? = some (.map es clock) ∧ Stamped es clock ∧ es.toList.map (fun x => (x.key, x.val)) = L.map (fun p => (e p.1, p.2))

variable (E : KeyEnc P kt κ) {w : World} {b : Nat} {L : List (κ × Value)}

omit [DecidableEq κ] in
theorem MapAt.lt {e : κ → Value} (h : MapAt e w b L) : b < w.heap.size := by
  obtain ⟨es, clock, hb, _⟩ := h
  exact (Array.getElem?_eq_some_iff.1 hb).1
omit [DecidableEq κ] in
theorem MapAt.of_block {e : κ → Value} {w' : World} (h : MapAt e w b L) (hb : w'.heap[b]? = w.heap[b]?) : MapAt e w' b L := by
  obtain ⟨es, clock, h1, h2⟩ := h
  exact ⟨es, clock, hb.trans h1, h2⟩
omit [DecidableEq κ] in
theorem mapAt_new {e : κ → Value} (w : World) : MapAt e (w.alloc (.map #[] 0)) w.heap.size [] :=
  ⟨#[], 0, (MapKept.heap_alloc w _).1, stamped_empty 0, rfl⟩

omit [DecidableEq κ] in
theorem keys_of {e : κ → Value} {es : List MapEntry} : ∀ {L : List (κ × Value)}, es.map (fun x => (x.key, x.val)) = L.map (fun p => (e p.1, p.2)) → ∀ x ∈ es, ∃ k, x.key = e k := by
  intro L h x hx
  have : (x.key, x.val) ∈ L.map (fun p => (e p.1, p.2)) := h ▸ List.mem_map.2 ⟨x, hx, rfl⟩
  obtain ⟨p, _, hp⟩ := List.mem_map.1 this
  exact ⟨p.1, (congrArg Prod.fst hp).symm⟩

theorem aget_none {α : Type} {L : List (κ × α)} {x : κ} (h : aget L x = none) : ∀ p ∈ L, p.1 ≠ x := by
  induction L with
  | nil => simp
  | cons p L ih =>
    obtain ⟨k, v⟩ := p
    simp only [aget] at h
    split at h
    · cases h
    · rename_i hk
      intro q hq
      cases hq with
      | head => exact hk
      | tail _ hq => exact ih h q hq

/-- 'm[k]', 'v, ok := m[k]'. -/
theorem MapAt.look {t et : TypeId} (h : MapAt E.enc w b L) (ht : P.underlying t = some (.map kt et)) {z : Value} (hz : (zeroValue et).run P w = .ok z w) (x : κ) (c : Bool) :
    (Instr.lookup t (.map (some b)) (E.enc x) c).run P w = .ok (if c then .tuple #[(aget L x).getD z, .bool (aget L x).isSome] else (aget L x).getD z) w := by
  obtain ⟨es, clock, hb, hs, hL⟩ := h
  have hf := E.find w x hL
  cases hg : aget L x with
  | none =>
    rw [hg] at hf
    cases c <;> simp [Instr.lookup, run_underlying ht, MapKept.run_getObj_map hb, E.check, hf, hz, Result.andThen]
  | some v =>
    rw [hg] at hf
    cases c <;> simp [Instr.lookup, run_underlying ht, MapKept.run_getObj_map hb, E.check, hf, Result.andThen]
/-- A look-up in a nil map. -/
theorem look_nil {t et : TypeId} (ht : P.underlying t = some (.map kt et)) {z : Value} (hz : (zeroValue et).run P w = .ok z w) (x : κ) (c : Bool) :
    (Instr.lookup t (.map none) (E.enc x) c).run P w = .ok (if c then .tuple #[z, .bool false] else z) w := by
  have hf := E.find (L := []) w x (es := []) rfl
  cases c <;> simp [Instr.lookup, run_underlying ht, E.check, hf, aget, hz, Result.andThen]
omit [DecidableEq κ] in
/-- 'len(m)'. -/
theorem MapAt.len {e : κ → Value} {t et : TypeId} (h : MapAt e w b L) (ht : P.underlying t = some (.map kt et)) (ty : TypeId) :
    (Builtin.len_ #[t] ty #[.map (some b)]).run P w = .ok (.int .i64 L.length) w := by
  obtain ⟨es, clock, hb, hs, hL⟩ := h
  have e1 : es.size = L.length := by have := congrArg List.length hL; simpa using this
  simp [Builtin.len_, run_underlying ht, MapKept.run_getObj_map hb, goInt, Result.andThen, e1]

/-- Block b of w turned into o. -/
def setObjAt (w : World) (b : Nat) (o : Obj) : World := { w with heap := w.heap.setIfInBounds b o }
theorem setObjAt_other (w : World) {b b' : Nat} (o : Obj) (h : b' ≠ b) : (setObjAt w b o).heap[b']? = w.heap[b']? := by
  simp [setObjAt, Ne.symm h]
theorem setObjAt_size (w : World) (b : Nat) (o : Obj) : (setObjAt w b o).heap.size = w.heap.size := by simp [setObjAt]

theorem findIdx_lt {α : Type} {L : List (κ × α)} {x : κ} {v : α} (h : aget L x = some v) : (L.findIdx fun p => p.1 = x) < L.length := by
  induction L with
  | nil => simp [aget] at h
  | cons p L ih =>
    obtain ⟨k, u⟩ := p
    simp only [aget] at h
    split at h
    · rename_i hk; simp [List.findIdx_cons, hk]
    · rename_i hk; simp [List.findIdx_cons, hk, ih h]

theorem get_findIdx {α : Type} {L : List (κ × α)} {x : κ} {v : α} (h : aget L x = some v) : L[(L.findIdx fun p => p.1 = x)]? = some (x, v) := by
  induction L with
  | nil => simp [aget] at h
  | cons p L ih =>
    obtain ⟨k, u⟩ := p
    simp only [aget] at h
    split at h
    · rename_i hk; subst hk; simp at h; subst h; simp [List.findIdx_cons]
    · rename_i hk; simp [List.findIdx_cons, hk, ih h]

theorem aput_mod {α : Type} {L : List (κ × α)} {x : κ} {v u : α} (h : aget L x = some u) : aput L x v = L.modify (L.findIdx fun p => p.1 = x) fun p => (p.1, v) := by
  induction L with
  | nil => simp [aget] at h
  | cons p L ih =>
    obtain ⟨k, u⟩ := p
    simp only [aget] at h
    split at h
    · rename_i hk; subst hk; simp [aput, List.findIdx_cons]
    · rename_i hk; simp [aput, List.findIdx_cons, hk, ih h]
theorem aput_new {α : Type} {L : List (κ × α)} {x : κ} {v : α} (h : aget L x = none) : aput L x v = L ++ [(x, v)] := by
  induction L with
  | nil => simp [aput]
  | cons p L ih =>
    obtain ⟨k, u⟩ := p
    simp only [aget] at h
    split at h
    · cases h
    · rename_i hk; simp [aput, hk, ih h]
theorem adel_erase {α : Type} {L : List (κ × α)} {x : κ} {u : α} (h : aget L x = some u) : adel L x = L.eraseIdx (L.findIdx fun p => p.1 = x) := by
  induction L with
  | nil => simp [aget] at h
  | cons p L ih =>
    obtain ⟨k, u⟩ := p
    simp only [aget] at h
    split at h
    · rename_i hk; subst hk; simp [adel, List.findIdx_cons]
    · rename_i hk; simp [adel, List.findIdx_cons, hk, ih h]
theorem adel_none {α : Type} {L : List (κ × α)} {x : κ} (h : aget L x = none) : adel L x = L := by
  induction L with
  | nil => simp [adel]
  | cons p L ih =>
    obtain ⟨k, u⟩ := p
    simp only [aget] at h
    split at h
    · cases h
    · rename_i hk; simp [adel, hk, ih h]

/-- 'm[k] = v'. -/
theorem MapAt.put {t et : TypeId} (h : MapAt E.enc w b L) (ht : P.underlying t = some (.map kt et)) (x : κ) (v : Value) :
    ∃ o, (Instr.mapUpdate t (.map (some b)) (E.enc x) v).run P w = .ok () (setObjAt w b o) ∧ MapAt E.enc (setObjAt w b o) b (aput L x v) := by
  have hlt := h.lt
  obtain ⟨es, clock, hb, hs, hL⟩ := h
  have hf := E.find w x hL
  have hsame : ∀ o, (setObjAt w b o).heap[b]? = some o := fun o => by simp [setObjAt, hlt]
  cases hg : aget L x with
  | none =>
    rw [hg] at hf
    refine ⟨.map (es.push { key := E.enc x, val := v, born := clock }) (clock + 1), ?_, _, _, hsame _, stamped_push hs ?_, ?_⟩
    · simp [Instr.mapUpdate, run_underlying ht, MapKept.run_getObj_map hb, E.check, hf, run_setObj_map _ hb, Result.andThen, setObjAt]
    · intro y hy
      have hmem : (y.key, y.val) ∈ L.map (fun p => (E.enc p.1, p.2)) := hL ▸ List.mem_map.2 ⟨y, hy, rfl⟩
      obtain ⟨p, hp, hpe⟩ := List.mem_map.1 hmem
      intro e
      have : E.enc p.1 = E.enc x := (congrArg Prod.fst hpe).trans e
      exact aget_none hg p hp (E.inj _ _ this)
    · simp [hL, aput_new hg]
  | some u =>
    rw [hg] at hf
    simp only [Option.map_some] at hf
    have hi := get_findIdx hg
    have hi' : es[(L.findIdx fun p => p.1 = x)]?.map (fun y => (y.key, y.val)) = some (E.enc x, u) := by
      have := congrArg (fun l => l[(L.findIdx fun p => p.1 = x)]?) hL
      simp only [List.getElem?_map, Array.getElem?_toList, hi, Option.map_some] at this
      exact this
    obtain ⟨y, hy, hye⟩ := Option.map_eq_some_iff.1 hi'
    have hyk : y.key = E.enc x := congrArg Prod.fst hye
    refine ⟨.map (es.modify (L.findIdx fun p => p.1 = x) fun e => { e with key := E.enc x, val := v }) clock, ?_, _, _, hsame _, stamped_modify hs _ _ (fun _ _ => rfl) ?_, ?_⟩
    · simp [Instr.mapUpdate, run_underlying ht, MapKept.run_getObj_map hb, E.check, hf, run_setObj_map _ hb, Result.andThen, setObjAt, hy, hyk, E.stays]
    · intro e _ he
      rw [hy] at he
      cases he
      exact hyk.symm
    · rw [aput_mod hg]
      apply List.ext_getElem?
      intro j
      have hj := congrArg (fun l => l[j]?) hL
      simp only [List.getElem?_map, Array.getElem?_toList, Array.getElem?_modify, List.getElem?_modify] at hj ⊢
      by_cases hij : (L.findIdx fun p => p.1 = x) = j
      · subst hij
        simp [hy, hi]
      · simp [hij, hj]
theorem map_eraseIdx' {α β : Type} (f : α → β) : ∀ (l : List α) (i : Nat), (l.eraseIdx i).map f = (l.map f).eraseIdx i
  | [], _ => by simp
  | _ :: _, 0 => by simp
  | _ :: l, i + 1 => by simp [map_eraseIdx' f l i]
/-- 'delete(m, k)'. -/
theorem MapAt.del {t et : TypeId} (h : MapAt E.enc w b L) (ht : P.underlying t = some (.map kt et)) (x : κ) (ty : TypeId) (ts : TypeId) :
    ∃ o, (Builtin.delete_ #[t, ts] ty #[.map (some b), E.enc x]).run P w = .ok (.tuple #[]) (setObjAt w b o) ∧ MapAt E.enc (setObjAt w b o) b (adel L x) := by
  have hlt := h.lt
  obtain ⟨es, clock, hb, hs, hL⟩ := h
  have hf := E.find w x hL
  have hsame : ∀ o, (setObjAt w b o).heap[b]? = some o := fun o => by simp [setObjAt, hlt]
  cases hg : aget L x with
  | none =>
    rw [hg] at hf
    refine ⟨.map es clock, ?_, _, _, hsame _, hs, ?_⟩
    · simp [Builtin.delete_, run_underlying ht, MapKept.run_getObj_map hb, E.check, hf, run_setObj_map _ hb, Result.andThen, setObjAt]
    · rw [adel_none hg]; exact hL
  | some u =>
    rw [hg] at hf
    simp only [Option.map_some] at hf
    refine ⟨.map (es.eraseIdxIfInBounds (L.findIdx fun p => p.1 = x)) clock, ?_, _, _, hsame _, stamped_erase hs _, ?_⟩
    · simp [Builtin.delete_, run_underlying ht, MapKept.run_getObj_map hb, E.check, hf, run_setObj_map _ hb, Result.andThen, setObjAt]
    · have hi := findIdx_lt hg
      have e1 : es.size = L.length := by have := congrArg List.length hL; simpa using this
      rw [adel_erase hg]
      have : (es.eraseIdxIfInBounds (L.findIdx fun p => p.1 = x)).toList = es.toList.eraseIdx (L.findIdx fun p => p.1 = x) := by
        simp only [Array.eraseIdxIfInBounds]
        rw [dif_pos (by omega)]
        simp [Array.toList_eraseIdx]
      rw [this]
      rw [map_eraseIdx', map_eraseIdx', hL]
end
end Go.Proofs.YtklhlffdpojkoaaGreat.Fx

/-
  Maps in memory at the operations of a walk; and what a call leaves as it was, but for some blocks. Over any program.
-/
namespace Go.Proofs.YtklhlffdpojkoaaGreat.Fx
open Go.RowKit Go.MapKept

/-- w' is w but for the blocks of S (and new ones). -/
structure Keeps (S : Nat → Prop) (w w' : World) : Prop where
  os : w'.os = w.os
  tape : w'.tape = w.tape
  output : w'.output = w.output
  size : w.heap.size ≤ w'.heap.size
  block : ∀ k, k < w.heap.size → ¬ S k → w'.heap[k]? = w.heap[k]?

section
variable {S S1 : Nat → Prop} {w w1 w2 : World}
theorem Keeps.refl (S : Nat → Prop) (w : World) : Keeps S w w := ⟨rfl, rfl, rfl, Nat.le_refl _, fun _ _ _ => rfl⟩
theorem Keeps.trans (h : Keeps S w w1) (h1 : Keeps S1 w1 w2) (hs : ∀ k, k < w.heap.size → S1 k → S k) : Keeps S w w2 :=
  ⟨h1.os.trans h.os, h1.tape.trans h.tape, h1.output.trans h.output, Nat.le_trans h.size h1.size,
    fun k hk hS => (h1.block k (Nat.lt_of_lt_of_le hk h.size) (fun e => hS (hs k hk e))).trans (h.block k hk hS)⟩
theorem Keeps.mono (h : Keeps S w w1) (hs : ∀ k, k < w.heap.size → S k → S1 k) : Keeps S1 w w1 :=
  ⟨h.os, h.tape, h.output, h.size, fun k hk hS => h.block k hk fun e => hS (hs k hk e)⟩
theorem Keeps.alloc (h : Keeps S w w1) (o : Obj) : Keeps S w (w1.alloc o) :=
  ⟨h.os, h.tape, h.output, by have := h.size; simp; omega, fun k hk hS => (Below.heap_alloc w1 o k (Nat.lt_of_lt_of_le hk h.size)).trans (h.block k hk hS)⟩
/-- All that was there is as it was. -/
abbrev K0 (w w' : World) : Prop := Keeps (fun _ => False) w w'
theorem K0.tr (h : K0 w w1) (h1 : K0 w1 w2) : K0 w w2 := h.trans h1 (fun _ _ h => h)
theorem K0.below (h : K0 w w1) : Below w.heap.size w w1 := ⟨h.os, h.tape, h.output, h.size, fun k hk => h.block k hk (fun e => e)⟩
theorem K0.of_below (h : Below w.heap.size w w1) : K0 w w1 := ⟨h.os, h.tape, h.output, h.size, fun k hk _ => h.block k hk⟩
/-- Behind a world that grew out of w0, one that keeps all of it has grown out of w0 too. -/
theorem K0.after {w0 : World} (h : K0 w w1) (hb : Below w0.heap.size w0 w) : Below w0.heap.size w0 w1 := hb.trans (h.below.mono hb.size)
theorem Keeps.drew (h : Keeps S w w1) : Keeps S w w1.drew := ⟨h.os, h.tape, h.output, h.size, h.block⟩
theorem Keeps.drewN (h : Keeps S w w1) (n : Nat) : Keeps S w (w1.drewN n) := ⟨h.os, h.tape, h.output, h.size, h.block⟩
theorem Keeps.setCell (h : Keeps S w w1) {p : Addr} (hp : p.block < w.heap.size → S p.block) (u : Value) : Keeps S w (w1.setCell p u) :=
  ⟨h.os, h.tape, h.output, by have := h.size; simp [World.setCell]; omega, fun k hk hS =>
    (Below.heap_setCell w1 p u k (fun e => hS (e ▸ hp (e ▸ hk)))).trans (h.block k hk hS)⟩
theorem Keeps.setC (h : Keeps S w w1) {b : Nat} (i : Nat) (u : Value) (hp : b < w.heap.size → S b) : Keeps S w (w1.setCell ⟨b, i, none⟩ u) := h.setCell (p := ⟨b, i, none⟩) hp u
/-- What held no block of w that may turn holds none. -/
theorem Keeps.none (h : Keeps S w w1) (hs : ∀ k, k < w.heap.size → ¬ S k) : Keeps (fun _ => False) w w1 := ⟨h.os, h.tape, h.output, h.size, fun k hk _ => h.block k hk (hs k hk)⟩
theorem Keeps.setObj (h : Keeps S w w1) {b : Nat} (hp : b < w.heap.size → S b) (o : Obj) : Keeps S w (setObjAt w1 b o) :=
  ⟨h.os, h.tape, h.output, by rw [setObjAt_size]; exact h.size, fun k hk hS => (setObjAt_other w1 o (fun e => by subst e; exact hS (hp hk))).trans (h.block k hk hS)⟩
theorem Keeps.below (h : Keeps S w w1) {B : Nat} (hB : B ≤ w.heap.size) (hs : ∀ k, S k → B ≤ k) : Below B w w1 :=
  ⟨h.os, h.tape, h.output, h.size, fun k hk => h.block k (by omega) fun e => by have := hs k e; omega⟩
theorem Keeps.of_below {B : Nat} (h : Below B w w1) (hs : ∀ k, B ≤ k → k < w.heap.size → S k) : Keeps S w w1 :=
  ⟨h.os, h.tape, h.output, h.size, fun k hk hS => h.block k ((Nat.lt_or_ge k B).elim id fun h => absurd (hs k h hk) hS)⟩
theorem Keeps.cell (h : Keeps S w w1) {p : Addr} (hp : p.block < w.heap.size) (hS : ¬ S p.block) : w1.cell? p = w.cell? p :=
  World.cell?_of_block (w := w) (h.block p.block hp hS)
theorem Keeps.cell' (h : Keeps S w w1) {p : Addr} {v : Value} (hc : w.cell? p = some v) (hS : ¬ S p.block) : w1.cell? p = some v :=
  (h.cell (World.block_lt_of_cell? w p hc) hS).trans hc
theorem Keeps.frozen (h : Keeps S w w1) {p : Addr} (hp : p.block < w.heap.size) (hS : ¬ S p.block) : w1.frozen? p = w.frozen? p :=
  World.frozen?_of_block (w := w) (h.block p.block hp hS)
theorem Keeps.grown {row : Option Nat} (h : Keeps S w w1) (hg : w1.grownBy w2 row) (hr : ∀ k, row = some k → k < w.heap.size → S k) : Keeps S w w2 :=
  ⟨hg.os.trans h.os, hg.tape.trans h.tape, hg.output.trans h.output, Nat.le_trans h.size hg.size, fun k hk hS =>
    (hg.block k (Nat.lt_of_lt_of_le hk h.size) (fun e => hS (hr k e.symm hk))).trans (h.block k hk hS)⟩
end

/-- A store into a known block. -/
theorem setCell_block {w : World} {b : Nat} {c : Array Value} {e : TypeId} {f : Nat × Nat} (h : w.heap[b]? = some (.cells c e f)) (i : Nat) (v : Value) :
    (w.setCell ⟨b, i, none⟩ v).heap[b]? = some (.cells (c.setIfInBounds i v) e f) := by
  simp [World.setCell, Array.getElem?_modify, h]

section
variable (w : World) (b : Nat) (o : Obj) (p : Addr)
@[go_sem] theorem cell?_setObjAt (h : p.block ≠ b) : (setObjAt w b o).cell? p = w.cell? p := World.cell?_of_block (w := w) (setObjAt_other w o h)
@[go_sem] theorem frozen?_setObjAt (h : p.block ≠ b) : (setObjAt w b o).frozen? p = w.frozen? p := World.frozen?_of_block (w := w) (setObjAt_other w o h)
@[go_sem] theorem size_setObjAt : (setObjAt w b o).heap.size = w.heap.size := setObjAt_size w b o
end

section
variable {P : Program} {kt : TypeId} {κ : Type} [DecidableEq κ]
omit [DecidableEq κ] in
theorem MapAt.keep {e : κ → Value} {w w' : World} {b : Nat} {L : List (κ × Value)} {S : Nat → Prop} (h : MapAt e w b L) (hk : Keeps S w w') (hS : ¬ S b) : MapAt e w' b L :=
  h.of_block (hk.block b h.lt hS)

variable (E : KeyEnc P kt κ) {w : World} {b : Nat} {L : List (κ × Value)} {ops : Array Oper} {rest : List Oper} {o : Oper} {a : Act} {Q : Exit → Act → World → Prop}
/-- A look-up in the walk. -/
theorem wpList_look (hg : o.guard = none) {m x : Operand} {t : TypeId} {c : Bool} (hop : o.op = Op.lookup t m x c)
    {et : TypeId} (ht : P.underlying t = some (.map kt et)) {z : Value} (hz : ∀ w, (zeroValue et).run P w = .ok z w) (hm : a.eval m = .map (some b)) (k : κ) (hx : a.eval x = E.enc k) (h : MapAt E.enc w b L) (v : Option Value) (hv : aget L k = v)
    (hK : wpList P ops Q rest (a.put o.dst (if c then .tuple #[v.getD z, .bool v.isSome] else v.getD z)) w) :
    wpList P ops Q (o :: rest) a w := by
  refine wpList_plain hg fun K' hK' => ?_
  have hrun := h.look E ht (hz w) k c
  unfold Oper.wp
  subst hv
  simp [execOp, hop, hm, hx, hrun, Result.andThen]
  exact hK' _ _ hK
/-- A store in the walk: some world in which the map has one entry put, but for its block the same. -/
theorem wpList_put (hg : o.guard = none) {m x v : Operand} {t : TypeId} (hop : o.op = Op.mapUpdate t m x v)
    {et : TypeId} (ht : P.underlying t = some (.map kt et)) (hm : a.eval m = .map (some b)) (k : κ) (hx : a.eval x = E.enc k) (h : MapAt E.enc w b L) (val : Value) (hv : a.eval v = val)
    (hK : ∀ ob, MapAt E.enc (setObjAt w b ob) b (aput L k val) → wpList P ops Q rest (a.put o.dst undef) (setObjAt w b ob)) :
    wpList P ops Q (o :: rest) a w := by
  refine wpList_plain hg fun K' hK' => ?_
  obtain ⟨ob, hrun, h'⟩ := h.put E ht k val
  unfold Oper.wp
  simp [execOp, hop, hm, hx, hv, hrun, Result.andThen]
  exact hK' _ _ (hK ob h')
/-- A delete in the walk. -/
theorem wpList_del (hg : o.guard = none) {m x : Operand} {t ts : TypeId} (hop : o.op = Op.call { callee := Callee.builtin Builtin.delete, args := #[m, x], argTypes := #[t, ts] })
    {et : TypeId} (ht : P.underlying t = some (.map kt et)) (hm : a.eval m = .map (some b)) (k : κ) (hx : a.eval x = E.enc k) (h : MapAt E.enc w b L)
    (hK : ∀ ob, MapAt E.enc (setObjAt w b ob) b (adel L k) → wpList P ops Q rest (a.put o.dst (.tuple #[])) (setObjAt w b ob)) :
    wpList P ops Q (o :: rest) a w := by
  refine wpList_plain hg fun K' hK' => ?_
  obtain ⟨ob, hrun, h'⟩ := h.del E ht k o.type ts
  unfold Oper.wp
  simp [execOp, hop, resolve, invoke, builtin, hm, hx, hrun, Result.andThen]
  exact hK' _ _ (hK ob h')
omit [DecidableEq κ] in
/-- A length in the walk. -/
theorem wpList_len (hg : o.guard = none) {m : Operand} {t : TypeId} (hop : o.op = Op.call { callee := Callee.builtin Builtin.len, args := #[m], argTypes := #[t] })
    {e : κ → Value} {et : TypeId} (ht : P.underlying t = some (.map kt et)) (hm : a.eval m = .map (some b)) (h : MapAt e w b L)
    (hK : wpList P ops Q rest (a.put o.dst (.int .i64 L.length)) w) :
    wpList P ops Q (o :: rest) a w := by
  refine wpList_plain hg fun K' hK' => ?_
  have hrun := h.len ht o.type
  unfold Oper.wp
  simp [execOp, hop, resolve, invoke, builtin, hm, hrun, Result.andThen]
  exact hK' _ _ hK
end
end Go.Proofs.YtklhlffdpojkoaaGreat.Fx

/-
  Maps at regions that draw their order: a look-up, a length, a store as equations in every world with the same heap.
-/
namespace Go.Proofs.YtklhlffdpojkoaaGreat.Fx
open Go.RowKit Go.MapKept
section
variable {P : Program} {kt : TypeId} {κ : Type} [DecidableEq κ] (E : KeyEnc P kt κ) {w : World} {b : Nat} {L : List (κ × Value)}
theorem MapAt.look_all {t et : TypeId} (h : MapAt E.enc w b L) (ht : P.underlying t = some (.map kt et)) {z : Value} (hz : ∀ w, (zeroValue et).run P w = .ok z w) (x : κ) (c : Bool) {v : Option Value} (hv : aget L x = v) :
    ∀ w', w'.heap = w.heap → (Instr.lookup t (.map (some b)) (E.enc x) c).run P w' = .ok (if c then .tuple #[v.getD z, .bool v.isSome] else v.getD z) w' := fun w' e => by
  subst hv
  exact (h.of_block (by rw [e])).look E ht (hz w') x c
omit [DecidableEq κ] in
theorem MapAt.len_all {e : κ → Value} {t et : TypeId} (h : MapAt e w b L) (ht : P.underlying t = some (.map kt et)) (ty : TypeId) :
    ∀ w', w'.heap = w.heap → (Builtin.len_ #[t] ty #[.map (some b)]).run P w' = .ok (.int .i64 L.length) w' := fun w' e => (h.of_block (by rw [e])).len ht ty
/-- 'm[k] = v': one block, in every world with this heap. -/
theorem MapAt.put_all {t et : TypeId} (h : MapAt E.enc w b L) (ht : P.underlying t = some (.map kt et)) (x : κ) (v : Value) :
    ∃ o, (∀ w', w'.heap[b]? = w.heap[b]? → (Instr.mapUpdate t (.map (some b)) (E.enc x) v).run P w' = .ok () (setObjAt w' b o)) ∧ ∀ w', w'.heap[b]? = w.heap[b]? → MapAt E.enc (setObjAt w' b o) b (aput L x v) := by
  have hlt := h.lt
  obtain ⟨es, clock, hb, hs, hL⟩ := h
  have hf := fun w' => E.find w' x hL
  have hsame : ∀ (w' : World) o, w'.heap[b]? = w.heap[b]? → (setObjAt w' b o).heap[b]? = some o := fun w' o e => by
    have : b < w'.heap.size := (Array.getElem?_eq_some_iff.1 (e.trans hb)).1
    simp [setObjAt, this]
  cases hg : aget L x with
  | none =>
    rw [hg] at hf
    refine ⟨.map (es.push { key := E.enc x, val := v, born := clock }) (clock + 1), fun w' e => ?_, fun w' e => ⟨_, _, hsame _ _ e, stamped_push hs ?_, ?_⟩⟩
    · simp [Instr.mapUpdate, run_underlying ht, MapKept.run_getObj_map (e.trans hb), E.check, hf, run_setObj_map _ (e.trans hb), Result.andThen, setObjAt]
    · intro y hy
      have hmem : (y.key, y.val) ∈ L.map (fun p => (E.enc p.1, p.2)) := hL ▸ List.mem_map.2 ⟨y, hy, rfl⟩
      obtain ⟨p, hp, hpe⟩ := List.mem_map.1 hmem
      intro e
      have : E.enc p.1 = E.enc x := (congrArg Prod.fst hpe).trans e
      exact aget_none hg p hp (E.inj _ _ this)
    · simp [hL, aput_new hg]
  | some u =>
    rw [hg] at hf
    simp only [Option.map_some] at hf
    have hi := get_findIdx hg
    have hi' : es[(L.findIdx fun p => p.1 = x)]?.map (fun y => (y.key, y.val)) = some (E.enc x, u) := by
      have := congrArg (fun l => l[(L.findIdx fun p => p.1 = x)]?) hL
      simp only [List.getElem?_map, Array.getElem?_toList, hi, Option.map_some] at this
      exact this
    obtain ⟨y, hy, hye⟩ := Option.map_eq_some_iff.1 hi'
    have hyk : y.key = E.enc x := congrArg Prod.fst hye
    refine ⟨.map (es.modify (L.findIdx fun p => p.1 = x) fun e => { e with key := E.enc x, val := v }) clock, fun w' e => ?_, fun w' e => ⟨_, _, hsame _ _ e, stamped_modify hs _ _ (fun _ _ => rfl) ?_, ?_⟩⟩
    · simp [Instr.mapUpdate, run_underlying ht, MapKept.run_getObj_map (e.trans hb), E.check, hf, run_setObj_map _ (e.trans hb), Result.andThen, setObjAt, hy, hyk, E.stays]
    · intro e _ he
      rw [hy] at he
      cases he
      exact hyk.symm
    · rw [aput_mod hg]
      apply List.ext_getElem?
      intro j
      have hj := congrArg (fun l => l[j]?) hL
      simp only [List.getElem?_map, Array.getElem?_toList, Array.getElem?_modify, List.getElem?_modify] at hj ⊢
      by_cases hij : (L.findIdx fun p => p.1 = x) = j
      · subst hij
        simp [hy, hi]
      · simp [hij, hj]
end
/-- The values of an association list under a map on values. -/
def avals {κ α : Type} (f : α → Value) (l : List (κ × α)) : List (κ × Value) := l.map fun p => (p.1, f p.2)
theorem aget_avals {κ α : Type} [DecidableEq κ] (f : α → Value) (l : List (κ × α)) (s : κ) : aget (avals f l) s = (aget l s).map f := by
  induction l with
  | nil => rfl
  | cons p l ih =>
    obtain ⟨k, x⟩ := p
    simp only [avals, List.map_cons, aget] at ih ⊢
    by_cases h : k = s
    · simp [h]
    · simp only [h, if_false]; exact ih
theorem aput_avals {κ α : Type} [DecidableEq κ] (f : α → Value) (l : List (κ × α)) (s : κ) (x : α) : aput (avals f l) s (f x) = avals f (aput l s x) := by
  induction l with
  | nil => rfl
  | cons p l ih =>
    obtain ⟨k, u⟩ := p
    simp only [avals, List.map_cons, aput] at ih ⊢
    by_cases h : k = s
    · simp [h]
    · simp only [h, if_false, List.map_cons]; rw [ih]
theorem adel_avals {κ α : Type} [DecidableEq κ] (f : α → Value) (l : List (κ × α)) (s : κ) : adel (avals f l) s = avals f (adel l s) := by
  induction l with
  | nil => rfl
  | cons p l ih =>
    obtain ⟨k, u⟩ := p
    simp only [avals, List.map_cons, adel] at ih ⊢
    by_cases h : k = s
    · simp [h]
    · simp only [h, if_false, List.map_cons]; rw [ih]
theorem avals_len {κ α : Type} (f : α → Value) (l : List (κ × α)) : (avals f l).length = l.length := by simp [avals]
/-- Texts, empty or not. -/
theorem bytes_empty {s : ByteArray} (h : s.size = 0) : s.toList.isEmpty = true := by
  rw [List.isEmpty_iff, ByteArray.toList_eq, ← List.length_eq_zero_iff, Array.length_toList]
  exact h
theorem bytes_some {s : ByteArray} (h : ¬ s.size = 0) : s.toList.isEmpty = false := by
  cases hq : s.toList.isEmpty
  · rfl
  · rw [List.isEmpty_iff, ByteArray.toList_eq, ← List.length_eq_zero_iff, Array.length_toList] at hq
    exact absurd hq h
end Go.Proofs.YtklhlffdpojkoaaGreat.Fx

/-
  The offsets' keys: a group, a topic, a partition's number.
-/
namespace Go.Proofs.YtklhlffdpojkoaaGreat
open Go.RowKit Fx

/-- A key. -/
structure OffK where
  group : ByteArray
  topic : ByteArray
  index : Int
deriving DecidableEq
def OffK.enc (k : OffK) : Value := .agg #[.string k.group, .string k.topic, .int .i64 k.index]
theorem ck (w : World) (em : Bool) (x : OffK) : (Instr.checkKey em 10000 99 x.enc).run Tryz.prog w = .ok () w := by kernel_rfl
theorem p0 (a b : ByteArray) (c : Int) (w : World) : (part 9 #[.string a, .string b, .int .i64 c] 0).run Tryz.prog w = .ok (.string a) w := by kernel_rfl
theorem p1 (a b : ByteArray) (c : Int) (w : World) : (part 34 #[.string a, .string b, .int .i64 c] 1).run Tryz.prog w = .ok (.agg #[.string b, .int .i64 c]) w := by kernel_rfl
theorem p2 (b : ByteArray) (c : Int) (w : World) : (part 9 #[.string b, .int .i64 c] 0).run Tryz.prog w = .ok (.string b) w := by kernel_rfl
theorem p3 (b : ByteArray) (c : Int) (w : World) : (part 3 #[.string b, .int .i64 c] 1).run Tryz.prog w = .ok (.int .i64 c) w := by kernel_rfl
theorem efK (d : Nat) (xs ys : Array Value) : Op.eqFields d xs ys (Tryz.prog.fieldsOf 99).toList = (do
    let a ← part 9 xs 0
    let b ← part 9 ys 0
    let r ← Op.equalIn d 9 a b
    if (!r) = true then pure false else do
      let a ← part 34 xs 1
      let b ← part 34 ys 1
      let r ← Op.equalIn d 34 a b
      if (!r) = true then pure false else pure true) := by kernel_rfl
theorem efP (d : Nat) (xs ys : Array Value) : Op.eqFields d xs ys (Tryz.prog.fieldsOf 34).toList = (do
    let a ← part 9 xs 0
    let b ← part 9 ys 0
    let r ← Op.equalIn d 9 a b
    if (!r) = true then pure false else do
      let a ← part 3 xs 1
      let b ← part 3 ys 1
      let r ← Op.equalIn d 3 a b
      if (!r) = true then pure false else pure true) := by kernel_rfl
theorem toList_eq {a b : ByteArray} : (a.toList == b.toList) = decide (a = b) := by
  by_cases h : a = b
  · subst h; simp
  · have : ¬ a.toList = b.toList := fun e => h (by
      rw [ByteArray.toList_eq, ByteArray.toList_eq] at e
      obtain ⟨⟨x⟩⟩ := a
      obtain ⟨⟨y⟩⟩ := b
      simp at e
      simp [e])
    simp [h, this]
theorem equal_key (w : World) (x y : OffK) : (Op.equal 99 x.enc y.enc).run Tryz.prog w = .ok (decide (x = y)) w := by
  obtain ⟨a, b, c⟩ := x
  obtain ⟨a', b', c'⟩ := y
  have e1 : (Op.equal 99 (OffK.enc ⟨a, b, c⟩) (OffK.enc ⟨a', b', c'⟩)).run Tryz.prog w = (Op.eqFields 9999 #[.string a, .string b, .int .i64 c] #[.string a', .string b', .int .i64 c'] (Tryz.prog.fieldsOf 99).toList).run Tryz.prog w :=
    run_equalIn_struct w 9999 _ _ _ (by kernel_rfl) (by kernel_rfl)
  have e2 : ∀ w, (Op.equalIn 9999 34 (.agg #[.string b, .int .i64 c]) (.agg #[.string b', .int .i64 c'])).run Tryz.prog w = (Op.eqFields 9998 #[.string b, .int .i64 c] #[.string b', .int .i64 c'] (Tryz.prog.fieldsOf 34).toList).run Tryz.prog w :=
    fun w => run_equalIn_struct w 9998 _ _ _ (by kernel_rfl) (by kernel_rfl)
  have e3 : ∀ (d : Nat) (a b : ByteArray) w, (Op.equalIn (d + 1) 9 (.string a) (.string b)).run Tryz.prog w = .ok (decide (a = b)) w := fun d a b w => by
    rw [run_equalIn_string w d _ a b Tryz.underlying9, toList_eq]
  have e4 : ∀ (a b : Int) w, (Op.equalIn 9998 3 (.int .i64 a) (.int .i64 b)).run Tryz.prog w = .ok (a == b) w := fun a b w => run_equalIn_int w 9997 3 .i64 .i64 a b Tryz.underlying3
  rw [e1, efK]
  simp only [Sem.run_bind, p0, p1, Result.andThen_ok, e3 9998, e2, efP, p2, p3, e3 9997, e4, Sem.run_ite, Sem.run_pure]
  by_cases h1 : a = a' <;> by_cases h2 : b = b' <;> by_cases h3 : c = c' <;> simp_all
theorem findNow_key (x : OffK) (es : List MapEntry) (i : Nat) : ∀ {L : List (OffK × Value)}, es.map (fun x => (x.key, x.val)) = L.map (fun p => (p.1.enc, p.2)) → Instr.findNow (.struct (Tryz.prog.fieldsOf 99)) x.enc es i = if es = [] then some none else none := by
  intro L h
  cases es with
  | nil => rfl
  | cons e es =>
    cases L with
    | nil => simp at h
    | cons p L =>
      simp only [List.map_cons, List.cons.injEq] at h
      have hk : e.key = p.1.enc := congrArg Prod.fst h.1
      simp [Instr.findNow, Instr.sameNow]
theorem findAsking_key (w : World) (x : OffK) : ∀ (es : List MapEntry) (L : List (OffK × Value)) (i : Nat), es.map (fun x => (x.key, x.val)) = L.map (fun p => (p.1.enc, p.2)) →
    (Instr.findAsking 99 x.enc es i).run Tryz.prog w = .ok ((aget L x).map fun v => (i + (L.findIdx fun p => p.1 = x), v)) w := by
  intro es
  induction es with
  | nil => intro L i h; cases L <;> simp_all [Instr.findAsking, aget]
  | cons e es ih =>
    intro L i h
    cases L with
    | nil => simp at h
    | cons p L =>
      simp only [List.map_cons, List.cons.injEq] at h
      obtain ⟨h1, h2⟩ := h
      have hk : e.key = p.1.enc := congrArg Prod.fst h1
      have hv : e.val = p.2 := congrArg Prod.snd h1
      obtain ⟨k, v⟩ := p
      simp only at hk hv
      simp only [Instr.findAsking, hk, Sem.run_bind, equal_key, Result.andThen_ok, Sem.run_ite]
      by_cases hx : x = k
      · subst hx; simp [aget, hv, List.findIdx_cons]
      · have hx' : ¬ k = x := fun e => hx e.symm
        simp [hx, ih L (i + 1) h2, aget, hx', List.findIdx_cons]
        cases aget L x <;> simp
        omega
theorem underKey : Tryz.prog.underlying 99 = some (.struct (Tryz.prog.fieldsOf 99)) := by kernel_rfl
/-- The offsets' keys are found. -/
def offKey : KeyEnc Tryz.prog 99 OffK where
  enc := OffK.enc
  inj := fun x y e => by
    obtain ⟨a, b, c⟩ := x
    obtain ⟨a', b', c'⟩ := y
    simp [OffK.enc] at e
    simp [e]
  check := fun w em x => ck w em x
  find := fun w x {es L} h => by
    have hf := findNow_key x es 0 h
    have ha := findAsking_key w x es L 0 h
    simp only [Nat.zero_add] at ha
    unfold Instr.findKey
    simp only [Sem.run_bind, run_underlying underKey, Result.andThen_ok, hf]
    cases es with
    | nil => cases L <;> simp_all [aget]
    | cons e es => simpa using ha
  stays := fun w x => by
    have : (Instr.keyThatStays (OffK.enc ⟨x.group, x.topic, x.index⟩) (OffK.enc ⟨x.group, x.topic, x.index⟩)).run Tryz.prog w = .ok (OffK.enc ⟨x.group, x.topic, x.index⟩) w := by
      have : Instr.sameBits 10000 (OffK.enc x) (OffK.enc x) = true := by
        show Instr.sameBits (9999 + 1) (.agg _) (.agg _) = true
        simp [Instr.sameBits, beq_toListBytes]
      simp [Instr.keyThatStays, this]
    exact this
end Go.Proofs.YtklhlffdpojkoaaGreat

/-
  How values that came in read, by cells: integers, texts, bools, slices; from the form's own reading. Over any program.
-/
namespace Go.Proofs.YtklhlffdpojkoaaGreat.Fx
open Go.RowKit Go.ChangeShapes Go.WideShapes

/-- How a row of cells reads. -/
abbrev Rdr (α : Type) := World → List Value → α → Prop
def rInt : Rdr Int := fun _ cs n => cs = [.int .i64 n] ∧ (Lit.int .i64 n).wf = true
def rStr : Rdr ByteArray := fun _ cs s => cs = [.string s] ∧ s.size ≤ maxLen
def rBool : Rdr Bool := fun _ cs b => cs = [.bool b]
/-- The row of l from a place on, n cells each. -/
def RowAt {α : Type} (n : Nat) (R : Rdr α) (w : World) (b off : Nat) (l : List α) : Prop :=
  ∀ i (h : i < l.length), ∃ cs, cs.length = n ∧ (∀ j, j < n → w.cell? ⟨b, off + i * n + j, none⟩ = cs[j]?) ∧ R w cs l[i]
/-- The slice value with this address and capacity reads as l. -/
def SlAt {α : Type} (n : Nat) (R : Rdr α) (w : World) (a : Option Addr) (cap : Nat) (l : List α) : Prop :=
  l.length ≤ cap ∧ cap ≤ maxLen ∧ (l ≠ [] → ∃ b off, a = some ⟨b, off, none⟩ ∧ RowAt n R w b off l)
def rSl {α : Type} (n : Nat) (R : Rdr α) : Rdr (List α) := fun w cs l => ∃ a cap, cs = [.slice a l.length cap] ∧ SlAt n R w a cap l
theorem SlAt.row {α : Type} {n : Nat} {R : Rdr α} {w : World} {a : Option Addr} {cap : Nat} {l : List α} (h : SlAt n R w a cap l) {k : Nat} (hk : k < l.length) : ∃ b off, a = some ⟨b, off, none⟩ ∧ RowAt n R w b off l :=
  h.2.2 (by intro e; subst e; simp at hk)
theorem SlAt.len {α : Type} {n : Nat} {R : Rdr α} {w : World} {a : Option Addr} {cap : Nat} {l : List α} (h : SlAt n R w a cap l) : l.length ≤ 9223372036854775807 := by have := h.1; have := h.2.1; unfold maxLen at this; omega
theorem rSl.slAt {α : Type} {n : Nat} {R : Rdr α} {w : World} {a : Option Addr} {len cap : Nat} {l : List α} (h : rSl n R w [.slice a len cap] l) : len = l.length ∧ SlAt n R w a cap l := by
  obtain ⟨a', cap', he, h⟩ := h
  simp only [List.cons.injEq, Value.slice.injEq, and_true] at he
  obtain ⟨rfl, rfl, rfl⟩ := he
  exact ⟨rfl, h⟩

theorem cells_get {w : World} {base : Nat} {a : Addr} {n : Nat} {cs : List Value} (h : w.cells? base a n = some cs) :
    cs.length = n ∧ ∀ j, j < n → w.cell? (a.add j) = cs[j]? := by
  unfold World.cells? at h
  split at h
  · have hf : ∀ (l : List Nat) (out : List Value), l.mapM (fun i => w.cell? (a.add i)) = some out → out.length = l.length ∧ ∀ j, j < l.length → (l[j]?).bind (fun i => w.cell? (a.add i)) = out[j]? := by
      intro l
      induction l with
      | nil => intro out h; simp at h; subst h; simp
      | cons i l ih =>
        intro out h
        simp only [List.mapM_cons, Option.bind_eq_bind, Option.bind_eq_some_iff, Option.pure_def, Option.some.injEq] at h
        obtain ⟨v, hv, out', ho, rfl⟩ := h
        obtain ⟨h1, h2⟩ := ih out' ho
        refine ⟨by simp [h1], fun j hj => ?_⟩
        cases j with
        | zero => simpa using hv
        | succ j => simpa using h2 j (by simpa using hj)
    obtain ⟨h1, h2⟩ := hf _ _ h
    refine ⟨by simpa using h1, fun j hj => ?_⟩
    have := h2 j (by simpa using hj)
    simpa [List.getElem?_range hj] using this
  · cases h

section
variable {H : Type} {enc : TypeId × Value → H} {P : Program} {w : World} {base : Nat} {spare : Nat → Bool} {held : Bool}
theorem rInt_of {t : TypeId} (ht : P.underlying t = some (.int .i64)) (fuel : Nat) (cs : List Value) (x : DataW H × List MemPlace) (h : DataW.trod enc P w base spare held fuel t cs = some x) : ∃ y, rInt w cs y := by
  obtain ⟨n, rfl, _, hw⟩ := DataW.trod_int ht h
  exact ⟨n, rfl, hw⟩
theorem rStr_of {t : TypeId} (ht : P.underlying t = some .string) (fuel : Nat) (cs : List Value) (x : DataW H × List MemPlace) (h : DataW.trod enc P w base spare held fuel t cs = some x) : ∃ y, rStr w cs y := by
  obtain ⟨s, rfl, _, hw⟩ := DataW.trod_string ht h
  exact ⟨s, rfl, hw⟩
theorem rBool_of {t : TypeId} (ht : P.underlying t = some .bool) (fuel : Nat) (cs : List Value) (x : DataW H × List MemPlace) (h : DataW.trod enc P w base spare held fuel t cs = some x) : ∃ y, rBool w cs y := by
  obtain ⟨b, rfl, _⟩ := DataW.trod_bool ht h
  exact ⟨b, rfl⟩
theorem rSl_of {α : Type} {R : Rdr α} {n : Nat} {t e : TypeId} (ht : P.underlying t = some (.slice e)) (hn : P.cellsOf e = n + 1)
    (he : ∀ (fuel : Nat) (cs : List Value) (x : DataW H × List MemPlace), DataW.trod enc P w base spare held fuel e cs = some x → ∃ y, R w cs y)
    (fuel : Nat) (cs : List Value) (x : DataW H × List MemPlace) (h : DataW.trod enc P w base spare held fuel t cs = some x) : ∃ y, rSl (n + 1) R w cs y := by
  rcases Deep.open_slice ht h with ⟨rfl, _⟩ | ⟨a, len, cap, m, k, D, Pl, rfl, hb, hl, hc, hm, _, hel⟩
  · exact ⟨[], none, 0, rfl, Nat.le_refl _, by unfold maxLen; omega, fun h => absurd rfl h⟩
  · have hml : len ≤ m := by rw [hm]; split <;> omega
    have hall : ∀ i, i < len → ∃ y : α, ∃ cs', w.cells? base (a.add (i * P.cellsOf e)) (P.cellsOf e) = some cs' ∧ R w cs' y := by
      intro i hi
      obtain ⟨cs', h1, h2⟩ := hel i (by omega)
      obtain ⟨y, hy⟩ := he _ _ _ h2
      exact ⟨y, cs', h1, hy⟩
    have hlist : ∀ len, (∀ i, i < len → ∃ y : α, ∃ cs', w.cells? base (a.add (i * P.cellsOf e)) (P.cellsOf e) = some cs' ∧ R w cs' y) →
        ∃ l : List α, l.length = len ∧ ∀ i (h : i < l.length), ∃ cs', w.cells? base (a.add (i * P.cellsOf e)) (P.cellsOf e) = some cs' ∧ R w cs' l[i] := by
      intro len
      induction len with
      | zero => exact fun _ => ⟨[], rfl, fun i h => absurd h (Nat.not_lt_zero _)⟩
      | succ len ih =>
        intro hall
        obtain ⟨l, h1, h2⟩ := ih (fun i hi => hall i (by omega))
        obtain ⟨y, hy⟩ := hall len (by omega)
        refine ⟨l ++ [y], by simp [h1], fun i hi => ?_⟩
        by_cases hil : i < l.length
        · rw [List.getElem_append_left hil]; exact h2 i hil
        · have : i = len := by simp at hi; omega
          subst this
          rw [List.getElem_append_right (by omega)]
          simpa [h1] using hy
    obtain ⟨l, h1, h2⟩ := hlist len hall
    subst h1
    refine ⟨l, some a, cap, rfl, hl, hc, fun hne => ?_⟩
    have hpos : 0 < l.length := List.length_pos_iff.2 hne
    obtain ⟨b, off, spot⟩ := a
    have hspot : spot = none := by
      obtain ⟨cs', h3, _⟩ := h2 0 hpos
      obtain ⟨h4, h5⟩ := cells_get h3
      have h6 := h5 0 (by omega)
      have : w.cell? ((Addr.mk b off spot).add (0 * P.cellsOf e)) = some cs'[0] := by
        rw [List.getElem?_eq_getElem (by omega)] at h6
        simpa [Addr.add] using h6
      simpa [Addr.add] using World.cell?_spot this
    subst hspot
    refine ⟨b, off, rfl, fun i hi => ?_⟩
    obtain ⟨cs', h3, h4⟩ := h2 i hi
    obtain ⟨h5, h6⟩ := cells_get h3
    rw [hn] at h5 h6
    refine ⟨cs', h5, fun j hj => ?_, h4⟩
    rw [← h6 j hj]
    have e1 : ((Addr.mk b off none).add (i * (n + 1))).add j = ⟨b, off + i * (n + 1) + j, none⟩ := by
      rw [Deep.add_add]
      unfold Addr.add
      split
      · rename_i h0
        have : i * (n + 1) + j = 0 := h0
        rw [show off + i * (n + 1) + j = off by omega]
      · rw [Nat.add_assoc]
    rw [e1]
end
theorem flatMap_get {α : Type} (enc : α → List Value) (n : Nat) (hn : ∀ x, (enc x).length = n) : ∀ (l : List α) (i j : Nat) (h : i < l.length), j < n → (l.flatMap enc)[i * n + j]? = (enc l[i])[j]?
  | x :: l, 0, j, _, hj => by
    simp only [List.flatMap_cons, Nat.zero_mul, Nat.zero_add, List.getElem_cons_zero]
    rw [List.getElem?_append_left (by rw [hn]; exact hj)]
  | x :: l, i + 1, j, h, hj => by
    simp only [List.flatMap_cons, List.getElem_cons_succ]
    rw [List.getElem?_append_right (by rw [hn, Nat.add_mul]; omega), hn, show (i + 1) * n + j - n = i * n + j by rw [Nat.add_mul]; omega]
    exact flatMap_get enc n hn l i j (by simpa using h) hj
/-- What a call owns reads as a slice. -/
theorem own_slAt {α : Type} {R : Rdr α} {w : World} {base : Nat} {e : TypeId} {n : Nat} {v : Value} {l : List α} (enc : α → List Value) (hn : ∀ x, (enc x).length = n) (hR : ∀ x, R w (enc x) x)
    (h : w.ownsRow base e n v l.length (l.flatMap enc)) : ∃ a cap, v = .slice a l.length cap ∧ SlAt n R w a cap l ∧ ∀ k, v.ownBlock = some k → base ≤ k ∧ k < w.heap.size := by
  have hlt := h.lt
  rcases h.2 with ⟨rfl, h0⟩ | ⟨g, cap, cur, rfl, hb, hg, hc, hm, hs, ht⟩
  · have : l = [] := List.eq_nil_of_length_eq_zero h0
    subst this
    exact ⟨none, 0, rfl, ⟨Nat.le_refl _, by unfold maxLen; omega, fun h => absurd rfl h⟩, hlt⟩
  · refine ⟨_, cap, rfl, ⟨hc, hm, fun _ => ⟨g, 0, rfl, fun i hi => ⟨enc l[i], hn _, fun j hj => ?_, hR _⟩⟩⟩, hlt⟩
    have hcell := h.cellAt (i * n + j) (by
      have : (i + 1) * n ≤ l.length * n := Nat.mul_le_mul_right _ hi
      rw [Nat.add_mul] at this
      omega)
    rw [show 0 + i * n + j = i * n + j by omega, hcell]
    exact flatMap_get enc n hn l i j hi hj
/-- A reading that lasts where nothing that was there turns. -/
def Stable {α : Type} (R : Rdr α) : Prop := ∀ (w w' : World) (cs : List Value) (x : α), K0 w w' → R w cs x → R w' cs x
theorem stable_int : Stable rInt := fun _ _ _ _ _ h => h
theorem stable_str : Stable rStr := fun _ _ _ _ _ h => h
theorem RowAt.keep0 {α : Type} {n : Nat} {R : Rdr α} (hR : Stable R) {w w' : World} {b off : Nat} {l : List α} (h : RowAt n R w b off l) (hk : K0 w w') : RowAt n R w' b off l := fun i hi => by
  obtain ⟨cs, h1, h2, h3⟩ := h i hi
  refine ⟨cs, h1, fun j hj => ?_, hR w w' cs _ hk h3⟩
  have e := h2 j hj
  rw [List.getElem?_eq_getElem (by omega)] at e ⊢
  exact hk.cell' e (fun e => e)
theorem SlAt.keep0 {α : Type} {n : Nat} {R : Rdr α} (hR : Stable R) {w w' : World} {a : Option Addr} {cap : Nat} {l : List α} (h : SlAt n R w a cap l) (hk : K0 w w') : SlAt n R w' a cap l :=
  ⟨h.1, h.2.1, fun hne => by obtain ⟨b, off, h1, h2⟩ := h.2.2 hne; exact ⟨b, off, h1, h2.keep0 hR hk⟩⟩
theorem below_cell {w0 w : World} (h : Below w0.heap.size w0 w) {p : Addr} {v : Value} (hc : w0.cell? p = some v) : w.cell? p = some v ∧ p.block < w.heap.size :=
  ⟨(h.cell (World.block_lt_of_cell? w0 p hc)).trans hc, Nat.lt_of_lt_of_le (World.block_lt_of_cell? w0 p hc) h.size⟩
end Go.Proofs.YtklhlffdpojkoaaGreat.Fx

/-
  The package assign's data as it came in: members and topics, by cells; what the law's 'few' answers.
-/
namespace Go.Proofs.YtklhlffdpojkoaaGreat
open Go.RowKit Fx

structure SubC where
  member : Int
  topics : List ByteArray
structure TopC where
  name : ByteArray
  parts : Int
def rSub : Rdr SubC := fun w cs s => ∃ a cap, cs = [.int .i64 s.member, .slice a s.topics.length cap] ∧ SlAt 1 rStr w a cap s.topics ∧ (Lit.int .i64 s.member).wf = true
def rTop : Rdr TopC := fun _ cs t => cs = [.string t.name, .int .i64 t.parts] ∧ (Lit.int .i64 t.parts).wf = true

theorem sub_cells {w0 w : World} {b off : Nat} {l : List SubC} (h : RowAt 2 rSub w0 b off l) (hb : Below w0.heap.size w0 w) (k : Nat) (hk : k < l.length) :
    ∃ a cap, w.cell? ⟨b, off + k * 2, none⟩ = some (.int .i64 l[k].member) ∧ w.cell? ⟨b, off + k * 2 + 1, none⟩ = some (.slice a l[k].topics.length cap) ∧ b < w.heap.size ∧ SlAt 1 rStr w0 a cap l[k].topics := by
  obtain ⟨cs, h1, h2, a, cap, rfl, h3, _⟩ := h k hk
  have e0 : w0.cell? ⟨b, off + k * 2, none⟩ = some (.int .i64 l[k].member) := h2 0 (by omega)
  exact ⟨a, cap, (below_cell hb e0).1, (below_cell hb (h2 1 (by omega))).1, (below_cell hb e0).2, h3⟩

theorem top_cells {w0 w : World} {b off : Nat} {l : List TopC} (h : RowAt 2 rTop w0 b off l) (hb : Below w0.heap.size w0 w) (k : Nat) (hk : k < l.length) :
    w.cell? ⟨b, off + k * 2, none⟩ = some (.string l[k].name) ∧ w.cell? ⟨b, off + k * 2 + 1, none⟩ = some (.int .i64 l[k].parts) ∧ b < w.heap.size := by
  obtain ⟨cs, h1, h2, rfl, _⟩ := h k hk
  have e0 : w0.cell? ⟨b, off + k * 2, none⟩ = some (.string l[k].name) := h2 0 (by omega)
  exact ⟨(below_cell hb e0).1, (below_cell hb (h2 1 (by omega))).1, (below_cell hb e0).2⟩
theorem str_cells {w0 w : World} {b off : Nat} {l : List ByteArray} (h : RowAt 1 rStr w0 b off l) (hb : Below w0.heap.size w0 w) (k : Nat) (hk : k < l.length) :
    w.cell? ⟨b, off + k, none⟩ = some (.string l[k]) ∧ b < w.heap.size := by
  obtain ⟨cs, h1, h2, rfl, _⟩ := h k hk
  have e0 : w0.cell? ⟨b, off + k, none⟩ = some (.string l[k]) := by have := h2 0 (by omega); simpa using this
  exact below_cell hb e0
def fewB (subs : List SubC) (tops : List TopC) : Bool := decide (subs.length ≤ 30) && decide (tops.length ≤ 30) && subs.all fun s => decide (s.topics.length ≤ 30)

def Same (w : World) (e : Ending) (v : Value) (w' : World) : Prop := e = .returned v ∧ Keeps (fun _ => False) w w'

end Go.Proofs.YtklhlffdpojkoaaGreat
