/-
  How values that came in read, by cells: integers, texts, bools, slices; from the form's own reading. Over any program.
-/
import Derived.Test.YtegbiekfpcfnnaaMq
import Derived.ProofKit
import Derived.Deep.Slices
import Derived.Deep.Strs
import Derived.SizedLaws
namespace Go.Proofs.Ytegbiekfpcfnnaa.Fx
open Go.RowKit Go.ChangeShapes Go.WideShapes

/-- How a row of cells reads. -/
abbrev Rdr (α : Type) := World → List Value → α → Prop
def rInt : Rdr Int := fun _ cs n => cs = [.int .i64 n] ∧ (Lit.int .i64 n).wf = true
def rStr : Rdr ByteArray := fun _ cs s => cs = [.string s] ∧ s.size ≤ maxLen
def rBool : Rdr Bool := fun _ cs b => cs = [.bool b]
/-- The row of l from a place on, n cells each. -/
def RowAt {α : Type} (n : Nat) (R : Rdr α) (w : World) (b off : Nat) (l : List α) : Prop :=
  ∀ i (h : i < l.length), ∃ cs, cs.length = n ∧ (∀ j, j < n → w.cell? ⟨b, off + i * n + j, none⟩ = cs[j]?) ∧ R w cs l[i]
def rSl {α : Type} (n : Nat) (R : Rdr α) : Rdr (List α) := fun w cs l =>
  ∃ a cap, cs = [.slice a l.length cap] ∧ l.length ≤ cap ∧ cap ≤ maxLen ∧ (l ≠ [] → ∃ b off, a = some ⟨b, off, none⟩ ∧ RowAt n R w b off l)

theorem cells_get {w : World} {base : Nat} {a : Addr} {n : Nat} {cs : List Value} (h : w.cells? base a n = some cs) :
    cs.length = n ∧ ∀ j, j < n → w.cell? (a.add j) = cs[j]? := by
  unfold World.cells? at h
  split at h
  · have hf : ∀ (l : List Nat) (out : List Value), l.mapM (fun i => w.cell? (a.add i)) = some out → out.length = l.length ∧ ∀ j, j < l.length → (l[j]?).bind (fun i => w.cell? (a.add i)) = out[j]? := by
      intro l
      induction l with
      | nil => intro out h; simp at h; subst h; simp
      | cons i l ih =>
        intro out h
        simp only [List.mapM_cons, Option.bind_eq_bind, Option.bind_eq_some_iff, Option.pure_def, Option.some.injEq] at h
        obtain ⟨v, hv, out', ho, rfl⟩ := h
        obtain ⟨h1, h2⟩ := ih out' ho
        refine ⟨by simp [h1], fun j hj => ?_⟩
        cases j with
        | zero => simpa using hv
        | succ j => simpa using h2 j (by simpa using hj)
    obtain ⟨h1, h2⟩ := hf _ _ h
    refine ⟨by simpa using h1, fun j hj => ?_⟩
    have := h2 j (by simpa using hj)
    simpa [List.getElem?_range hj] using this
  · cases h

section
variable {H : Type} {enc : TypeId × Value → H} {P : Program} {w : World} {base : Nat} {spare : Nat → Bool} {held : Bool}
theorem rInt_of {t : TypeId} (ht : P.underlying t = some (.int .i64)) (fuel : Nat) (cs : List Value) (x : DataW H × List MemPlace) (h : DataW.trod enc P w base spare held fuel t cs = some x) : ∃ y, rInt w cs y := by
  obtain ⟨n, rfl, _, hw⟩ := DataW.trod_int ht h
  exact ⟨n, rfl, hw⟩
theorem rStr_of {t : TypeId} (ht : P.underlying t = some .string) (fuel : Nat) (cs : List Value) (x : DataW H × List MemPlace) (h : DataW.trod enc P w base spare held fuel t cs = some x) : ∃ y, rStr w cs y := by
  obtain ⟨s, rfl, _, hw⟩ := DataW.trod_string ht h
  exact ⟨s, rfl, hw⟩
theorem rBool_of {t : TypeId} (ht : P.underlying t = some .bool) (fuel : Nat) (cs : List Value) (x : DataW H × List MemPlace) (h : DataW.trod enc P w base spare held fuel t cs = some x) : ∃ y, rBool w cs y := by
  obtain ⟨b, rfl, _⟩ := DataW.trod_bool ht h
  exact ⟨b, rfl⟩
theorem rSl_of {α : Type} {R : Rdr α} {n : Nat} {t e : TypeId} (ht : P.underlying t = some (.slice e)) (hn : P.cellsOf e = n + 1)
    (he : ∀ (fuel : Nat) (cs : List Value) (x : DataW H × List MemPlace), DataW.trod enc P w base spare held fuel e cs = some x → ∃ y, R w cs y)
    (fuel : Nat) (cs : List Value) (x : DataW H × List MemPlace) (h : DataW.trod enc P w base spare held fuel t cs = some x) : ∃ y, rSl (n + 1) R w cs y := by
  rcases Deep.open_slice ht h with ⟨rfl, _⟩ | ⟨a, len, cap, m, k, D, Pl, rfl, hb, hl, hc, hm, _, hel⟩
  · exact ⟨[], none, 0, rfl, Nat.le_refl _, by unfold maxLen; omega, fun h => absurd rfl h⟩
  · have hml : len ≤ m := by rw [hm]; split <;> omega
    have hall : ∀ i, i < len → ∃ y : α, ∃ cs', w.cells? base (a.add (i * P.cellsOf e)) (P.cellsOf e) = some cs' ∧ R w cs' y := by
      intro i hi
      obtain ⟨cs', h1, h2⟩ := hel i (by omega)
      obtain ⟨y, hy⟩ := he _ _ _ h2
      exact ⟨y, cs', h1, hy⟩
    have hlist : ∀ len, (∀ i, i < len → ∃ y : α, ∃ cs', w.cells? base (a.add (i * P.cellsOf e)) (P.cellsOf e) = some cs' ∧ R w cs' y) →
        ∃ l : List α, l.length = len ∧ ∀ i (h : i < l.length), ∃ cs', w.cells? base (a.add (i * P.cellsOf e)) (P.cellsOf e) = some cs' ∧ R w cs' l[i] := by
      intro len
      induction len with
      | zero => exact fun _ => ⟨[], rfl, fun i h => absurd h (Nat.not_lt_zero _)⟩
      | succ len ih =>
        intro hall
        obtain ⟨l, h1, h2⟩ := ih (fun i hi => hall i (by omega))
        obtain ⟨y, hy⟩ := hall len (by omega)
        refine ⟨l ++ [y], by simp [h1], fun i hi => ?_⟩
        by_cases hil : i < l.length
        · rw [List.getElem_append_left hil]; exact h2 i hil
        · have : i = len := by simp at hi; omega
          subst this
          rw [List.getElem_append_right (by omega)]
          simpa [h1] using hy
    obtain ⟨l, h1, h2⟩ := hlist len hall
    subst h1
    refine ⟨l, some a, cap, rfl, hl, hc, fun hne => ?_⟩
    have hpos : 0 < l.length := List.length_pos_iff.2 hne
    obtain ⟨b, off, spot⟩ := a
    have hspot : spot = none := by
      obtain ⟨cs', h3, _⟩ := h2 0 hpos
      obtain ⟨h4, h5⟩ := cells_get h3
      have h6 := h5 0 (by omega)
      have : w.cell? ((Addr.mk b off spot).add (0 * P.cellsOf e)) = some cs'[0] := by
        rw [List.getElem?_eq_getElem (by omega)] at h6
        simpa [Addr.add] using h6
      simpa [Addr.add] using World.cell?_spot this
    subst hspot
    refine ⟨b, off, rfl, fun i hi => ?_⟩
    obtain ⟨cs', h3, h4⟩ := h2 i hi
    obtain ⟨h5, h6⟩ := cells_get h3
    rw [hn] at h5 h6
    refine ⟨cs', h5, fun j hj => ?_, h4⟩
    rw [← h6 j hj]
    have e1 : ((Addr.mk b off none).add (i * (n + 1))).add j = ⟨b, off + i * (n + 1) + j, none⟩ := by
      rw [Deep.add_add]
      unfold Addr.add
      split
      · rename_i h0
        have : i * (n + 1) + j = 0 := h0
        rw [show off + i * (n + 1) + j = off by omega]
      · rw [Nat.add_assoc]
    rw [e1]
end
end Go.Proofs.Ytegbiekfpcfnnaa.Fx
