/-
  How values that came in read, by cells: integers, texts, bools, slices; from the form's own reading. Over any program.
-/
import Derived.Test.YtbjpifipjcfhkaaMq
import Derived.ProofKit
import Derived.Deep.Slices
import Derived.Deep.Strs
import Derived.SizedLaws
namespace Go.Proofs.Ytbjpifipjcfhkaa.Fx
open Go.RowKit Go.ChangeShapes Go.WideShapes

/-- How a row of cells reads. -/
abbrev Rdr (α : Type) := World → List Value → α → Prop
def rInt : Rdr Int := fun _ cs n => cs = [.int .i64 n] ∧ (Lit.int .i64 n).wf = true
def rStr : Rdr ByteArray := fun _ cs s => cs = [.string s] ∧ s.size ≤ maxLen
def rBool : Rdr Bool := fun _ cs b => cs = [.bool b]
/-- The row of l from a place on, n cells each. -/
def RowAt {α : Type} (n : Nat) (R : Rdr α) (w : World) (b off : Nat) (l : List α) : Prop :=
  ∀ i (h : i < l.length), ∃ cs, cs.length = n ∧ (∀ j, j < n → w.cell? ⟨b, off + i * n + j, none⟩ = cs[j]?) ∧ R w cs l[i]
/-- The slice value with this address and capacity reads as l. -/
def SlAt {α : Type} (n : Nat) (R : Rdr α) (w : World) (a : Option Addr) (cap : Nat) (l : List α) : Prop :=
  l.length ≤ cap ∧ cap ≤ maxLen ∧ (l ≠ [] → ∃ b off, a = some ⟨b, off, none⟩ ∧ RowAt n R w b off l)
def rSl {α : Type} (n : Nat) (R : Rdr α) : Rdr (List α) := fun w cs l => ∃ a cap, cs = [.slice a l.length cap] ∧ SlAt n R w a cap l
theorem SlAt.row {α : Type} {n : Nat} {R : Rdr α} {w : World} {a : Option Addr} {cap : Nat} {l : List α} (h : SlAt n R w a cap l) {k : Nat} (hk : k < l.length) : ∃ b off, a = some ⟨b, off, none⟩ ∧ RowAt n R w b off l :=
  h.2.2 (by intro e; subst e; simp at hk)
theorem SlAt.len {α : Type} {n : Nat} {R : Rdr α} {w : World} {a : Option Addr} {cap : Nat} {l : List α} (h : SlAt n R w a cap l) : l.length ≤ 9223372036854775807 := by have := h.1; have := h.2.1; unfold maxLen at this; omega
theorem rSl.slAt {α : Type} {n : Nat} {R : Rdr α} {w : World} {a : Option Addr} {len cap : Nat} {l : List α} (h : rSl n R w [.slice a len cap] l) : len = l.length ∧ SlAt n R w a cap l := by
  obtain ⟨a', cap', he, h⟩ := h
  simp only [List.cons.injEq, Value.slice.injEq, and_true] at he
  obtain ⟨rfl, rfl, rfl⟩ := he
  exact ⟨rfl, h⟩

theorem cells_get {w : World} {base : Nat} {a : Addr} {n : Nat} {cs : List Value} (h : w.cells? base a n = some cs) :
    cs.length = n ∧ ∀ j, j < n → w.cell? (a.add j) = cs[j]? := by
  unfold World.cells? at h
  split at h
  · have hf : ∀ (l : List Nat) (out : List Value), l.mapM (fun i => w.cell? (a.add i)) = some out → out.length = l.length ∧ ∀ j, j < l.length → (l[j]?).bind (fun i => w.cell? (a.add i)) = out[j]? := by
      intro l
      induction l with
      | nil => intro out h; simp at h; subst h; simp
      | cons i l ih =>
        intro out h
        simp only [List.mapM_cons, Option.bind_eq_bind, Option.bind_eq_some_iff, Option.pure_def, Option.some.injEq] at h
        obtain ⟨v, hv, out', ho, rfl⟩ := h
        obtain ⟨h1, h2⟩ := ih out' ho
        refine ⟨by simp [h1], fun j hj => ?_⟩
        cases j with
        | zero => simpa using hv
        | succ j => simpa using h2 j (by simpa using hj)
    obtain ⟨h1, h2⟩ := hf _ _ h
    refine ⟨by simpa using h1, fun j hj => ?_⟩
    have := h2 j (by simpa using hj)
    simpa [List.getElem?_range hj] using this
  · cases h

section
variable {H : Type} {enc : TypeId × Value → H} {P : Program} {w : World} {base : Nat} {spare : Nat → Bool} {held : Bool}
theorem rInt_of {t : TypeId} (ht : P.underlying t = some (.int .i64)) (fuel : Nat) (cs : List Value) (x : DataW H × List MemPlace) (h : DataW.trod enc P w base spare held fuel t cs = some x) : ∃ y, rInt w cs y := by
  obtain ⟨n, rfl, _, hw⟩ := DataW.trod_int ht h
  exact ⟨n, rfl, hw⟩
theorem rStr_of {t : TypeId} (ht : P.underlying t = some .string) (fuel : Nat) (cs : List Value) (x : DataW H × List MemPlace) (h : DataW.trod enc P w base spare held fuel t cs = some x) : ∃ y, rStr w cs y := by
  obtain ⟨s, rfl, _, hw⟩ := DataW.trod_string ht h
  exact ⟨s, rfl, hw⟩
theorem rBool_of {t : TypeId} (ht : P.underlying t = some .bool) (fuel : Nat) (cs : List Value) (x : DataW H × List MemPlace) (h : DataW.trod enc P w base spare held fuel t cs = some x) : ∃ y, rBool w cs y := by
  obtain ⟨b, rfl, _⟩ := DataW.trod_bool ht h
  exact ⟨b, rfl⟩
theorem rSl_of {α : Type} {R : Rdr α} {n : Nat} {t e : TypeId} (ht : P.underlying t = some (.slice e)) (hn : P.cellsOf e = n + 1)
    (he : ∀ (fuel : Nat) (cs : List Value) (x : DataW H × List MemPlace), DataW.trod enc P w base spare held fuel e cs = some x → ∃ y, R w cs y)
    (fuel : Nat) (cs : List Value) (x : DataW H × List MemPlace) (h : DataW.trod enc P w base spare held fuel t cs = some x) : ∃ y, rSl (n + 1) R w cs y := by
  rcases Deep.open_slice ht h with ⟨rfl, _⟩ | ⟨a, len, cap, m, k, D, Pl, rfl, hb, hl, hc, hm, _, hel⟩
  · exact ⟨[], none, 0, rfl, Nat.le_refl _, by unfold maxLen; omega, fun h => absurd rfl h⟩
  · have hml : len ≤ m := by rw [hm]; split <;> omega
    have hall : ∀ i, i < len → ∃ y : α, ∃ cs', w.cells? base (a.add (i * P.cellsOf e)) (P.cellsOf e) = some cs' ∧ R w cs' y := by
      intro i hi
      obtain ⟨cs', h1, h2⟩ := hel i (by omega)
      obtain ⟨y, hy⟩ := he _ _ _ h2
      exact ⟨y, cs', h1, hy⟩
    have hlist : ∀ len, (∀ i, i < len → ∃ y : α, ∃ cs', w.cells? base (a.add (i * P.cellsOf e)) (P.cellsOf e) = some cs' ∧ R w cs' y) →
        ∃ l : List α, l.length = len ∧ ∀ i (h : i < l.length), ∃ cs', w.cells? base (a.add (i * P.cellsOf e)) (P.cellsOf e) = some cs' ∧ R w cs' l[i] := by
      intro len
      induction len with
      | zero => exact fun _ => ⟨[], rfl, fun i h => absurd h (Nat.not_lt_zero _)⟩
      | succ len ih =>
        intro hall
        obtain ⟨l, h1, h2⟩ := ih (fun i hi => hall i (by omega))
        obtain ⟨y, hy⟩ := hall len (by omega)
        refine ⟨l ++ [y], by simp [h1], fun i hi => ?_⟩
        by_cases hil : i < l.length
        · rw [List.getElem_append_left hil]; exact h2 i hil
        · have : i = len := by simp at hi; omega
          subst this
          rw [List.getElem_append_right (by omega)]
          simpa [h1] using hy
    obtain ⟨l, h1, h2⟩ := hlist len hall
    subst h1
    refine ⟨l, some a, cap, rfl, hl, hc, fun hne => ?_⟩
    have hpos : 0 < l.length := List.length_pos_iff.2 hne
    obtain ⟨b, off, spot⟩ := a
    have hspot : spot = none := by
      obtain ⟨cs', h3, _⟩ := h2 0 hpos
      obtain ⟨h4, h5⟩ := cells_get h3
      have h6 := h5 0 (by omega)
      have : w.cell? ((Addr.mk b off spot).add (0 * P.cellsOf e)) = some cs'[0] := by
        rw [List.getElem?_eq_getElem (by omega)] at h6
        simpa [Addr.add] using h6
      simpa [Addr.add] using World.cell?_spot this
    subst hspot
    refine ⟨b, off, rfl, fun i hi => ?_⟩
    obtain ⟨cs', h3, h4⟩ := h2 i hi
    obtain ⟨h5, h6⟩ := cells_get h3
    rw [hn] at h5 h6
    refine ⟨cs', h5, fun j hj => ?_, h4⟩
    rw [← h6 j hj]
    have e1 : ((Addr.mk b off none).add (i * (n + 1))).add j = ⟨b, off + i * (n + 1) + j, none⟩ := by
      rw [Deep.add_add]
      unfold Addr.add
      split
      · rename_i h0
        have : i * (n + 1) + j = 0 := h0
        rw [show off + i * (n + 1) + j = off by omega]
      · rw [Nat.add_assoc]
    rw [e1]
end
theorem flatMap_get {α : Type} (enc : α → List Value) (n : Nat) (hn : ∀ x, (enc x).length = n) : ∀ (l : List α) (i j : Nat) (h : i < l.length), j < n → (l.flatMap enc)[i * n + j]? = (enc l[i])[j]?
  | x :: l, 0, j, _, hj => by
    simp only [List.flatMap_cons, Nat.zero_mul, Nat.zero_add, List.getElem_cons_zero]
    rw [List.getElem?_append_left (by rw [hn]; exact hj)]
  | x :: l, i + 1, j, h, hj => by
    simp only [List.flatMap_cons, List.getElem_cons_succ]
    rw [List.getElem?_append_right (by rw [hn, Nat.add_mul]; omega), hn, show (i + 1) * n + j - n = i * n + j by rw [Nat.add_mul]; omega]
    exact flatMap_get enc n hn l i j (by simpa using h) hj
/-- What a call owns reads as a slice. -/
theorem own_slAt {α : Type} {R : Rdr α} {w : World} {base : Nat} {e : TypeId} {n : Nat} {v : Value} {l : List α} (enc : α → List Value) (hn : ∀ x, (enc x).length = n) (hR : ∀ x, R w (enc x) x)
    (h : w.ownsRow base e n v l.length (l.flatMap enc)) : ∃ a cap, v = .slice a l.length cap ∧ SlAt n R w a cap l ∧ ∀ k, v.ownBlock = some k → base ≤ k ∧ k < w.heap.size := by
  have hlt := h.lt
  rcases h.2 with ⟨rfl, h0⟩ | ⟨g, cap, cur, rfl, hb, hg, hc, hm, hs, ht⟩
  · have : l = [] := List.eq_nil_of_length_eq_zero h0
    subst this
    exact ⟨none, 0, rfl, ⟨Nat.le_refl _, by unfold maxLen; omega, fun h => absurd rfl h⟩, hlt⟩
  · refine ⟨_, cap, rfl, ⟨hc, hm, fun _ => ⟨g, 0, rfl, fun i hi => ⟨enc l[i], hn _, fun j hj => ?_, hR _⟩⟩⟩, hlt⟩
    have hcell := h.cellAt (i * n + j) (by
      have : (i + 1) * n ≤ l.length * n := Nat.mul_le_mul_right _ hi
      rw [Nat.add_mul] at this
      omega)
    rw [show 0 + i * n + j = i * n + j by omega, hcell]
    exact flatMap_get enc n hn l i j hi hj
/-- A reading that lasts where nothing that was there turns. -/
def Stable {α : Type} (R : Rdr α) : Prop := ∀ (w w' : World) (cs : List Value) (x : α), K0 w w' → R w cs x → R w' cs x
theorem stable_int : Stable rInt := fun _ _ _ _ _ h => h
theorem stable_str : Stable rStr := fun _ _ _ _ _ h => h
theorem RowAt.keep0 {α : Type} {n : Nat} {R : Rdr α} (hR : Stable R) {w w' : World} {b off : Nat} {l : List α} (h : RowAt n R w b off l) (hk : K0 w w') : RowAt n R w' b off l := fun i hi => by
  obtain ⟨cs, h1, h2, h3⟩ := h i hi
  refine ⟨cs, h1, fun j hj => ?_, hR w w' cs _ hk h3⟩
  have e := h2 j hj
  rw [List.getElem?_eq_getElem (by omega)] at e ⊢
  exact hk.cell' e (fun e => e)
theorem SlAt.keep0 {α : Type} {n : Nat} {R : Rdr α} (hR : Stable R) {w w' : World} {a : Option Addr} {cap : Nat} {l : List α} (h : SlAt n R w a cap l) (hk : K0 w w') : SlAt n R w' a cap l :=
  ⟨h.1, h.2.1, fun hne => by obtain ⟨b, off, h1, h2⟩ := h.2.2 hne; exact ⟨b, off, h1, h2.keep0 hR hk⟩⟩
theorem below_cell {w0 w : World} (h : Below w0.heap.size w0 w) {p : Addr} {v : Value} (hc : w0.cell? p = some v) : w.cell? p = some v ∧ p.block < w.heap.size :=
  ⟨(h.cell (World.block_lt_of_cell? w0 p hc)).trans hc, Nat.lt_of_lt_of_le (World.block_lt_of_cell? w0 p hc) h.size⟩
end Go.Proofs.Ytbjpifipjcfhkaa.Fx
