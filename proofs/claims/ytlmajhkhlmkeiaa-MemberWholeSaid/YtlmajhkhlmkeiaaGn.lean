/-
  What a group shows of itself (View).
-/
import Derived.Test.YtlmajhkhlmkeiaaGm
namespace Go.Proofs.Ytlmajhkhlmkeiaa
open Go.RowKit Go.Shelf Fx

theorem own_base {w : World} {base base' : Nat} {e : TypeId} {size : Nat} {v : Value} {n : Nat} {xs : List Value} (h : w.ownsRow base e size v n xs) (hb : base' ≤ base) : w.ownsRow base' e size v n xs := by
  refine ⟨h.1, h.2.elim .inl fun ⟨g, cap, cur, h1, h2, rest⟩ => .inr ⟨g, cap, cur, h1, by omega, rest⟩⟩
/-- The members as shown: a row of its own, with topics and partitions of its own. -/
def ViewAt (w' : World) (base : Nat) (mv : Value) (ones : List OneC) : Prop :=
  ∃ C : List OneV, C.map OneV.core = ones ∧ w'.ownsRow base 43 5 mv C.length (C.flatMap oneEnc) ∧ ∀ x ∈ C, Out 1 rStr w' (fun k => base ≤ k) x.tv x.topics ∧ Out 2 rPart w' (fun k => base ≤ k) x.pv x.parts
theorem ViewAt.keep {w w' : World} {S : Nat → Prop} {base : Nat} {mv : Value} {ones : List OneC} (h : ViewAt w base mv ones) (hk : Keeps S w w') (hS : ∀ k, S k → k < base ∨ w.heap.size ≤ k) : ViewAt w' base mv ones := by
  obtain ⟨C, h1, h2, h3⟩ := h
  refine ⟨C, h1, own_keep hk h2 (fun k e e2 => ?_), fun x hx => ⟨(h3 x hx).1.keep still_str hk (fun k hlt e e2 => ?_) (fun _ _ e => e), (h3 x hx).2.keep still_part hk (fun k hlt e e2 => ?_) (fun _ _ e => e)⟩⟩
  · have h5 := h2.lt k e
    rcases hS k e2 with h4 | h4 <;> omega
  · have e : base ≤ k := e
    rcases hS k e2 with h4 | h4 <;> omega
  · have e : base ≤ k := e
    rcases hS k e2 with h4 | h4 <;> omega
def ViewPost (w : World) (g : GroupC) (e : Ending) (w' : World) : Prop :=
  ∃ mv, e = .returned (.agg #[.int .i64 g.phase, .int .i64 g.gen, .int .i64 g.next, .int .i64 g.til, mv]) ∧ ViewAt w' w.heap.size mv g.ones ∧ K0 w w'
structure ViewMid (w wr : World) (g : GroupC) (mv : Value) (L C : List OneV) (k : Nat) : Prop where
  row : wr.ownsRow (w.heap.size + 2) 43 5 mv L.length (C.flatMap oneEnc)
  b0 : wr.heap[w.heap.size]? = some (.cells #[.int .i64 0, .int .i64 0, .int .i64 0, .int .i64 0, .slice none 0 0] 35 (0, 0))
  b1 : wr.heap[w.heap.size + 1]? = some (.cells #[.int .i64 g.phase, .int .i64 g.gen, .int .i64 g.next, .int .i64 g.til, mv] 35 (0, 0))
  keep : K0 w wr
  core : C.map OneV.core = L.map OneV.core
  done : ∀ j (h : j < C.length), j < k → Out 1 rStr wr (fun q => w.heap.size + 2 ≤ q ∧ mv.ownBlock ≠ some q) C[j].tv C[j].topics ∧ Out 2 rPart wr (fun q => w.heap.size + 2 ≤ q ∧ mv.ownBlock ≠ some q) C[j].pv C[j].parts
  rest : ∀ j, k ≤ j → C[j]? = L[j]?
theorem ViewMid.clen {w wr : World} {g : GroupC} {mv : Value} {L C : List OneV} {k : Nat} (h : ViewMid w wr g mv L C k) : C.length = L.length := by
  have := congrArg List.length h.core
  simpa using this
theorem ViewMid.next {w wr wz : World} {g : GroupC} {r cap : Nat} {L C : List OneV} {k : Nat} {tv pv : Value} (h : ViewMid w wr g (.slice (some ⟨r, 0, none⟩) L.length cap) L C k) (hk : k < L.length) (hkz : K0 wr wz)
    (ht : Out 1 rStr wz (fun q => wr.heap.size ≤ q) tv L[k].topics) (hp : Out 2 rPart wz (fun q => wr.heap.size ≤ q) pv L[k].parts) :
    ViewMid w ((wz.setCell ⟨r, k * 5 + 1, none⟩ tv).setCell ⟨r, k * 5 + 4, none⟩ pv) g (.slice (some ⟨r, 0, none⟩) L.length cap) L (C.modify k fun x => { x with tv := tv, pv := pv }) (k + 1) := by
  have hcl := h.clen
  have hrw : w.heap.size + 2 ≤ r ∧ r < wr.heap.size := h.row.lt r rfl
  have hkc : k < C.length := by omega
  have hck : C[k] = L[k] := by
    have := h.rest k (Nat.le_refl _)
    rw [List.getElem?_eq_getElem hkc, List.getElem?_eq_getElem hk] at this
    exact Option.some.inj this
  have hks : Keeps (fun q => q = r) wz ((wz.setCell ⟨r, k * 5 + 1, none⟩ tv).setCell ⟨r, k * 5 + 4, none⟩ pv) := ((Keeps.refl (fun q => q = r) wz).setC _ _ (fun _ => rfl)).setC _ _ (fun _ => rfl)
  have hka : Keeps (fun q => q = r) wr ((wz.setCell ⟨r, k * 5 + 1, none⟩ tv).setCell ⟨r, k * 5 + 4, none⟩ pv) := (hkz.mono fun _ _ e => e.elim).trans hks fun _ _ e => e
  have h0 := own_keep hkz h.row (fun _ _ e => e)
  have h1 := ((h0.stored (k * 5 + 1) tv).1.stored (k * 5 + 4) pv).1
  rw [flat_set' oneEnc 5 oneEnc_len (fun x => { x with tv := tv }) 1 tv (by omega) (fun _ => rfl) C k hkc,
    flat_set' oneEnc 5 oneEnc_len (fun x => { x with pv := pv }) 4 pv (by omega) (fun _ => rfl) _ k (by simpa using hkc), List.modify_modify_eq] at h1
  refine ⟨h1, ?_, ?_, (h.keep.mono fun _ _ e => e.elim).trans (S := fun _ => False) (S1 := fun q => q = r) hka (fun q hq e => by omega), ?_, fun j hj hjk => ?_, fun j hj => ?_⟩
  · rw [hka.block _ (block_lt h.b0) (by omega)]
    exact h.b0
  · rw [hka.block _ (block_lt h.b1) (by omega)]
    exact h.b1
  · rw [← h.core]
    apply List.ext_getElem
    · simp
    · intro j hj1 hj2
      simp only [List.getElem_map, List.getElem_modify]
      split <;> rfl
  · have hj' : j < C.length := by simpa using hj
    rw [List.getElem_modify]
    by_cases e : k = j
    · subst e
      rw [if_pos rfl]
      have e2 : C[k].topics = L[k].topics := by rw [hck]
      have e3 : C[k].parts = L[k].parts := by rw [hck]
      show Out 1 rStr _ _ tv C[k].topics ∧ Out 2 rPart _ _ pv C[k].parts
      rw [e2, e3]
      refine ⟨ht.keep still_str hks (fun q _ e1 e4 => ?_) (fun q _ e1 => ?_), hp.keep still_part hks (fun q _ e1 e4 => ?_) (fun q _ e1 => ?_)⟩
      · have e1 : wr.heap.size ≤ q := e1
        have e4 : q = r := e4
        omega
      · have e1 : wr.heap.size ≤ q := e1
        refine ⟨by omega, fun e4 => ?_⟩
        have : r = q := by simpa [Value.ownBlock] using e4
        omega
      · have e1 : wr.heap.size ≤ q := e1
        have e4 : q = r := e4
        omega
      · have e1 : wr.heap.size ≤ q := e1
        refine ⟨by omega, fun e4 => ?_⟩
        have : r = q := by simpa [Value.ownBlock] using e4
        omega
    · rw [if_neg e]
      have hd := h.done j hj' (by omega)
      refine ⟨hd.1.keep still_str hka (fun q _ e1 e4 => ?_) (fun _ _ e => e), hd.2.keep still_part hka (fun q _ e1 e4 => ?_) (fun _ _ e => e)⟩
      · have e4 : q = r := e4
        subst e4
        exact e1.2 rfl
      · have e4 : q = r := e4
        subst e4
        exact e1.2 rfl
  · have e : ¬ k = j := by omega
    have := h.rest j (by omega)
    simp [List.getElem?_modify, e, this]
end Go.Proofs.Ytlmajhkhlmkeiaa
