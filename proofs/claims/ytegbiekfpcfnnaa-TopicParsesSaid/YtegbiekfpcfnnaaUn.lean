/-
  The program's table and the document's side by side.
-/
import Derived.Test.YtegbiekfpcfnnaaUk
import Derived.Test.YtegbiekfpcfnnaaUm
namespace Go.Proofs.Ytegbiekfpcfnnaa
open Go.RowKit Fx

theorem rtcr_any {w : World} {F : Nat → Prop} {b : Nat} {R : Tbl} (s : ByteArray) (p : Int) (h : RTst w F b R) (wf : WfT R) :
    Calls Try.prog 15 #[.pointer (some ⟨b, 0, none⟩), .string s, .int .i64 p] w (RTcrP w F b R s p) := by
  obtain ⟨v, h⟩ := h
  have hl : R.all.length ≤ 1000 := Nat.le_trans wf.len (by decide)
  by_cases hb : s.size = 0 ∨ 100 < s.size ∨ p < 1 ∨ 16 < p
  · exact rtcr_bad s p h hb
  · cases ha : aget R.all s with
    | some x => exact rtcr_there s p h hl hb ha
    | none =>
      by_cases hfu : 20 ≤ R.all.length ∨ 1073741824 ≤ R.next
      · exact rtcr_full s p h hl hb ha hfu
      · exact rtcr_new s p h hb ha hfu wf.next.1
/-- Both tables, in a world that came of w0; the program's in blocks tb and m, the document's in b and F. -/
structure TSt (w0 wr : World) (tb m b : Nat) (F : Nat → Prop) (t R : Tbl) : Prop where
  tt : TblAt wr tb m t
  rr : RTst wr F b R
  sim : SimT t R
  wf : WfT t
  ap : ∀ k, F k → k ≠ tb ∧ k ≠ m
  n1 : w0.heap.size ≤ tb
  n2 : w0.heap.size ≤ m
  n3 : ∀ k, F k → w0.heap.size ≤ k
  k0 : K0 w0 wr
section
variable {w0 wr wx w1 w2 : World} {tb m b : Nat} {F : Nat → Prop} {t R t' R' : Tbl}
theorem TSt.keep (h : TSt w0 wr tb m b F t R) (hk : K0 wr wx) : TSt w0 wx tb m b F t R :=
  ⟨h.tt.keep hk (fun e => e) (fun e => e), h.rr.keep hk (fun _ _ e => e), h.sim, h.wf, h.ap, h.n1, h.n2, h.n3, K0.tr h.k0 hk⟩
theorem TSt.doc (h : TSt w0 wr tb m b F t R) (hk : Keeps (TblS tb m) wr w1) : RTst w1 F b R :=
  h.rr.keep hk (fun k hF e => e.elim (h.ap k hF).1 (h.ap k hF).2)
theorem TSt.both (h : TSt w0 wr tb m b F t R) (hT : TblAt w1 tb m t') (hk1 : Keeps (TblS tb m) wr w1) (hp : RTpost w1 F b R' w2) (hs : SimT t' R') (hw : WfT t') : ∃ F', TSt w0 w2 tb m b F' t' R' := by
  obtain ⟨F', hr, hF, hk2⟩ := hp
  have lt := hT.lt
  have lm := hT.map.lt
  have h1 : K0 w0 w1 := k0_then h.k0 hk1 (fun k e => e.elim (fun e => e ▸ h.n1) (fun e => e ▸ h.n2))
  refine ⟨F', hT.keep hk2 (fun e => (h.ap _ e).1 rfl) (fun e => (h.ap _ e).2 rfl), hr, hs, hw, fun k e => ?_, h.n1, h.n2, fun k e => ?_, k0_then h1 hk2 h.n3⟩
  · rcases hF k e with e | e
    · exact h.ap k e
    · exact ⟨by omega, by omega⟩
  · rcases hF k e with e | e
    · exact h.n3 k e
    · exact Nat.le_trans h1.size e
/-- A table anew, of blocks of its own. -/
theorem TSt.anew {tb' m' : Nat} (h : TSt w0 wr tb m b F t R) (hk : K0 wr w1) (hT : TblAt w1 tb' m' t') (h1 : wr.heap.size ≤ tb') (h2 : wr.heap.size ≤ m') (hs : SimT t' R) (hw : WfT t') : TSt w0 w1 tb' m' b F t' R :=
  ⟨hT, h.rr.keep hk (fun _ _ e => e), hs, hw, fun k e => by have := h.rr.lt k e; omega, Nat.le_trans h.k0.size h1, Nat.le_trans h.k0.size h2, h.n3, K0.tr h.k0 hk⟩
theorem TSt.wfR (h : TSt w0 wr tb m b F t R) : WfT R := h.sim.wf h.wf
theorem TSt.parsed (h : TSt w0 wr tb m b F t R) : paE (printT R) = 0 ∧ SimT ⟨paX (printT R), mapO (paF (printT R)).l⟩ R ∧ WfT ⟨paX (printT R), mapO (paF (printT R)).l⟩ := by
  obtain ⟨h1, h2, h3⟩ := parse_print h.wfR h.sim.ord
  have h4 : mapO R.all = R.all := mapO_keys R.all h.sim.ord.kd
  refine ⟨h1, ?_, ?_⟩
  · rw [h2, h3, h4]; exact ⟨rfl, fun _ => rfl, h.sim.ord⟩
  · rw [h2, h3, h4]; exact h.wfR
theorem TSt.create (h : TSt w0 wr tb m b F t R) (s : ByteArray) (p : Int) : SimT (t.create s p).2.2 (R.rcreate s p).2.2 ∧ WfT (t.create s p).2.2 ∧ (R.rcreate s p).1 = (t.create s p).1 ∧ (R.rcreate s p).2.1 = (t.create s p).2.1 :=
  ⟨(h.sim.create h.wf.keys s p).2.2, h.wf.create s p, (h.sim.create h.wf.keys s p).1, (h.sim.create h.wf.keys s p).2.1⟩
theorem printT_size {R : Tbl} (h : WfT R) : (printT R).size ≤ 2620 := by
  have h1 := print_small h R.all.length
  rw [List.take_length] at h1
  exact h1
/-- The lists of both. -/
theorem TSt.list (h : TSt w0 wr tb m b F t R) : Calls Try.prog 14 #[.pointer (some ⟨tb, 0, none⟩)] wr fun e w' => ∃ a c, e = .returned (.slice a (pairsT R).length c) ∧ SlAt 2 rT w' a c (pairsT R) ∧ K0 wr w' := by
  refine (list_at h.tt h.wf.keys (fun p hp => Nat.le_trans (h.wf.okP p hp).1 (by decide)) (Nat.le_trans h.wf.len (by decide))).mono ?_
  rintro e w' ⟨a, c, ss, rfl, hp, ho, hS, hk⟩
  have hss : ss = keysF R.all := h.sim.names h.wf hp ho
  subst hss
  rw [h.sim.pairs] at hS
  have hl : (keysF R.all).length = (pairsT R).length := by simp [keysF, pairsT]
  rw [hl]
  exact ⟨a, c, rfl, hS, hk⟩
theorem TSt.rlist (h : TSt w0 wr tb m b F t R) : Calls Try.prog 20 #[.pointer (some ⟨b, 0, none⟩)] wr fun e w' => ∃ a c, e = .returned (.slice a (pairsT R).length c) ∧ SlAt 2 rT w' a c (pairsT R) ∧ K0 wr w' := by
  refine (rtlist_any h.rr (Nat.le_trans h.wfR.len (by decide))).mono ?_
  rintro e w' ⟨a, c, rfl, hS, hk⟩
  have hl : R.all.length = (pairsT R).length := by simp [pairsT]
  rw [hl]
  exact ⟨a, c, rfl, hS, hk⟩
end
end Go.Proofs.Ytegbiekfpcfnnaa
