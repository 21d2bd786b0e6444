/-
  What a crash does, as a plain function of the sorted names.
-/
import Derived.Test.YtjfblcmpdcbpgaaDf
namespace Go.Proofs.Ytjfblcmpdcbpgaa
open Go.RowKit Fx

def kOf (keep : List Int) (n : Nat) (x : FileC) : Nat := match keep[n]? with
  | some v => (min (max v 0) (x.bytes.size - x.safe)).toNat
  | none => 0
def safeD (D : DiskC) (s : ByteArray) : DiskC := ⟨D.room, D.used, D.fuse, aput D.files s ⟨(oldF D s).bytes, (oldF D s).bytes.size⟩⟩
def crashS (keep : List Int) (p : DiskC × Nat) (s : ByteArray) : DiskC × Nat :=
  if (oldF p.1 s).safe = (oldF p.1 s).bytes.size then p else (safeD (keepD p.1 s ((oldF p.1 s).safe.toNat + kOf keep p.2 (oldF p.1 s))) s, p.2 + 1)
def crashL (keep : List Int) (D : DiskC) (l : List ByteArray) : DiskC × Nat := l.foldl (crashS keep) (D, 0)
def upD (D : DiskC) : DiskC := ⟨D.room, D.used, -1, D.files⟩
theorem crashL_next (keep : List Int) (D : DiskC) (l : List ByteArray) {i : Nat} (h : i < l.length) : crashL keep D (l.take (i + 1)) = crashS keep (crashL keep D (l.take i)) l[i] := by
  unfold crashL
  rw [List.take_succ_eq_append_getElem h, List.foldl_append]
  rfl
theorem kOf_le {keep : List Int} {n : Nat} {x : FileC} (h : 0 ≤ x.safe ∧ x.safe ≤ x.bytes.size) : x.safe.toNat + kOf keep n x ≤ x.bytes.size := by
  unfold kOf
  split <;> omega
theorem oldF_put (D : DiskC) (s : ByteArray) (x : FileC) (r u f : Int) : oldF ⟨r, u, f, aput D.files s x⟩ s = x := by
  simp [oldF, aget_aput]
theorem WfD.safeD {D : DiskC} (h : WfD D) {s : ByteArray} {x : FileC} (e : aget D.files s = some x) : WfD (safeD D s) := by
  have ho : oldF D s = x := by simp [oldF, e]
  unfold Go.Proofs.Ytjfblcmpdcbpgaa.safeD
  rw [ho]
  have hz := szF_put D.files s ⟨x.bytes, x.bytes.size⟩
  rw [e] at hz
  simp only [Option.getD_some] at hz
  have hu := h.used
  exact ⟨h.room, by show D.used = (szF (aput D.files s ⟨x.bytes, x.bytes.size⟩) : Int); omega, h.most, aput_all h.safe ⟨by simp, by simp⟩, h.fuse, h.keys.put _ _, aput_all h.names (h.names s x e)⟩
/-- The same names. -/
def SameN (D D' : DiskC) : Prop := ∀ s, (aget D'.files s).isSome = (aget D.files s).isSome
theorem SameN.put {D : DiskC} {s : ByteArray} {x : FileC} (e : aget D.files s = some x) (y : FileC) (r u f : Int) : SameN D ⟨r, u, f, aput D.files s y⟩ := fun t => by
  show (aget (aput D.files s y) t).isSome = _
  rw [aget_aput]
  split
  · rename_i h; subst h; rw [e]; rfl
  · rfl
theorem SameN.trans {D D' D'' : DiskC} (h : SameN D D') (h' : SameN D' D'') : SameN D D'' := fun s => (h' s).trans (h s)
theorem crashS_ok {keep : List Int} {p : DiskC × Nat} {s : ByteArray} (h : WfD p.1) {x : FileC} (e : aget p.1.files s = some x) : WfD (crashS keep p s).1 ∧ SameN p.1 (crashS keep p s).1 := by
  have ho : oldF p.1 s = x := by simp [oldF, e]
  unfold crashS
  split
  · exact ⟨h, fun _ => rfl⟩
  · rw [ho]
    have h1 := h.keepD e (kOf_le (keep := keep) (n := p.2) (h.safe s x e))
    have e1 : aget (keepD p.1 s (x.safe.toNat + kOf keep p.2 x)).files s = some (keepF x (x.safe.toNat + kOf keep p.2 x)) := by
      unfold keepD
      rw [ho]
      show aget (aput p.1.files s _) s = _
      rw [aget_aput, if_pos rfl]
    refine ⟨h1.safeD e1, SameN.trans (D' := keepD p.1 s (x.safe.toNat + kOf keep p.2 x)) ?_ (SameN.put e1 _ _ _ _)⟩
    exact SameN.put e _ _ _ _
theorem crashL_ok {keep : List Int} {D : DiskC} (h : WfD D) {l : List ByteArray} (hl : ∀ s ∈ l, (aget D.files s).isSome) : ∀ i, i ≤ l.length → WfD (crashL keep D (l.take i)).1 ∧ SameN D (crashL keep D (l.take i)).1
  | 0, _ => ⟨h, fun _ => rfl⟩
  | i + 1, hi => by
    obtain ⟨h1, h2⟩ := crashL_ok h hl i (by omega)
    rw [crashL_next keep D l (by omega)]
    obtain ⟨x, hx⟩ := Option.isSome_iff_exists.1 ((h2 l[i]).trans (hl l[i] (List.getElem_mem _)))
    obtain ⟨h3, h4⟩ := crashS_ok (keep := keep) h1 hx
    exact ⟨h3, h2.trans h4⟩
theorem crashL_all {keep : List Int} {D : DiskC} (h : WfD D) {l : List ByteArray} (hl : ∀ s ∈ l, (aget D.files s).isSome) : WfD (crashL keep D l).1 ∧ SameN D (crashL keep D l).1 := by
  have := crashL_ok (keep := keep) h hl l.length (Nat.le_refl _)
  rw [List.take_length] at this
  exact this
theorem WfD.up {D : DiskC} (h : WfD D) : WfD (upD D) := ⟨h.room, h.used, h.most, h.safe, ⟨by show (-1 : Int) ≤ -1; omega, by show (-1 : Int) ≤ _; omega⟩, h.keys, h.names⟩
theorem crashL_n (keep : List Int) (l : List ByteArray) : ∀ (p : DiskC × Nat), (l.foldl (crashS keep) p).2 ≤ p.2 + l.length := by
  induction l with
  | nil => intro p; exact Nat.le_refl _
  | cons s l ih =>
    intro p
    rw [List.foldl_cons]
    have h1 := ih (crashS keep p s)
    have h2 : (crashS keep p s).2 ≤ p.2 + 1 := by unfold crashS; split <;> simp
    simp only [List.length_cons]
    omega
end Go.Proofs.Ytjfblcmpdcbpgaa
