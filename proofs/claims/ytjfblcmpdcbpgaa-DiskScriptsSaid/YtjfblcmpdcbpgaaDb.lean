/-
  What a disk's calls do, as plain functions; that a disk stays well formed.
-/
import Derived.Test.YtjfblcmpdcbpgaaDa
namespace Go.Proofs.Ytjfblcmpdcbpgaa
open Go.RowKit Fx

def askE (D : DiskC) : Int := if D.fuse = 0 then 7 else 0
def burn (D : DiskC) : DiskC := ⟨D.room, D.used, if 0 < D.fuse then D.fuse - 1 else D.fuse, D.files⟩
def namedB (s : ByteArray) : Bool := decide (s.size ≠ 0) && decide (s.size ≤ 40)
def fileE (D : DiskC) (s : ByteArray) : Int := if D.fuse = 0 then 7 else if (aget D.files s).isSome then 0 else 6
def noFile : FileC := ⟨⟨#[]⟩, 0⟩
def oldF (D : DiskC) (s : ByteArray) : FileC := (aget D.files s).getD noFile
def dappE (D : DiskC) (s t : ByteArray) : Int := if D.fuse = 0 then 7 else if namedB s = true then (if D.room < D.used + t.size then 5 else 0) else 1
def dappC (D : DiskC) (s t : ByteArray) : DiskC := if dappE D s t = 0 then burn ⟨D.room, D.used + t.size, D.fuse, aput D.files s ⟨(oldF D s).bytes ++ t, (oldF D s).safe⟩⟩ else D
def dsyncC (D : DiskC) (s : ByteArray) : DiskC := if fileE D s = 0 then burn ⟨D.room, D.used, D.fuse, aput D.files s ⟨(oldF D s).bytes, (oldF D s).bytes.size⟩⟩ else D
def dreadV (D : DiskC) (s : ByteArray) : ByteArray := if fileE D s = 0 then (oldF D s).bytes else ⟨#[]⟩
/-- A file's first bytes alone. -/
def keepF (x : FileC) (n : Nat) : FileC := ⟨x.bytes.extract 0 n, if x.safe ≤ n then x.safe else n⟩
def keepD (D : DiskC) (s : ByteArray) (n : Nat) : DiskC := ⟨D.room, D.used - ((oldF D s).bytes.size - n), D.fuse, aput D.files s (keepF (oldF D s) n)⟩
def dcutE (D : DiskC) (s : ByteArray) (n : Int) : Int := if fileE D s = 0 then (if 0 ≤ n ∧ n ≤ (oldF D s).bytes.size then 0 else 1) else fileE D s
def dcutC (D : DiskC) (s : ByteArray) (n : Int) : DiskC := if dcutE D s n = 0 then burn (keepD D s n.toNat) else D
def ddropC (D : DiskC) (s : ByteArray) : DiskC := if fileE D s = 0 then burn ⟨D.room, D.used - (oldF D s).bytes.size, D.fuse, adel D.files s⟩ else D
def drenE (D : DiskC) (s t : ByteArray) : Int := if fileE D s = 0 then (if namedB t = true then 0 else 1) else fileE D s
/-- What is at a name goes, if it is another one's. -/
def clearD (D : DiskC) (s t : ByteArray) : DiskC := if s ≠ t ∧ (aget D.files t).isSome then keepD D t 0 else D
def drenC (D : DiskC) (s t : ByteArray) : DiskC := if drenE D s t = 0 then burn ⟨(clearD D s t).room, (clearD D s t).used, (clearD D s t).fuse, aput (adel (clearD D s t).files s) t (oldF D s)⟩ else D
def dfuseE (n : Int) : Int := if n < -1 then 1 else 0
def dfuseC (D : DiskC) (n : Int) : DiskC := if n < -1 then D else ⟨D.room, D.used, n, D.files⟩
def newD (r : Int) : DiskC := ⟨r, 0, -1, []⟩
theorem noFile_size : noFile.bytes.size = 0 := rfl
/-- All bytes of all files. -/
def szF (l : List (ByteArray × FileC)) : Nat := (l.map fun p => p.2.bytes.size).sum
theorem szF_put (l : List (ByteArray × FileC)) (s : ByteArray) (x : FileC) : szF (aput l s x) + ((aget l s).getD noFile).bytes.size = szF l + x.bytes.size := by
  induction l with
  | nil => simp [aput, aget, szF, noFile_size]
  | cons p l ih =>
    obtain ⟨k, u⟩ := p
    simp only [aput, aget]
    by_cases h : k = s
    · simp [h, szF]; omega
    · simp only [h, if_false]
      simp only [szF, List.map_cons, List.sum_cons] at ih ⊢
      omega
theorem szF_del (l : List (ByteArray × FileC)) (s : ByteArray) : szF (adel l s) + ((aget l s).getD noFile).bytes.size = szF l := by
  induction l with
  | nil => simp [adel, aget, szF, noFile_size]
  | cons p l ih =>
    obtain ⟨k, u⟩ := p
    simp only [adel, aget]
    by_cases h : k = s
    · simp [h, szF]; omega
    · simp only [h, if_false]
      simp only [szF, List.map_cons, List.sum_cons] at ih ⊢
      omega
theorem szF_get {l : List (ByteArray × FileC)} {s : ByteArray} {x : FileC} (h : aget l s = some x) : x.bytes.size ≤ szF l := by
  have := szF_del l s
  rw [h] at this
  simp only [Option.getD_some] at this
  omega
structure WfD (D : DiskC) : Prop where
  room : 1 ≤ D.room ∧ D.room ≤ 4194304
  used : D.used = szF D.files
  most : D.used ≤ D.room
  safe : ∀ s x, aget D.files s = some x → 0 ≤ x.safe ∧ x.safe ≤ x.bytes.size
  fuse : -1 ≤ D.fuse ∧ D.fuse ≤ 9223372036854775807
  keys : KD D.files
  names : ∀ s x, aget D.files s = some x → s.size ≤ 40
theorem WfD.new {r : Int} (h : 1 ≤ r ∧ r ≤ 4194304) : WfD (newD r) :=
  ⟨h, rfl, by show (0 : Int) ≤ r; omega, fun s x e => (by cases e), ⟨by show (-1 : Int) ≤ -1; omega, by show (-1 : Int) ≤ _; omega⟩, .nil, fun s x e => (by cases e)⟩
theorem WfD.burn {D : DiskC} (h : WfD D) : WfD (burn D) :=
  ⟨h.room, h.used, h.most, h.safe, by have := h.fuse; unfold Go.Proofs.Ytjfblcmpdcbpgaa.burn; dsimp only; split <;> omega, h.keys, h.names⟩
theorem WfD.size {D : DiskC} (h : WfD D) {s : ByteArray} {x : FileC} (e : aget D.files s = some x) : x.bytes.size ≤ 4194304 := by
  have h1 := szF_get e
  have h2 := h.used
  have h3 := h.most
  have h4 := h.room
  omega
theorem WfD.old {D : DiskC} (h : WfD D) (s : ByteArray) : (oldF D s).bytes.size ≤ 4194304 ∧ 0 ≤ (oldF D s).safe ∧ (oldF D s).safe ≤ (oldF D s).bytes.size ∧ ((oldF D s).bytes.size : Int) ≤ D.used := by
  unfold oldF
  cases e : aget D.files s with
  | none =>
    refine ⟨by simp [noFile_size], by simp [noFile], by simp [noFile_size, noFile], ?_⟩
    have := h.used
    simp [noFile_size]
    omega
  | some x =>
    have h1 := h.size e
    have h2 := h.safe s x e
    have h3 := szF_get e
    have h4 := h.used
    exact ⟨h1, h2.1, h2.2, by simp; omega⟩
theorem aput_all {P : ByteArray → FileC → Prop} {l : List (ByteArray × FileC)} {s : ByteArray} {x : FileC} (h : ∀ t y, aget l t = some y → P t y) (h1 : P s x) : ∀ t y, aget (aput l s x) t = some y → P t y := fun t y e => by
  rw [aget_aput] at e
  split at e
  · rename_i h2; cases e; rw [← h2]; exact h1
  · exact h t y e
theorem adel_all {P : ByteArray → FileC → Prop} {l : List (ByteArray × FileC)} (hd : KD l) {s : ByteArray} (h : ∀ t y, aget l t = some y → P t y) : ∀ t y, aget (adel l s) t = some y → P t y := fun t y e => by
  rw [aget_adel hd] at e
  split at e
  · cases e
  · exact h t y e
theorem fileE_zero {D : DiskC} {s : ByteArray} (h : fileE D s = 0) : ∃ x, aget D.files s = some x := by
  unfold fileE at h
  split at h
  · cases h
  · split at h
    · rename_i h2; exact Option.isSome_iff_exists.1 h2
    · cases h
theorem WfD.app {D : DiskC} (h : WfD D) (s t : ByteArray) : WfD (dappC D s t) := by
  unfold dappC
  split
  · rename_i he
    have hn : namedB s = true ∧ D.used + t.size ≤ D.room := by
      unfold dappE at he
      split at he
      · cases he
      · split at he
        · rename_i h1
          split at he
          · cases he
          · exact ⟨h1, by omega⟩
        · cases he
    have hs : s.size ≤ 40 := by have := hn.1; unfold namedB at this; simp at this; exact this.2
    have hz := szF_put D.files s ⟨(oldF D s).bytes ++ t, (oldF D s).safe⟩
    have hb : ((oldF D s).bytes ++ t).size = (oldF D s).bytes.size + t.size := by simp
    have ho := h.old s
    have hu := h.used
    refine WfD.burn ⟨h.room, ?_, hn.2, aput_all h.safe ⟨ho.2.1, ?_⟩, h.fuse, h.keys.put _ _, aput_all h.names hs⟩
    · show D.used + (t.size : Int) = (szF (aput D.files s ⟨(oldF D s).bytes ++ t, (oldF D s).safe⟩) : Int)
      unfold oldF at hz hb ho ⊢
      simp only at hz
      rw [hb] at hz
      omega
    · show (oldF D s).safe ≤ (((oldF D s).bytes ++ t).size : Int)
      omega
  · exact h
theorem WfD.sync {D : DiskC} (h : WfD D) (s : ByteArray) : WfD (dsyncC D s) := by
  unfold dsyncC
  split
  · rename_i he
    obtain ⟨x, hx⟩ := fileE_zero he
    have hz := szF_put D.files s ⟨(oldF D s).bytes, (oldF D s).bytes.size⟩
    have hu := h.used
    refine WfD.burn ⟨h.room, ?_, h.most, aput_all h.safe ⟨by simp, by simp⟩, h.fuse, h.keys.put _ _, aput_all h.names (h.names s x hx)⟩
    show D.used = (szF (aput D.files s ⟨(oldF D s).bytes, (oldF D s).bytes.size⟩) : Int)
    unfold oldF at hz ⊢
    simp only at hz
    omega
  · exact h
theorem keepF_size {x : FileC} {n : Nat} (h : n ≤ x.bytes.size) : (keepF x n).bytes.size = n := by
  simp [keepF]; omega
theorem WfD.keepD {D : DiskC} (h : WfD D) {s : ByteArray} {x : FileC} (e : aget D.files s = some x) {n : Nat} (hn : n ≤ x.bytes.size) : WfD (keepD D s n) := by
  have ho : oldF D s = x := by simp [oldF, e]
  have hz := szF_put D.files s (keepF x n)
  rw [e] at hz
  simp only [Option.getD_some] at hz
  rw [keepF_size hn] at hz
  have hu := h.used
  have hm := h.most
  have hs := h.safe s x e
  unfold Go.Proofs.Ytjfblcmpdcbpgaa.keepD
  rw [ho]
  refine ⟨h.room, ?_, ?_, aput_all h.safe ?_, h.fuse, h.keys.put _ _, aput_all h.names (h.names s x e)⟩
  · show D.used - ((x.bytes.size : Int) - n) = (szF (aput D.files s (keepF x n)) : Int)
    omega
  · show D.used - ((x.bytes.size : Int) - n) ≤ D.room
    omega
  · rw [keepF_size hn]
    show 0 ≤ (if x.safe ≤ n then x.safe else (n : Int)) ∧ (if x.safe ≤ n then x.safe else (n : Int)) ≤ n
    split <;> omega
theorem WfD.cut {D : DiskC} (h : WfD D) (s : ByteArray) (n : Int) : WfD (dcutC D s n) := by
  unfold dcutC
  split
  · rename_i he
    unfold dcutE at he
    split at he
    · rename_i h1
      obtain ⟨x, hx⟩ := fileE_zero h1
      have ho : oldF D s = x := by simp [oldF, hx]
      split at he
      · rename_i h2
        rw [ho] at h2
        exact (h.keepD hx (by omega)).burn
      · cases he
    · rename_i h1; exact absurd he h1
  · exact h
theorem WfD.drop {D : DiskC} (h : WfD D) (s : ByteArray) : WfD (ddropC D s) := by
  unfold ddropC
  split
  · have hz := szF_del D.files s
    have hu := h.used
    have hm := h.most
    refine WfD.burn ⟨h.room, ?_, ?_, adel_all h.keys h.safe, h.fuse, h.keys.del _, adel_all h.keys h.names⟩
    · show D.used - (((aget D.files s).getD noFile).bytes.size : Int) = szF (adel D.files s)
      omega
    · show D.used - _ ≤ D.room
      omega
  · exact h
end Go.Proofs.Ytjfblcmpdcbpgaa
