/-
  CoordMany: a coordinator that groups are made in one by one.
-/
import Derived.Laws.BytesArg
import Derived.Test.YtklhlffdpojkoaaPd
import Derived.Test.YtklhlffdpojkoaaCg
namespace Go.Proofs.Ytklhlffdpojkoaa
open Go.RowKit Go.Shelf Fx

def nm (i : Nat) : ByteArray := strOfNums [103, (i : Int)]
theorem nm_inj {i j : Nat} (hi : i < 256) (hj : j < 256) (h : nm i = nm j) : i = j := by
  have h1 := congrArg (fun b : ByteArray => (b.data.toList.map UInt8.toNat)) h
  simp [nm, strOfNums] at h1
  omega
theorem nm_size (i : Nat) : (nm i).size = 2 := strOfNums_size _
theorem nm_empty (i : Nat) : (nm i).toList.isEmpty = false := bytes_some (by rw [nm_size]; omega)
def gJ : GroupC := joinG (newG 10 10) (-1) [] 1
theorem gJ_join : joinE (newG 10 10) (-1) [] 1 = 0 := by kernel_rfl
def mL (k : Nat) : List (ByteArray × GroupC) := (List.range k).map fun i => (nm i, gJ)
def mC (k : Nat) : CoordC := ⟨10, 10, mL k, ⟨1000, []⟩⟩
theorem mL_len (k : Nat) : (mL k).length = k := by simp [mL]
theorem aget_no (l : List Nat) (s : ByteArray) (h : ∀ i ∈ l, nm i ≠ s) : aget (l.map fun i => (nm i, gJ)) s = none := by
  induction l with
  | nil => rfl
  | cons i l ih =>
    simp only [List.map_cons, aget]
    rw [if_neg (h i (by simp))]
    exact ih fun j hj => h j (by simp [hj])
theorem aget_mL {k j : Nat} (h : k ≤ j) (hj : j < 256) : aget (mL k) (nm j) = none :=
  aget_no _ _ fun i hi e => by
    have := List.mem_range.1 hi
    have := nm_inj (by omega) hj e
    omega
theorem aput_no {L : List (ByteArray × GroupC)} {s : ByteArray} (v : GroupC) (h : aget L s = none) : aput L s v = L ++ [(s, v)] := by
  induction L with
  | nil => rfl
  | cons p L ih =>
    obtain ⟨k, x⟩ := p
    simp only [aget] at h
    by_cases hk : k = s
    · rw [if_pos hk] at h; cases h
    · rw [if_neg hk] at h
      simp only [aput, if_neg hk, List.cons_append]
      rw [ih h]
theorem mC_put {k : Nat} (h : k < 256) : (⟨(mC k).s, (mC k).r, aput (mC k).gs (nm k) gJ, (mC k).off⟩ : CoordC) = mC (k + 1) := by
  show (⟨10, 10, aput (mL k) (nm k) gJ, ⟨1000, []⟩⟩ : CoordC) = _
  rw [aput_no _ (aget_mL (Nat.le_refl _) h)]
  simp [mC, mL, List.range_succ]
theorem many_join {w0 w : World} {cb k : Nat} (h : CSt w0 w cb (mC k)) (hk : k < 20) :
    Calls Try.prog 8 #[.pointer (some ⟨cb, 0, none⟩), .string (nm k), .int .i64 (-1), .slice none 0 0, .int .i64 1] w fun e w' => ∃ x y z : Int, e = .returned (.tuple #[.agg #[.int .i64 x, .int .i64 y, .int .i64 z], .int .i64 0]) ∧ CSt w0 w' cb (mC (k + 1)) := by
  refine (cst_new_join h (nm k) (-1) 1 _ [] (nm_empty k) (by rw [nm_size]; omega) (aget_mL (Nat.le_refl _) (by omega)) (by show (mL k).length < 20; rw [mL_len]; exact hk) ⟨by simp [mC], by simp [mC]⟩ (by simp) (by omega) (Out.nil _ _ _ _) gJ_join).mono fun e w' hq => ?_
  obtain ⟨rfl, h2⟩ := hq
  refine ⟨_, _, _, rfl, ?_⟩
  have h3 : CSt w0 w' cb ⟨(mC k).s, (mC k).r, aput (mC k).gs (nm k) gJ, (mC k).off⟩ := h2
  rw [mC_put (by omega)] at h3
  exact h3
theorem many_full {w0 w : World} {cb j : Nat} (h : CSt w0 w cb (mC 20)) (hj : 20 ≤ j) (hj2 : j < 256) :
    Calls Try.prog 8 #[.pointer (some ⟨cb, 0, none⟩), .string (nm j), .int .i64 (-1), .slice none 0 0, .int .i64 1] w fun e w' => e = .returned (.tuple #[.agg #[.int .i64 0, .int .i64 0, .int .i64 0], .int .i64 5]) ∧ CSt w0 w' cb (mC 20) := by
  have hh := h
  obtain ⟨Y, h⟩ := h
  refine (cjoin_full h (nm j) (-1) 1 none 0 0 (nm_empty j) (by rw [nm_size]; omega) (h.none (aget_mL hj hj2)) (by show 20 ≤ (mL 20).length; rw [mL_len]; omega)).mono fun e w' hq => ?_
  exact ⟨hq.1, hh.keep hq.2⟩
theorem many_names {w0 w : World} {cb k : Nat} (h : CSt w0 w cb (mC k)) (hk : k ≤ 20) :
    Calls Try.prog 11 #[.pointer (some ⟨cb, 0, none⟩)] w fun e w' => ∃ a c, e = .returned (.slice a k c) ∧ K0 w0 w' := by
  have hk0 := h.k0
  obtain ⟨Y, h⟩ := h
  have hlen : Y.L.length = k := by have := congrArg List.length h.core; simp [gcore, mC, mL] at this; exact this
  have hks : ∀ p ∈ avals gptr Y.L, p.1.size ≤ 100000 := fun p hp => by
    have h1 : p.1 ∈ (gcore Y.L).map (·.1) := by
      simp only [avals, List.mem_map] at hp
      obtain ⟨q, hq, rfl⟩ := hp
      simp only [gcore, List.map_map, List.mem_map]
      exact ⟨q, hq, rfl⟩
    rw [h.core] at h1
    simp only [mC, mL, List.map_map, List.mem_map] at h1
    obtain ⟨i, _, e⟩ := h1
    rw [← e]
    show (nm i).size ≤ 100000
    rw [nm_size]
    omega
  refine (names_any h (by omega) hks).mono fun e w' hq => ?_
  obtain ⟨a, c, rfl, hk2⟩ := hq
  exact ⟨a, c, by rw [hlen], K0.tr hk0 hk2⟩
/-- What the law knows between two rounds. -/
def MSt (w0 w : World) (cb k : Nat) : Prop := CSt w0 w cb (mC (min k 20))
theorem mst_join {w0 w : World} {cb k : Nat} (h : MSt w0 w cb k) (hk : k < 30) :
    Calls Try.prog 8 #[.pointer (some ⟨cb, 0, none⟩), .string (nm k), .int .i64 (-1), .slice none 0 0, .int .i64 1] w fun e w' => ∃ x y z : Int, e = .returned (.tuple #[.agg #[.int .i64 x, .int .i64 y, .int .i64 z], .int .i64 (if k < 20 then 0 else 5)]) ∧ MSt w0 w' cb (k + 1) := by
  unfold MSt at h ⊢
  by_cases h1 : k < 20
  · rw [Nat.min_eq_left (by omega)] at h
    rw [if_pos h1, Nat.min_eq_left (by omega)]
    exact many_join h h1
  · rw [Nat.min_eq_right (by omega)] at h
    rw [if_neg h1, Nat.min_eq_right (by omega)]
    exact (many_full h (by omega) (by omega)).mono fun e w' hq => ⟨0, 0, 0, hq.1, hq.2⟩
theorem bytes_nm {w : World} {b k : Nat} {t : TypeId} (h : w.heap[b]? = some (.cells #[.int .u8 103, .int .u8 k] t (0, 0))) :
    (convert 37 9 (.slice (some ⟨b, 0, none⟩) 2 2)).run Try.prog w = .ok (.string (nm k)) w :=
  run_convert_bytes_arg w 37 5 Try.underlying37 Try.underlying5 b 0 2 2 [103, (k : Int)] rfl (fun i hi => by
    match i, hi with
    | 0, _ => exact block_cell h 0
    | 1, _ => exact block_cell h 1) _ Try.underlying9
end Go.Proofs.Ytklhlffdpojkoaa
