/-
  That no id stands twice, as two loops reckon it.
-/
import Derived.Test.YtegbiekfpcfnnaaUm
namespace Go.Proofs.Ytegbiekfpcfnnaa
open Go.RowKit Fx

theorem wE_and (e : Int) (b c : Bool) : wE (wE e b) c = wE e (b && c) := by
  unfold wE
  by_cases he : e = 0
  · cases b <;> cases c <;> simp [he]
  · simp [he]
theorem wE_true (e : Int) : wE e true = e := by
  unfold wE
  by_cases he : e = 0
  · simp [he]
  · simp [he]
def idAt (l : List OneP) (i : Nat) : Int := (l[i]?.map (·.2.1)).getD 0
theorem idAt_get {l : List OneP} {i : Nat} (h : i < l.length) : idAt l i = l[i].2.1 := by unfold idAt; rw [List.getElem?_eq_getElem h]; rfl
def uniq (l : List OneP) (i q : Nat) : Bool := decide (((l.take i).map (·.2.1)).Nodup) && (l.take q).all fun x => x.2.1 != idAt l i
theorem uniq_zero (l : List OneP) (i : Nat) : uniq l i 0 = decide (((l.take i).map (·.2.1)).Nodup) := by simp [uniq]
theorem uniq_next {l : List OneP} (i : Nat) {q : Nat} (h : q < l.length) : uniq l i (q + 1) = (uniq l i q && (l[q].2.1 != idAt l i)) := by
  unfold uniq
  rw [List.take_succ_eq_append_getElem h, List.all_append, ← Bool.and_assoc]
  simp
theorem uniq_done {l : List OneP} {i : Nat} (h : i < l.length) : uniq l i i = uniq l (i + 1) 0 := by
  rw [uniq_zero]
  unfold uniq
  rw [List.take_succ_eq_append_getElem h, List.map_append]
  rw [Bool.eq_iff_iff, Bool.and_eq_true, decide_eq_true_eq, decide_eq_true_eq, List.all_eq_true]
  constructor
  · rintro ⟨h1, h2⟩
    refine List.nodup_append.2 ⟨h1, by simp, fun x hx y hy e => ?_⟩
    obtain ⟨z, hz, rfl⟩ := List.mem_map.1 hx
    simp only [List.map_cons, List.map_nil, List.mem_singleton] at hy
    subst hy
    have h3 := h2 z hz
    rw [idAt_get h] at h3
    rw [e] at h3
    simp at h3
  · intro h1
    obtain ⟨h2, _, h3⟩ := List.nodup_append.1 h1
    refine ⟨h2, fun z hz => ?_⟩
    rw [idAt_get h]
    have h4 := h3 z.2.1 (List.mem_map.2 ⟨z, hz, rfl⟩) l[i].2.1 (by simp)
    simpa using h4
theorem uniq_none (l : List OneP) : uniq l 0 0 = true := by simp [uniq]
/-- What both loops come to. -/
theorem uniq_all (l : List OneP) (a e n sz : Int) (h : e = 0 → (l.length : Int) = n) :
    wE (wE e (decide (a = sz))) (uniq l l.length 0) = wE e (decide (a = sz) && decide (((idsO l).length : Int) = n)) := by
  rw [wE_and]
  by_cases he : e = 0
  · rw [uniq_zero, List.take_length]
    have h1 := idsO_len l
    have h2 := h he
    congr 2
    rw [Bool.eq_iff_iff, decide_eq_true_eq, decide_eq_true_eq, ← h1]
    omega
  · unfold wE
    rw [if_neg he, if_neg he]
end Go.Proofs.Ytegbiekfpcfnnaa
