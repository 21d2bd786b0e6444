/-
  Association lists: what a put, a struck key leave.
-/
import Derived.Test.YtbjpifipjcfhkaaMn
namespace Go.Proofs.Ytbjpifipjcfhkaa.Fx
section
variable {κ α : Type} [DecidableEq κ]
theorem aget_aput (L : List (κ × α)) (s t : κ) (v : α) : aget (aput L s v) t = if s = t then some v else aget L t := by
  induction L with
  | nil => simp [aget, aput]
  | cons p L ih =>
    obtain ⟨k, u⟩ := p
    simp only [aput]
    by_cases h : k = s
    · subst h
      simp only [if_true, aget]
      by_cases h2 : k = t <;> simp [h2]
    · simp only [h, if_false, aget, ih]
      by_cases h2 : k = t
      · subst h2
        simp [Ne.symm h]
      · simp [h2]
/-- Each key stands once. -/
def KD (L : List (κ × α)) : Prop := (L.map (·.1)).Nodup
theorem aget_out {L : List (κ × α)} {s : κ} (h : s ∉ L.map (·.1)) : aget L s = none := by
  induction L with
  | nil => rfl
  | cons p L ih =>
    obtain ⟨k, u⟩ := p
    simp only [List.map_cons, List.mem_cons, not_or] at h
    simp only [aget, if_neg (Ne.symm h.1)]
    exact ih h.2
theorem aget_in {L : List (κ × α)} {s : κ} {v : α} (h : aget L s = some v) : (s, v) ∈ L := by
  induction L with
  | nil => cases h
  | cons p L ih =>
    obtain ⟨k, u⟩ := p
    simp only [aget] at h
    by_cases hk : k = s
    · subst hk
      rw [if_pos rfl] at h
      cases h
      exact .head _
    · rw [if_neg hk] at h
      exact .tail _ (ih h)
theorem aget_of_mem {L : List (κ × α)} {s : κ} {v : α} (hd : KD L) (h : (s, v) ∈ L) : aget L s = some v := by
  induction L with
  | nil => cases h
  | cons p L ih =>
    obtain ⟨k, u⟩ := p
    unfold KD at hd
    simp only [List.map_cons, List.nodup_cons] at hd
    rcases List.mem_cons.1 h with e | e
    · cases e
      simp [aget]
    · have : k ≠ s := fun e2 => hd.1 (List.mem_map.2 ⟨(s, v), e, e2.symm⟩)
      simp only [aget, if_neg this]
      exact ih hd.2 e
theorem aget_adel {L : List (κ × α)} (hd : KD L) (s t : κ) : aget (adel L s) t = if s = t then none else aget L t := by
  induction L with
  | nil => simp [aget, adel]
  | cons p L ih =>
    obtain ⟨k, u⟩ := p
    unfold KD at hd
    simp only [List.map_cons, List.nodup_cons] at hd
    simp only [adel]
    by_cases h : k = s
    · subst h
      simp only [if_true, aget]
      by_cases h2 : k = t
      · subst h2
        simp [aget_out hd.1]
      · simp [h2]
    · simp only [h, if_false, aget, ih hd.2]
      by_cases h2 : k = t
      · subst h2
        simp [Ne.symm h]
      · simp [h2]
theorem keys_aput (L : List (κ × α)) (s t : κ) (v : α) : t ∈ (aput L s v).map (·.1) ↔ t = s ∨ t ∈ L.map (·.1) := by
  induction L with
  | nil => simp [aput]
  | cons p L ih =>
    obtain ⟨k, u⟩ := p
    simp only [aput]
    by_cases h : k = s
    · subst h
      simp
    · simp only [if_neg h, List.map_cons, List.mem_cons, ih]
      constructor
      · rintro (e | e | e) <;> simp [e]
      · rintro (e | e | e) <;> simp [e]
theorem KD.put {L : List (κ × α)} (hd : KD L) (s : κ) (v : α) : KD (aput L s v) := by
  induction L with
  | nil => simp [KD, aput]
  | cons p L ih =>
    obtain ⟨k, u⟩ := p
    unfold KD at hd
    simp only [List.map_cons, List.nodup_cons] at hd
    simp only [aput]
    by_cases h : k = s
    · subst h
      simp only [if_true, KD, List.map_cons, List.nodup_cons]
      exact hd
    · simp only [if_neg h, KD, List.map_cons, List.nodup_cons]
      refine ⟨fun e => ?_, ih hd.2⟩
      rcases (keys_aput _ _ _ _).1 e with e2 | e2
      · exact h e2
      · exact hd.1 e2
theorem keys_adel {L : List (κ × α)} {s t : κ} (h : t ∈ (adel L s).map (·.1)) : t ∈ L.map (·.1) := by
  induction L with
  | nil => simp [adel] at h
  | cons p L ih =>
    obtain ⟨k, u⟩ := p
    simp only [adel] at h
    by_cases hk : k = s
    · rw [if_pos hk] at h
      exact .tail _ h
    · rw [if_neg hk] at h
      rcases List.mem_cons.1 h with e | e
      · rw [e]; exact .head _
      · exact .tail _ (ih e)
theorem KD.del {L : List (κ × α)} (hd : KD L) (s : κ) : KD (adel L s) := by
  induction L with
  | nil => simp [KD, adel]
  | cons p L ih =>
    obtain ⟨k, u⟩ := p
    unfold KD at hd
    simp only [List.map_cons, List.nodup_cons] at hd
    simp only [adel]
    by_cases h : k = s
    · rw [if_pos h]; exact hd.2
    · simp only [if_neg h, KD, List.map_cons, List.nodup_cons]
      exact ⟨fun e => hd.1 (keys_adel e), ih hd.2⟩
end
/-- The shape of an association list under a map on what stands at the keys. -/
def amap {κ α β : Type} (f : α → β) (l : List (κ × α)) : List (κ × β) := l.map fun p => (p.1, f p.2)
section
variable {κ α β : Type} [DecidableEq κ] (f : α → β)
theorem aget_amap (l : List (κ × α)) (s : κ) : aget (amap f l) s = (aget l s).map f := by
  induction l with
  | nil => rfl
  | cons p l ih =>
    obtain ⟨k, x⟩ := p
    simp only [amap, List.map_cons, aget] at ih ⊢
    by_cases h : k = s
    · simp [h]
    · simp only [h, if_false]; exact ih
theorem aput_amap (l : List (κ × α)) (s : κ) (x : α) : aput (amap f l) s (f x) = amap f (aput l s x) := by
  induction l with
  | nil => rfl
  | cons p l ih =>
    obtain ⟨k, u⟩ := p
    simp only [amap, List.map_cons, aput] at ih ⊢
    by_cases h : k = s
    · simp [h]
    · simp only [h, if_false, List.map_cons]; rw [ih]
theorem adel_amap (l : List (κ × α)) (s : κ) : adel (amap f l) s = amap f (adel l s) := by
  induction l with
  | nil => rfl
  | cons p l ih =>
    obtain ⟨k, u⟩ := p
    simp only [amap, List.map_cons, adel] at ih ⊢
    by_cases h : k = s
    · simp [h]
    · simp only [h, if_false, List.map_cons]; rw [ih]
omit [DecidableEq κ] in
theorem amap_keys (l : List (κ × α)) : (amap f l).map (·.1) = l.map (·.1) := by simp [amap, Function.comp_def]
omit [DecidableEq κ] in
theorem KD.amap {l : List (κ × α)} (h : KD l) : KD (amap f l) := by unfold KD; rw [amap_keys]; exact h
end
theorem aput_same {κ α : Type} [DecidableEq κ] {L : List (κ × α)} {s : κ} {v : α} (h : aget L s = some v) : aput L s v = L := by
  induction L with
  | nil => simp [aget] at h
  | cons p L ih =>
    obtain ⟨k, u⟩ := p
    simp only [aget] at h
    by_cases hk : k = s
    · rw [if_pos hk] at h
      cases h
      simp [aput, hk]
    · rw [if_neg hk] at h
      simp [aput, hk, ih h]
end Go.Proofs.Ytbjpifipjcfhkaa.Fx
