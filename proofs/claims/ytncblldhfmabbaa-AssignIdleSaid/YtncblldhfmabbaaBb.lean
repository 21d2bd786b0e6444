/-
  A member more that wants nothing: what is dealt to the others is the same.
-/
import Derived.Test.YtncblldhfmabbaaAz
namespace Go.Proofs.Ytncblldhfmabbaa
open Fx

def moreL (subs : List SubC) (last : Int) : List SubC := subs ++ [⟨last, []⟩]
theorem moreL_len (subs : List SubC) (last : Int) : (moreL subs last).length = subs.length + 1 := by simp [moreL]
theorem more_topics {subs : List SubC} {last : Int} {i : Nat} (h : i < subs.length) : topicsAt (moreL subs last) i = topicsAt subs i := by
  rw [topicsAt_eq (by rw [moreL_len]; omega), topicsAt_eq h]
  unfold moreL
  rw [List.getElem_append_left h]
theorem more_none (subs : List SubC) (last : Int) : topicsAt (moreL subs last) subs.length = [] := by
  rw [topicsAt_eq (by rw [moreL_len]; omega)]
  unfold moreL
  rw [List.getElem_append_right (Nat.le_refl _)]
  simp
theorem wantB_nil (s : ByteArray) : wantB [] s = false := rfl
theorem more_takers (subs : List SubC) (last : Int) (s : ByteArray) : takersL (moreL subs last) s = takersL subs s := by
  unfold takersL
  rw [moreL_len, takeTo_succ, more_none, wantB_nil]
  simp only [Bool.false_eq_true, if_false, List.append_nil]
  unfold takeTo
  refine List.filter_congr fun i hi => ?_
  rw [more_topics (List.mem_range.1 hi)]
theorem giveL_more (l : List ShareC) (x : ShareC) (m : Nat) (s : ByteArray) (i : Int) (h : m < l.length) : giveL (l ++ [x]) m s i = giveL l m s i ++ [x] := by
  unfold giveL
  apply List.ext_getElem
  · simp
  · intro k h1 h2
    rw [List.getElem_modify]
    by_cases hk : k < l.length
    · rw [List.getElem_append_left hk, List.getElem_append_left (by simpa using hk), List.getElem_modify]
    · rw [List.getElem_append_right (by omega), List.getElem_append_right (by simpa using hk), if_neg (by omega)]
      simp
theorem gave_more (x : ShareC) : ∀ (G : List (Nat × PartC)) (l : List ShareC), (∀ g ∈ G, g.1 < l.length) → gave (l ++ [x]) G = gave l G ++ [x]
  | [], _, _ => rfl
  | g :: G, l, h => by
    show gave (giveL (l ++ [x]) g.1 g.2.topic g.2.index) G = gave (giveL l g.1 g.2.topic g.2.index) G ++ [x]
    rw [giveL_more _ _ _ _ _ (h g List.mem_cons_self)]
    exact gave_more x G _ fun y hy => by rw [giveL_len]; exact h y (List.mem_cons_of_mem _ hy)
theorem emptyL_more (subs : List SubC) (last : Int) : emptyL (moreL subs last) = emptyL subs ++ [⟨last, []⟩] := by simp [emptyL, moreL]
theorem gaveTo_in {subs : List SubC} {tops : List TopC} {os : Nat → List Nat} (ho : OsOk subs tops os) : ∀ g ∈ gaveTo tops os tops.length, g.1 < (emptyL subs).length := fun g hg => by
  obtain ⟨i, hi, _, h2⟩ := gaveTo_mem ho _ (Nat.le_refl _) g hg
  rw [emptyL_len]
  unfold takersL takeTo at h2
  simp at h2
  exact h2.1
theorem osRange_more (subs : List SubC) (tops : List TopC) (last : Int) : osRange (moreL subs last) tops = osRange subs tops := by
  funext t
  unfold osRange
  rw [more_takers]
theorem state_more (subs : List SubC) (tops : List TopC) (last : Int) : ∀ t, (roundTo (moreL subs last) tops t).2 = (roundTo subs tops t).2
  | 0 => rfl
  | t + 1 => by
    rw [roundTo, roundTo, more_takers]
    split
    · exact state_more subs tops last t
    · rw [roundParts_gave, roundParts_gave, state_more subs tops last t]
theorem osRound_more (subs : List SubC) (tops : List TopC) (last : Int) : osRound (moreL subs last) tops = osRound subs tops := by
  funext t
  unfold osRound
  rw [more_takers, state_more]
theorem range_more (subs : List SubC) (tops : List TopC) (last : Int) : rangeL (moreL subs last) tops = rangeL subs tops ++ [⟨last, []⟩] := by
  unfold rangeL
  rw [rangeTo_gave, rangeTo_gave, osRange_more, emptyL_more]
  exact gave_more _ _ _ (gaveTo_in (range_ok subs tops))
theorem round_more (subs : List SubC) (tops : List TopC) (last : Int) : roundL (moreL subs last) tops = roundL subs tops ++ [⟨last, []⟩] := by
  unfold roundL
  rw [roundTo_gave, roundTo_gave, osRound_more, emptyL_more]
  exact gave_more _ _ _ (gaveTo_in (round_ok subs tops))
theorem chk_parts {subs : List SubC} {tops : List TopC} (h : chk subs tops = 0) : checkB subs tops = true := by
  unfold chk at h
  split at h
  · assumption
  · cases h
theorem chk_member {subs : List SubC} {tops : List TopC} (h : chk subs tops = 0) (k : Nat) (hk : k < subs.length) : 0 ≤ subs[k].member ∧ subs[k].member ≤ 1073741824 := by
  have h1 := chk_parts h
  unfold checkB at h1
  simp only [Bool.and_eq_true, List.all_eq_true] at h1
  have h2 := subOk_parts _ (h1.1.2 _ (List.getElem_mem hk))
  exact ⟨h2.1, h2.2.1⟩
theorem chk_more {subs : List SubC} {tops : List TopC} {last : Int} (h : chk subs tops = 0) (hn : subs.length ≤ 19) (h0 : 0 ≤ last) (h1 : last ≤ 1073741824) (hl : ∀ k (hk : k < subs.length), k + 1 = subs.length → subs[k].member < last) : chk (moreL subs last) tops = 0 := by
  have hp := chk_parts h
  have : checkB (moreL subs last) tops = true := by
    unfold checkB at hp ⊢
    simp only [Bool.and_eq_true, decide_eq_true_eq] at hp ⊢
    obtain ⟨⟨⟨⟨⟨a1, a2⟩, a3⟩, a4⟩, a5⟩, a6⟩ := hp
    refine ⟨⟨⟨⟨⟨by rw [moreL_len]; omega, a2⟩, ?_⟩, a4⟩, ?_⟩, a6⟩
    · rw [chain_iff] at a3 ⊢
      intro i hi
      rw [List.length_map, moreL_len] at hi
      by_cases e : i + 1 = subs.length
      · have h2 := hl i (by omega) e
        simp only [List.getElem_map, moreL]
        rw [List.getElem_append_left (by omega), List.getElem_append_right (by omega)]
        simpa using h2
      · have h2 := a3 i (by rw [List.length_map]; omega)
        simp only [List.getElem_map] at h2
        simp only [List.getElem_map, moreL]
        rw [List.getElem_append_left (by omega), List.getElem_append_left (by omega)]
        exact h2
    · rw [List.all_eq_true] at a5 ⊢
      intro x hx
      unfold moreL at hx
      rw [List.mem_append, List.mem_singleton] at hx
      rcases hx with hx | rfl
      · exact a5 x hx
      · simp [subOk, h0, h1, chain]
  unfold chk
  rw [if_pos this]
end Go.Proofs.Ytncblldhfmabbaa
