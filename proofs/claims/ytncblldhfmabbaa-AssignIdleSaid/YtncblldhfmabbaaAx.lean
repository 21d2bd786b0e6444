/-
  What is dealt in rows, and one by one, is whole.
-/
import Derived.Test.YtncblldhfmabbaaAw
namespace Go.Proofs.Ytncblldhfmabbaa
open Fx

theorem gave_at : ∀ (G : List (Nat × PartC)) (l : List ShareC) (k : Nat) (h : k < l.length),
    (gave l G)[k]'(by rw [gave_len]; exact h) = ⟨l[k].member, l[k].parts ++ (G.filter fun g => g.1 == k).map (·.2)⟩
  | [], l, k, h => by simp [gave]
  | g :: G, l, k, h => by
    have h1 := gave_at G (giveL l g.1 g.2.topic g.2.index) k (by rw [giveL_len]; exact h)
    rw [giveL_at l _ _ _ k h] at h1
    have h2 : (gave l (g :: G))[k]'(by rw [gave_len]; exact h) = (gave (giveL l g.1 g.2.topic g.2.index) G)[k]'(by rw [gave_len, giveL_len]; exact h) := rfl
    rw [h2, h1, List.filter_cons]
    by_cases e : g.1 = k
    · simp [e]
    · simp [e]
theorem map_modify_sum (f : ShareC → Nat) (d : Nat) (u : ShareC → ShareC) (hu : ∀ x, f (u x) = f x + d) : ∀ (l : List ShareC) (m : Nat), m < l.length → ((l.modify m u).map f).sum = (l.map f).sum + d
  | [], m, h => by simp at h
  | x :: l, 0, _ => by simp [List.modify_zero_cons, hu]; omega
  | x :: l, m + 1, h => by
    have := map_modify_sum f d u hu l m (by simpa using h)
    simp only [List.modify_succ_cons, List.map_cons, List.sum_cons, this]
    omega
theorem total_give (l : List ShareC) (m : Nat) (s : ByteArray) (i : Int) (h : m < l.length) : total (giveL l m s i) = total l + 1 :=
  map_modify_sum (fun sh => sh.parts.length) 1 _ (fun x => by simp) l m h
theorem given_give (t : ByteArray) (q : Int) (l : List ShareC) (m : Nat) (s : ByteArray) (i : Int) (h : m < l.length) : given t q (giveL l m s i) = given t q l + if hit t q ⟨s, i⟩ then 1 else 0 :=
  map_modify_sum (fun sh => sh.parts.countP (hit t q)) _ _ (fun x => by simp [List.countP_cons]) l m h
theorem total_gave : ∀ (G : List (Nat × PartC)) (l : List ShareC), (∀ g ∈ G, g.1 < l.length) → total (gave l G) = total l + G.length
  | [], _, _ => rfl
  | g :: G, l, h => by
    have h1 := total_gave G (giveL l g.1 g.2.topic g.2.index) (fun x hx => by rw [giveL_len]; exact h x (List.mem_cons_of_mem _ hx))
    rw [total_give _ _ _ _ (h g List.mem_cons_self)] at h1
    rw [List.length_cons]
    show total (gave (giveL l g.1 g.2.topic g.2.index) G) = _
    omega
theorem given_gave (t : ByteArray) (q : Int) : ∀ (G : List (Nat × PartC)) (l : List ShareC), (∀ g ∈ G, g.1 < l.length) → given t q (gave l G) = given t q l + G.countP fun g => hit t q g.2
  | [], _, _ => rfl
  | g :: G, l, h => by
    have h1 := given_gave t q G (giveL l g.1 g.2.topic g.2.index) (fun x hx => by rw [giveL_len]; exact h x (List.mem_cons_of_mem _ hx))
    rw [given_give _ _ _ _ _ _ (h g List.mem_cons_self)] at h1
    rw [List.countP_cons]
    show given t q (gave (giveL l g.1 g.2.topic g.2.index) G) = _
    have e : (⟨g.2.topic, g.2.index⟩ : PartC) = g.2 := rfl
    rw [e] at h1
    omega
theorem total_empty (subs : List SubC) : total (emptyL subs) = 0 := by
  unfold total emptyL
  induction subs with
  | nil => rfl
  | cons s l ih => simpa using ih
theorem given_empty (t : ByteArray) (q : Int) (subs : List SubC) : given t q (emptyL subs) = 0 := by
  unfold given emptyL
  induction subs with
  | nil => rfl
  | cons s l ih => simpa using ih

theorem zip_len (s : ByteArray) : ∀ (os : List Nat) (n : Nat), (zipFrom s n os).length = os.length
  | [], _ => rfl
  | o :: os, n => by simp [zipFrom, zip_len s os (n + 1)]
theorem zip_mem {s : ByteArray} : ∀ {os : List Nat} {n : Nat} {g : Nat × PartC}, g ∈ zipFrom s n os → g.1 ∈ os ∧ g.2.topic = s
  | [], _, g, h => by simp [zipFrom] at h
  | o :: os, n, g, h => by
    rw [zipFrom, List.mem_cons] at h
    rcases h with rfl | h
    · exact ⟨List.mem_cons_self, rfl⟩
    · exact ⟨List.mem_cons_of_mem _ (zip_mem h).1, (zip_mem h).2⟩
theorem zip_other {s t : ByteArray} (hne : (s.toList == t.toList) = false) (q : Int) : ∀ (os : List Nat) (n : Nat), (zipFrom s n os).countP (fun g => hit t q g.2) = 0
  | [], _ => rfl
  | o :: os, n => by
    rw [zipFrom, List.countP_cons, zip_other hne q os (n + 1)]
    simp [hit, hne]
theorem zip_count (s : ByteArray) (q : Nat) : ∀ (os : List Nat) (n : Nat), (zipFrom s n os).countP (fun g => hit s q g.2) = if n ≤ q ∧ q < n + os.length then 1 else 0
  | [], n => by simp only [zipFrom, List.countP_nil, List.length_nil]; rw [if_neg (by omega)]
  | o :: os, n => by
    rw [zipFrom, List.countP_cons, zip_count s q os (n + 1)]
    have e : hit s q ⟨s, (n : Int)⟩ = decide (n = q) := by
      unfold hit
      by_cases h : n = q
      · simp [h]
      · have h5 : ¬ (n : Int) = q := by omega
        simp [h, h5]
    simp only [e, List.length_cons]
    by_cases h : n = q
    · subst h
      simp
      omega
    · simp only [h, decide_false, Bool.false_eq_true, if_false, Nat.add_zero]
      split <;> split <;> omega

theorem bytes_lt_trans : ∀ x y z : List UInt8, Op.bytesLess x y = true → Op.bytesLess y z = true → Op.bytesLess x z = true
  | _, [], _, h, _ => by cases ‹List UInt8› <;> simp [Op.bytesLess] at h
  | _, _ :: _, [], _, h => by simp [Op.bytesLess] at h
  | [], _ :: _, _ :: _, _, _ => rfl
  | a :: x, b :: y, c :: z, h1, h2 => by
    simp only [Op.bytesLess, Bool.or_eq_true, Bool.and_eq_true, decide_eq_true_eq, beq_iff_eq] at h1 h2 ⊢
    rcases h1 with h1 | ⟨rfl, h1⟩
    · rcases h2 with h2 | ⟨rfl, h2⟩
      · exact .inl (UInt8.lt_trans h1 h2)
      · exact .inl h1
    · rcases h2 with h2 | ⟨rfl, h2⟩
      · exact .inl h2
      · exact .inr ⟨rfl, bytes_lt_trans x y z h1 h2⟩
theorem bytes_lt_irrefl : ∀ x : List UInt8, Op.bytesLess x x = false
  | [] => rfl
  | a :: x => by simp [Op.bytesLess, bytes_lt_irrefl x]
theorem chain_lt {tops : List TopC} (hc : chain sltB (tops.map TopC.name) = true) : ∀ d i (h : i + d + 1 < tops.length), sltB (tops[i]'(by omega)).name (tops[i + d + 1]).name = true
  | 0, i, h => by
    have := (chain_iff _ _).1 hc i (by simpa using h)
    simpa only [List.getElem_map] using this
  | d + 1, i, h => by
    have h1 := chain_lt hc d i (by omega)
    have h2 := (chain_iff _ _).1 hc (i + d + 1) (by rw [List.length_map]; omega)
    simp only [List.getElem_map] at h2
    exact bytes_lt_trans _ _ _ h1 h2
theorem names_apart {tops : List TopC} (hc : chain sltB (tops.map TopC.name) = true) {i j : Nat} (hi : i < tops.length) (hj : j < tops.length) (hne : i ≠ j) : (tops[i].name.toList == tops[j].name.toList) = false := by
  rw [beq_eq_false_iff_ne]
  intro e
  rcases Nat.lt_or_ge i j with h | h
  · have h1 := chain_lt hc (j - i - 1) i (by omega)
    simp only [show i + (j - i - 1) + 1 = j by omega] at h1
    unfold sltB at h1
    rw [e, bytes_lt_irrefl] at h1
    cases h1
  · have h1 := chain_lt hc (i - j - 1) j (by omega)
    simp only [show j + (i - j - 1) + 1 = i by omega] at h1
    unfold sltB at h1
    rw [e, bytes_lt_irrefl] at h1
    cases h1

variable {subs : List SubC} {tops : List TopC} {os : Nat → List Nat}
theorem gaveTo_len (ho : OsOk subs tops os) : ∀ t, t ≤ tops.length → (gaveTo tops os t).length = mustTo subs tops t
  | 0, _ => by simp [gaveTo, mustTo]
  | t + 1, h => by
    rw [gaveTo, List.length_append, gaveTo_len ho t (by omega), zip_len, mustTo_succ (by omega), ho.len t (by omega)]
theorem gaveTo_mem (ho : OsOk subs tops os) : ∀ t, t ≤ tops.length → ∀ g ∈ gaveTo tops os t, ∃ i, ∃ h : i < tops.length, g.2.topic = tops[i].name ∧ g.1 ∈ takersL subs tops[i].name
  | 0, _, g, hg => by simp [gaveTo] at hg
  | t + 1, h, g, hg => by
    rw [gaveTo, List.mem_append, getD_name (by omega)] at hg
    rcases hg with hg | hg
    · exact gaveTo_mem ho t (by omega) g hg
    · obtain ⟨h1, h2⟩ := zip_mem hg
      exact ⟨t, by omega, h2, ho.own t (by omega) _ h1⟩
theorem gaveTo_count (ho : OsOk subs tops os) (hc : chain sltB (tops.map TopC.name) = true) {i : Nat} (hi : i < tops.length) {q : Nat} (hq : (q : Int) < tops[i].parts) : ∀ t, t ≤ tops.length →
    (gaveTo tops os t).countP (fun g => hit tops[i].name q g.2) = if i < t then oneIf (takersL subs tops[i].name) else 0
  | 0, _ => by simp [gaveTo]
  | t + 1, h => by
    rw [gaveTo, List.countP_append, gaveTo_count ho hc hi hq t (by omega), getD_name (by omega)]
    by_cases e : i = t
    · subst e
      rw [zip_count, ho.len i hi, if_neg (Nat.lt_irrefl _), if_pos (Nat.lt_succ_self _)]
      unfold oneIf
      by_cases h0 : (takersL subs tops[i].name).length = 0
      · rw [if_pos h0, if_neg (by omega)]
      · rw [if_neg h0, if_pos (by omega)]
    · rw [zip_other (names_apart hc (by omega) hi (fun e' => e e'.symm))]
      by_cases h2 : i < t
      · rw [if_pos h2, if_pos (by omega), Nat.add_zero]
      · rw [if_neg h2, if_neg (by omega)]
theorem toList_inj {a b : ByteArray} (h : a.toList = b.toList) : a = b := by
  by_cases e : a = b
  · exact e
  · have := (toList_ne e).2
    rw [h] at this
    simp at this
theorem gave_whole (ho : OsOk subs tops os) (hc : chain sltB (tops.map TopC.name) = true) : WholeL subs tops (gave (emptyL subs) (gaveTo tops os tops.length)) := by
  have hel : (emptyL subs).length = subs.length := by simp [emptyL]
  have hin : ∀ g ∈ gaveTo tops os tops.length, g.1 < (emptyL subs).length := fun g hg => by
    obtain ⟨i, hi, _, h2⟩ := gaveTo_mem ho _ (Nat.le_refl _) g hg
    rw [hel]
    unfold takersL takeTo at h2
    simp at h2
    exact h2.1
  refine ⟨by rw [gave_len, hel], ?_, ?_, ?_, ?_⟩
  · intro t h k hk j hj e
    have hk' : k < (emptyL subs).length := by rw [gave_len] at hk; exact hk
    have ha := gave_at (gaveTo tops os tops.length) (emptyL subs) k hk'
    have hm : (gave (emptyL subs) (gaveTo tops os tops.length))[k].parts[j] ∈ ((gaveTo tops os tops.length).filter fun g => g.1 == k).map (·.2) := by
      have h2 : (emptyL subs)[k].parts = [] := by simp [emptyL]
      have h3 : (gave (emptyL subs) (gaveTo tops os tops.length))[k].parts = ((gaveTo tops os tops.length).filter fun g => g.1 == k).map (·.2) := by rw [ha, h2]; rfl
      have h4 : ∀ (l1 l2 : List PartC) (_ : l1 = l2) (j : Nat) (hj : j < l1.length), l1[j] ∈ l2 := fun l1 l2 e j hj => by subst e; exact List.getElem_mem hj
      exact h4 _ _ h3 j hj
    obtain ⟨g, hg, hg2⟩ := List.mem_map.1 hm
    obtain ⟨hg, hgk⟩ := List.mem_filter.1 hg
    obtain ⟨i, hi, h1, h2⟩ := gaveTo_mem ho _ (Nat.le_refl _) g hg
    rw [← hg2, h1] at e
    have e2 := toList_inj (eq_of_beq e)
    rw [e2] at h2
    rw [← eq_of_beq hgk]
    exact h2
  · intro t h p hp
    rw [given_gave _ _ _ _ hin, given_empty, gaveTo_count ho hc h hp _ (Nat.le_refl _), if_pos h, Nat.zero_add]
  · intro k hk hk'
    have hk2 : k < (emptyL subs).length := by rw [hel]; exact hk'
    rw [gave_at _ _ k hk2]
    simp [emptyL]
  · rw [total_gave _ _ hin, total_empty, gaveTo_len ho _ (Nat.le_refl _), Nat.zero_add]
theorem range_whole (hc : chain sltB (tops.map TopC.name) = true) : WholeL subs tops (rangeL subs tops) := by
  unfold rangeL
  rw [rangeTo_gave]
  exact gave_whole (range_ok subs tops) hc
theorem round_whole (hc : chain sltB (tops.map TopC.name) = true) : WholeL subs tops (roundL subs tops) := by
  unfold roundL
  rw [roundTo_gave]
  exact gave_whole (round_ok subs tops) hc
theorem chk_names {subs : List SubC} {tops : List TopC} (h : chk subs tops = 0) : chain sltB (tops.map TopC.name) = true := by
  unfold chk at h
  split at h
  · rename_i hc
    unfold checkB at hc
    simp only [Bool.and_eq_true] at hc
    exact hc.1.1.2
  · cases h
end Go.Proofs.Ytncblldhfmabbaa
