/-
  How many each one gets: in rows no two takers of a topic differ by more than one of its partitions; one by one, where all want all, no two members differ by more than one.
-/
import Derived.Test.YtncblldhfmabbaaAx
namespace Go.Proofs.Ytncblldhfmabbaa
open Fx

/-- Is it of that topic? -/
def ofName (s : ByteArray) (x : PartC) : Bool := x.topic.toList == s.toList
theorem at_inj {subs : List SubC} {s : ByteArray} {i j : Nat} (hi : i < (takersL subs s).length) (hj : j < (takersL subs s).length) (h : (takersL subs s)[i] = (takersL subs s)[j]) : i = j := by
  have hp := List.pairwise_iff_getElem.1 (takers_rise subs s)
  rcases Nat.lt_trichotomy i j with h1 | h1 | h1
  · have := hp i j hi hj h1
    omega
  · exact h1
  · have := hp j i hj hi h1
    omega
theorem ownRange_count (subs : List SubC) (s : ByteArray) (p : Nat) {k : Nat} (hk : k < (takersL subs s).length) : ∀ n, n ≤ (takersL subs s).length →
    (ownRange (takersL subs s) p n).count (takersL subs s)[k] = if k < n then cntOf p (takersL subs s).length k else 0
  | 0, _ => by simp [ownRange]
  | n + 1, h => by
    rw [ownRange, List.count_append, ownRange_count subs s p hk n (by omega), List.count_replicate]
    have e : (takersL subs s).getD n 0 = (takersL subs s)[n]'(by omega) := by simp [List.getD, show n < (takersL subs s).length by omega]
    rw [e]
    by_cases hn : k = n
    · subst hn
      simp
    · have h1 : ¬ (takersL subs s)[n]'(by omega) = (takersL subs s)[k] := fun h2 => hn (at_inj (by omega) hk h2).symm
      have h2 : ((takersL subs s)[n]'(by omega) == (takersL subs s)[k]) = false := by simpa using h1
      rw [h2]
      simp only [Bool.false_eq_true, if_false, Nat.add_zero]
      by_cases h3 : k < n
      · rw [if_pos h3, if_pos (by omega)]
      · rw [if_neg h3, if_neg (by omega)]
theorem zip_own (s : ByteArray) (m : Nat) : ∀ (os : List Nat) (n : Nat), (zipFrom s n os).countP (fun g => g.1 == m && ofName s g.2) = os.count m
  | [], _ => rfl
  | o :: os, n => by
    rw [zipFrom, List.countP_cons, zip_own s m os (n + 1), List.count_cons]
    simp [ofName]
theorem zip_own_other {s t : ByteArray} (hne : (s.toList == t.toList) = false) (m : Nat) : ∀ (os : List Nat) (n : Nat), (zipFrom s n os).countP (fun g => g.1 == m && ofName t g.2) = 0
  | [], _ => rfl
  | o :: os, n => by
    rw [zipFrom, List.countP_cons, zip_own_other hne m os (n + 1)]
    simp [ofName, hne]
theorem gaveTo_own {tops : List TopC} (os : Nat → List Nat) (hc : chain sltB (tops.map TopC.name) = true) {i : Nat} (hi : i < tops.length) (m : Nat) : ∀ t, t ≤ tops.length →
    (gaveTo tops os t).countP (fun g => g.1 == m && ofName tops[i].name g.2) = if i < t then (os i).count m else 0
  | 0, _ => by simp [gaveTo]
  | t + 1, h => by
    rw [gaveTo, List.countP_append, gaveTo_own os hc hi m t (by omega), getD_name (by omega)]
    by_cases e : i = t
    · subst e
      rw [zip_own, if_neg (Nat.lt_irrefl _), if_pos (Nat.lt_succ_self _), Nat.zero_add]
    · rw [zip_own_other (names_apart hc (by omega) hi (fun e' => e e'.symm))]
      by_cases h2 : i < t
      · rw [if_pos h2, if_pos (by omega), Nat.add_zero]
      · rw [if_neg h2, if_neg (by omega)]
theorem gave_own (subs : List SubC) (G : List (Nat × PartC)) (f : PartC → Bool) {k : Nat} (hk : k < (emptyL subs).length) :
    ((gave (emptyL subs) G)[k]'(by rw [gave_len]; exact hk)).parts.countP f = G.countP fun g => g.1 == k && f g.2 := by
  rw [gave_at _ _ k hk]
  have : (emptyL subs)[k].parts = [] := by simp [emptyL]
  simp only [this, List.nil_append, List.countP_map, List.countP_filter]
  congr 1
  funext g
  simp [Bool.and_comm]
theorem emptyL_len (subs : List SubC) : (emptyL subs).length = subs.length := by simp [emptyL]
theorem rangeL_len (subs : List SubC) (tops : List TopC) : (rangeL subs tops).length = subs.length := by
  unfold rangeL; rw [rangeTo_gave, gave_len, emptyL_len]
theorem roundL_len (subs : List SubC) (tops : List TopC) : (roundL subs tops).length = subs.length := by
  unfold roundL; rw [roundTo_gave, gave_len, emptyL_len]
theorem getElem_of_eq {α : Type} {a b : List α} (e : a = b) {k : Nat} (hk : k < a.length) : a[k] = b[k]'(by rw [← e]; exact hk) := by subst e; rfl
theorem range_fair {subs : List SubC} {tops : List TopC} (hc : chain sltB (tops.map TopC.name) = true) {i : Nat} (hi : i < tops.length) {k : Nat} (hk : k < (takersL subs tops[i].name).length) (hm : (takersL subs tops[i].name)[k] < (rangeL subs tops).length) :
    (rangeL subs tops)[(takersL subs tops[i].name)[k]].parts.countP (ofName tops[i].name) = cntOf tops[i].parts.toNat (takersL subs tops[i].name).length k := by
  have e : rangeL subs tops = gave (emptyL subs) (gaveTo tops (osRange subs tops) tops.length) := by unfold rangeL; rw [rangeTo_gave]
  have hm' : (takersL subs tops[i].name)[k] < (emptyL subs).length := by rw [emptyL_len, ← rangeL_len subs tops]; exact hm
  rw [getElem_of_eq e hm, gave_own subs _ _ hm', gaveTo_own _ hc hi _ _ (Nat.le_refl _), if_pos hi, osRange, getD_name hi, ownRange_count subs _ _ hk _ (Nat.le_refl _), if_pos hk]
/-- Where all want it. -/
def wantAll (subs : List SubC) (tops : List TopC) (t : Nat) : Bool := (tops.take t).all fun x => ((takersL subs x.name).length : Int) == (subs.length : Int)
theorem wantAll_succ {subs : List SubC} {tops : List TopC} {t : Nat} (h : t < tops.length) : wantAll subs tops (t + 1) = (wantAll subs tops t && (((takersL subs tops[t].name).length : Int) == (subs.length : Int))) := by
  unfold wantAll
  rw [List.take_succ_eq_append_getElem h, List.all_append]
  simp
theorem takers_all {subs : List SubC} {s : ByteArray} (h : (takersL subs s).length = subs.length) : takersL subs s = List.range subs.length := by
  unfold takersL takeTo at h ⊢
  rw [List.filter_eq_self]
  have h2 : ((List.range subs.length).filter fun i => wantB (topicsAt subs i) s).length = (List.range subs.length).length := by rw [h, List.length_range]
  exact List.length_filter_eq_length_iff.1 h2
theorem wantAll_at {subs : List SubC} {tops : List TopC} (h : wantAll subs tops tops.length = true) {t : Nat} (ht : t < tops.length) : takersL subs tops[t].name = List.range subs.length := by
  unfold wantAll at h
  rw [List.take_length, List.all_eq_true] at h
  have := h _ (List.getElem_mem ht)
  refine takers_all ?_
  have := eq_of_beq this
  omega
theorem lastOf_add (tk : List Nat) (la : Int) (p : Nat) : ∀ q, lastOf tk la (p + q) = lastOf tk (lastOf tk la p) q
  | 0 => rfl
  | q + 1 => by
    show ((nextOf tk (lastOf tk la (p + q)) : Nat) : Int) = _
    rw [lastOf_add tk la p q]
    rfl
theorem ownRound_add (tk : List Nat) (la : Int) (p : Nat) : ∀ q, ownRound tk la (p + q) = ownRound tk la p ++ ownRound tk (lastOf tk la p) q
  | 0 => by simp [ownRound]
  | q + 1 => by
    show ownRound tk la (p + q) ++ [nextOf tk (lastOf tk la (p + q))] = _
    rw [ownRound_add tk la p q, lastOf_add, ownRound, List.append_assoc]
/-- How many partitions the first t topics have. -/
def partsTo (tops : List TopC) (t : Nat) : Nat := ((tops.take t).map fun x => x.parts.toNat).sum
theorem partsTo_succ {tops : List TopC} {t : Nat} (h : t < tops.length) : partsTo tops (t + 1) = partsTo tops t + tops[t].parts.toNat := sum_take _ tops t h
theorem partsTo_le {tops : List TopC} (hp : ∀ j (h : j < tops.length), 1 ≤ tops[j].parts ∧ tops[j].parts ≤ 16) : ∀ t, t ≤ tops.length → partsTo tops t ≤ t * 16
  | 0, _ => by simp [partsTo]
  | t + 1, h => by
    have h1 := partsTo_le hp t (by omega)
    have h2 := hp t (by omega)
    rw [partsTo_succ (by omega)]
    omega
theorem zip_fst (s : ByteArray) : ∀ (os : List Nat) (n : Nat), (zipFrom s n os).map (·.1) = os
  | [], _ => rfl
  | o :: os, n => by simp [zipFrom, zip_fst s os (n + 1)]
theorem round_state {subs : List SubC} {tops : List TopC} (h : wantAll subs tops tops.length = true) (hn : subs.length ≠ 0) : ∀ t, t ≤ tops.length →
    (roundTo subs tops t).2 = lastOf (List.range subs.length) (-1) (partsTo tops t) ∧ (gaveTo tops (osRound subs tops) t).map (·.1) = ownRound (List.range subs.length) (-1) (partsTo tops t)
  | 0, _ => by simp [roundTo, partsTo, lastOf, gaveTo, ownRound]
  | t + 1, ht => by
    obtain ⟨h1, h2⟩ := round_state h hn t (by omega)
    have e := wantAll_at h (t := t) (by omega)
    have hl : ¬ (takersL subs tops[t].name).length = 0 := by rw [e, List.length_range]; exact hn
    rw [partsTo_succ (by omega)]
    refine ⟨?_, ?_⟩
    · rw [roundTo, getD_name (by omega), if_neg hl, roundParts_gave, lastOf_add, ← h1, e]
    · rw [gaveTo, List.map_append, h2, ownRound_add, zip_fst, osRound, getD_name (by omega), if_neg hl, h1, e]
theorem below_range (n : Nat) {x : Int} (h0 : 0 ≤ x) (h1 : x ≤ n) : below (List.range n) x = x.toNat :=
  below_at List.pairwise_lt_range (by rw [List.length_range]; omega) (fun j h hj => by simp only [List.getElem_range]; omega) (fun j h hj => by simp only [List.getElem_range]; omega)
theorem last_mod {n : Nat} (hn : n ≠ 0) : ∀ R, ∃ x : Nat, lastOf (List.range n) (-1) R + 1 = x ∧ x ≤ n ∧ x % n = R % n
  | 0 => ⟨0, rfl, by omega, rfl⟩
  | R + 1 => by
    obtain ⟨x, h1, h2, h3⟩ := last_mod hn R
    have e : nextOf (List.range n) (lastOf (List.range n) (-1) R) = R % n := by
      unfold nextOf
      rw [h1, below_range n (by omega) (by omega), Int.toNat_natCast, List.length_range, h3]
      have := Nat.mod_lt R (Nat.pos_of_ne_zero hn)
      simp [List.getD, this]
    refine ⟨R % n + 1, ?_, ?_, ?_⟩
    · rw [lastOf, e]; rfl
    · exact Nat.mod_lt R (Nat.pos_of_ne_zero hn)
    · rw [Nat.add_mod (R % n), Nat.add_mod R 1, Nat.mod_mod]
theorem next_mod {n : Nat} (hn : n ≠ 0) (R : Nat) : nextOf (List.range n) (lastOf (List.range n) (-1) R) = R % n := by
  obtain ⟨x, h1, h2, h3⟩ := last_mod hn R
  unfold nextOf
  rw [h1, below_range n (by omega) (by omega), Int.toNat_natCast, List.length_range, h3]
  have := Nat.mod_lt R (Nat.pos_of_ne_zero hn)
  simp [List.getD, this]
theorem round_count {n : Nat} (hn : n ≠ 0) {k : Nat} (hk : k < n) : ∀ R, (ownRound (List.range n) (-1) R).count k = R / n + if k < R % n then 1 else 0
  | 0 => by simp [ownRound]
  | R + 1 => by
    rw [ownRound, List.count_append, round_count hn hk R, next_mod hn]
    have h1 := Nat.div_add_mod R n
    have h2 : R % n < n := Nat.mod_lt R (Nat.pos_of_ne_zero hn)
    generalize R / n = a at h1 ⊢
    generalize R % n = b at h1 h2 ⊢
    subst h1
    by_cases hb : b + 1 = n
    · have e1 : (n * a + b + 1) / n = a + 1 := by rw [show n * a + b + 1 = n * (a + 1) by rw [Nat.mul_add]; omega, Nat.mul_div_cancel_left _ (Nat.pos_of_ne_zero hn)]
      have e2 : (n * a + b + 1) % n = 0 := by rw [show n * a + b + 1 = n * (a + 1) by rw [Nat.mul_add]; omega, Nat.mul_mod_right]
      rw [e1, e2]
      by_cases h3 : k = b
      · subst h3; simp
      · have h4 : (b == k) = false := by simp; omega
        simp [List.count_cons, h4]
        omega
    · have e1 : (n * a + b + 1) / n = a := by rw [show n * a + b + 1 = (b + 1) + n * a by omega, Nat.add_mul_div_left _ _ (Nat.pos_of_ne_zero hn), Nat.div_eq_of_lt (by omega), Nat.zero_add]
      have e2 : (n * a + b + 1) % n = b + 1 := by rw [show n * a + b + 1 = (b + 1) + n * a by omega, Nat.add_mul_mod_self_left, Nat.mod_eq_of_lt (by omega)]
      rw [e1, e2]
      by_cases h3 : k = b
      · subst h3; simp
      · have h4 : (b == k) = false := by simp; omega
        simp only [List.count_cons, List.count_nil, h4]
        simp
        split <;> split <;> omega
theorem round_fair {subs : List SubC} {tops : List TopC} (h : wantAll subs tops tops.length = true) {k : Nat} (hk : k < (roundL subs tops).length) :
    partsTo tops tops.length / subs.length ≤ (roundL subs tops)[k].parts.length ∧ (roundL subs tops)[k].parts.length ≤ partsTo tops tops.length / subs.length + 1 := by
  have hk1 : k < subs.length := by rw [← roundL_len subs tops]; exact hk
  have e : roundL subs tops = gave (emptyL subs) (gaveTo tops (osRound subs tops) tops.length) := by unfold roundL; rw [roundTo_gave]
  have hm' : k < (emptyL subs).length := by rw [emptyL_len]; exact hk1
  have h1 : (roundL subs tops)[k].parts.length = (ownRound (List.range subs.length) (-1) (partsTo tops tops.length)).count k := by
    rw [getElem_of_eq e hk, ← (round_state h (by omega) tops.length (Nat.le_refl _)).2]
    have h3 := gave_own subs (gaveTo tops (osRound subs tops) tops.length) (fun _ => true) hm'
    rw [List.countP_true] at h3
    rw [h3, List.count, List.countP_map]
    congr 1
    funext g
    simp
  rw [h1, round_count (by omega) hk1]
  split <;> omega
theorem cnt_fair (p n k : Nat) (hk : k < n) : p / n ≤ cntOf p n k ∧ cntOf p n k ≤ p / n + 1 := by
  rw [cnt_eq p n k hk]
  split <;> omega
end Go.Proofs.Ytncblldhfmabbaa
