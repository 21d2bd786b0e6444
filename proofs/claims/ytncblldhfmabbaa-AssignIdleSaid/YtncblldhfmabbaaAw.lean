/-
  What is dealt, one by one: in rows and one by one alike, each partition of a topic that somebody wants goes to one of those.
-/
import Derived.Test.YtncblldhfmabbaaAk
import Derived.Test.YtncblldhfmabbaaAu
namespace Go.Proofs.Ytncblldhfmabbaa
open Fx

/-- What is given one by one: to whom, which. -/
def gave (l : List ShareC) (G : List (Nat × PartC)) : List ShareC := G.foldl (fun l g => giveL l g.1 g.2.topic g.2.index) l
theorem gave_append (l : List ShareC) (G H : List (Nat × PartC)) : gave l (G ++ H) = gave (gave l G) H := List.foldl_append
theorem giveL_len (l : List ShareC) (m : Nat) (s : ByteArray) (i : Int) : (giveL l m s i).length = l.length := by simp [giveL]
theorem gave_len : ∀ (G : List (Nat × PartC)) (l : List ShareC), (gave l G).length = l.length
  | [], _ => rfl
  | g :: G, l => (gave_len G _).trans (giveL_len l _ _ _)
theorem giveL_at (l : List ShareC) (m : Nat) (s : ByteArray) (i : Int) (k : Nat) (h : k < l.length) :
    (giveL l m s i)[k]'(by rw [giveL_len]; exact h) = ⟨l[k].member, l[k].parts ++ if m = k then [⟨s, i⟩] else []⟩ := by
  simp only [giveL, List.getElem_modify]
  split <;> simp
/-- The n-th, the next, .. of a topic, to those of a list. -/
def zipFrom (s : ByteArray) : Nat → List Nat → List (Nat × PartC)
  | _, [] => []
  | n, o :: os => (o, ⟨s, n⟩) :: zipFrom s (n + 1) os
theorem zipFrom_append (s : ByteArray) : ∀ (a b : List Nat) (n : Nat), zipFrom s n (a ++ b) = zipFrom s n a ++ zipFrom s (n + a.length) b
  | [], b, n => by simp [zipFrom]
  | o :: a, b, n => by
    simp only [List.cons_append, zipFrom, zipFrom_append s a b (n + 1), List.length_cons]
    rw [show n + 1 + a.length = n + (a.length + 1) by omega]
theorem giveRun_gave (m : Nat) (s : ByteArray) : ∀ (c n : Nat) (l : List ShareC), giveRun m s c n l = gave l (zipFrom s n (List.replicate c m))
  | 0, _, _ => rfl
  | c + 1, n, l => by
    rw [giveRun, giveRun_gave m s c (n + 1), List.replicate_succ]
    rfl
/-- Whom the partitions of a topic go to, in rows. -/
def ownRange (tk : List Nat) (p : Nat) : Nat → List Nat
  | 0 => []
  | k + 1 => ownRange tk p k ++ List.replicate (cntOf p tk.length k) (tk.getD k 0)
theorem serveTo_gave (tk : List Nat) (s : ByteArray) (p : Nat) (l : List ShareC) : ∀ k, serveTo tk s p k l = (gave l (zipFrom s 0 (ownRange tk p k)), (ownRange tk p k).length)
  | 0 => rfl
  | k + 1 => by
    rw [serveTo, serveTo_gave tk s p l k, ownRange, zipFrom_append, gave_append, giveRun_gave, List.length_append, List.length_replicate]
    simp
/-- Behind the p-th. -/
def lastOf (tk : List Nat) (la : Int) : Nat → Int
  | 0 => la
  | p + 1 => (nextOf tk (lastOf tk la p) : Nat)
/-- Whom the partitions of a topic go to, one by one. -/
def ownRound (tk : List Nat) (la : Int) : Nat → List Nat
  | 0 => []
  | p + 1 => ownRound tk la p ++ [nextOf tk (lastOf tk la p)]
theorem ownRound_len (tk : List Nat) (la : Int) : ∀ p, (ownRound tk la p).length = p
  | 0 => rfl
  | p + 1 => by rw [ownRound, List.length_append, ownRound_len tk la p]; rfl
theorem roundParts_gave (tk : List Nat) (s : ByteArray) (st : List ShareC × Int) : ∀ p, roundParts tk s p st = (gave st.1 (zipFrom s 0 (ownRound tk st.2 p)), lastOf tk st.2 p)
  | 0 => rfl
  | p + 1 => by
    rw [roundParts, roundParts_gave tk s st p, ownRound, zipFrom_append, gave_append, ownRound_len]
    simp only [lastOf, Nat.zero_add]
    rfl

/-- What is given of the first t topics. -/
def gaveTo (tops : List TopC) (os : Nat → List Nat) : Nat → List (Nat × PartC)
  | 0 => []
  | t + 1 => gaveTo tops os t ++ zipFrom (tops.getD t ⟨⟨#[]⟩, 0⟩).name 0 (os t)
def osRange (subs : List SubC) (tops : List TopC) (t : Nat) : List Nat :=
  ownRange (takersL subs (tops.getD t ⟨⟨#[]⟩, 0⟩).name) (tops.getD t ⟨⟨#[]⟩, 0⟩).parts.toNat (takersL subs (tops.getD t ⟨⟨#[]⟩, 0⟩).name).length
def osRound (subs : List SubC) (tops : List TopC) (t : Nat) : List Nat :=
  if (takersL subs (tops.getD t ⟨⟨#[]⟩, 0⟩).name).length = 0 then [] else ownRound (takersL subs (tops.getD t ⟨⟨#[]⟩, 0⟩).name) (roundTo subs tops t).2 (tops.getD t ⟨⟨#[]⟩, 0⟩).parts.toNat
theorem rangeTo_gave (subs : List SubC) (tops : List TopC) : ∀ t, rangeTo subs tops t = gave (emptyL subs) (gaveTo tops (osRange subs tops) t)
  | 0 => rfl
  | t + 1 => by
    rw [rangeTo, serveTo_gave, rangeTo_gave subs tops t, gaveTo, gave_append]
    rfl
theorem roundTo_gave (subs : List SubC) (tops : List TopC) : ∀ t, (roundTo subs tops t).1 = gave (emptyL subs) (gaveTo tops (osRound subs tops) t)
  | 0 => rfl
  | t + 1 => by
    rw [roundTo, gaveTo, gave_append, ← roundTo_gave subs tops t, osRound]
    split
    · rfl
    · rw [roundParts_gave]
/-- How it was dealt: each to one that wants it, and all of them. -/
structure OsOk (subs : List SubC) (tops : List TopC) (os : Nat → List Nat) : Prop where
  own : ∀ t (h : t < tops.length), ∀ o ∈ os t, o ∈ takersL subs tops[t].name
  len : ∀ t (h : t < tops.length), (os t).length = tops[t].parts.toNat * oneIf (takersL subs tops[t].name)

theorem ownRange_mem (tk : List Nat) (p : Nat) : ∀ k, k ≤ tk.length → ∀ o ∈ ownRange tk p k, o ∈ tk
  | 0, _, o, h => by simp [ownRange] at h
  | k + 1, hk, o, h => by
    rw [ownRange, List.mem_append] at h
    rcases h with h | h
    · exact ownRange_mem tk p k (by omega) o h
    · rw [(List.mem_replicate.1 h).2, List.getD, List.getElem?_eq_getElem (by omega), Option.getD_some]
      exact List.getElem_mem _
theorem cnt_eq (p n k : Nat) (hk : k < n) : cntOf p n k = p / n + if k < p % n then 1 else 0 := by
  unfold cntOf
  have h1 : p = n * (p / n) + p % n := (Nat.div_add_mod p n).symm
  have h2 : p % n < n := Nat.mod_lt _ (by omega)
  generalize p / n = q at h1 ⊢
  generalize p % n = r at h1 h2 ⊢
  subst h1
  split
  · rw [show n * q + r + n - 1 - k = (r + n - 1 - k) + n * q by omega, Nat.add_mul_div_left _ _ (by omega)]
    have : (r + n - 1 - k) / n = 1 := by
      rw [Nat.div_eq_of_lt_le (k := 1) (by omega) (by omega)]
    omega
  · rw [show n * q + r + n - 1 - k = (r + n - 1 - k) + n * q by omega, Nat.add_mul_div_left _ _ (by omega)]
    rw [Nat.div_eq_of_lt (by omega)]
    omega
theorem ownRange_len (tk : List Nat) (p : Nat) : ∀ k, k ≤ tk.length → (ownRange tk p k).length = k * (p / tk.length) + min k (p % tk.length)
  | 0, _ => by simp [ownRange]
  | k + 1, hk => by
    rw [ownRange, List.length_append, ownRange_len tk p k (by omega), List.length_replicate, cnt_eq p tk.length k (by omega), Nat.succ_mul]
    split <;> omega
theorem ownRange_all (tk : List Nat) (p : Nat) : (ownRange tk p tk.length).length = p * oneIf tk := by
  rw [ownRange_len tk p tk.length (Nat.le_refl _)]
  unfold oneIf
  by_cases h : tk.length = 0
  · rw [if_pos h, h]; simp
  · rw [if_neg h]
    have h1 := Nat.div_add_mod p tk.length
    have h2 : p % tk.length < tk.length := Nat.mod_lt _ (by omega)
    rw [Nat.min_eq_right (Nat.le_of_lt h2), Nat.mul_one]
    exact h1
theorem getD_name {tops : List TopC} {t : Nat} (h : t < tops.length) : tops.getD t ⟨⟨#[]⟩, 0⟩ = tops[t] := by simp [List.getD, h]
theorem range_ok (subs : List SubC) (tops : List TopC) : OsOk subs tops (osRange subs tops) := by
  refine ⟨fun t h o ho => ?_, fun t h => ?_⟩
  · unfold osRange at ho
    rw [getD_name h] at ho
    exact ownRange_mem _ _ _ (Nat.le_refl _) o ho
  · unfold osRange
    rw [getD_name h, ownRange_all]
theorem next_mem {tk : List Nat} (h : tk.length ≠ 0) (la : Int) : nextOf tk la ∈ tk := by
  unfold nextOf
  have hm : below tk (la + 1) % tk.length < tk.length := Nat.mod_lt _ (by omega)
  rw [List.getD, List.getElem?_eq_getElem hm, Option.getD_some]
  exact List.getElem_mem hm
theorem ownRound_mem {tk : List Nat} (h : tk.length ≠ 0) (la : Int) : ∀ p, ∀ o ∈ ownRound tk la p, o ∈ tk
  | 0, o, ho => by simp [ownRound] at ho
  | p + 1, o, ho => by
    rw [ownRound, List.mem_append, List.mem_singleton] at ho
    rcases ho with ho | rfl
    · exact ownRound_mem h la p o ho
    · exact next_mem h _
theorem round_ok (subs : List SubC) (tops : List TopC) : OsOk subs tops (osRound subs tops) := by
  refine ⟨fun t h o ho => ?_, fun t h => ?_⟩
  · unfold osRound at ho
    rw [getD_name h] at ho
    split at ho
    · simp at ho
    · exact ownRound_mem (by assumption) _ _ o ho
  · unfold osRound oneIf
    rw [getD_name h]
    split
    · simp
    · rw [ownRound_len]; simp
end Go.Proofs.Ytncblldhfmabbaa
