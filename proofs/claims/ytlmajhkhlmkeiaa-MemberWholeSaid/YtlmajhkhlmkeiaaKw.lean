/-
  Whether each partition is given just once: what the law's 'whole' counts.
-/
import Derived.Test.YtlmajhkhlmkeiaaAl
import Derived.Deep.DeepCutAuto
import Derived.Test.YtlmajhkhlmkeiaaAk
import Derived.Test.YtlmajhkhlmkeiaaKd
namespace Go.Proofs.Ytlmajhkhlmkeiaa
open Go.RowKit Fx

/-- Is it that partition? -/
def hit (s : ByteArray) (p : Int) (x : PartC) : Bool := x.topic.toList == s.toList && x.index == p
/-- How often it was given. -/
def given (s : ByteArray) (p : Int) (l : List ShareC) : Nat := (l.map fun sh => sh.parts.countP (hit s p)).sum
/-- How many were given. -/
def total (l : List ShareC) : Nat := (l.map fun sh => sh.parts.length).sum
theorem sum_take {α : Type} (f : α → Nat) (l : List α) (k : Nat) (h : k < l.length) : ((l.take (k + 1)).map f).sum = ((l.take k).map f).sum + f l[k] := by
  rw [List.take_succ_eq_append_getElem h, List.map_append, List.sum_append_nat]
  rfl
theorem sum_take_le {α : Type} (f : α → Nat) (l : List α) (k : Nat) : ((l.take k).map f).sum ≤ (l.map f).sum := by
  have : l.map f = (l.take k).map f ++ (l.drop k).map f := by rw [← List.map_append, List.take_append_drop]
  rw [this, List.sum_append_nat]
  omega
theorem count_take {α : Type} (f : α → Bool) (l : List α) (k : Nat) (h : k < l.length) : (l.take (k + 1)).countP f = (l.take k).countP f + if f l[k] then 1 else 0 := by
  rw [List.take_succ_eq_append_getElem h, List.countP_append]
  simp [List.countP_cons]
theorem count_take_le {α : Type} (f : α → Bool) (l : List α) (k : Nat) : (l.take k).countP f ≤ l.countP f := by
  have : l.countP f = (l.take k).countP f + (l.drop k).countP f := by rw [← List.countP_append, List.take_append_drop]
  omega
/-- How often it was given by the first k, and the first j of the next one. -/
def givenTo (s : ByteArray) (p : Int) (l : List ShareC) (k : Nat) : Nat := ((l.take k).map fun sh => sh.parts.countP (hit s p)).sum
theorem given_part {s : ByteArray} {p : Int} {l : List ShareC} {k : Nat} (h : k < l.length) (j : Nat) : givenTo s p l k + (l[k].parts.take j).countP (hit s p) ≤ given s p l := by
  have h1 := sum_take_le (fun sh : ShareC => sh.parts.countP (hit s p)) l (k + 1)
  have h2 := sum_take (fun sh : ShareC => sh.parts.countP (hit s p)) l k h
  have h3 := count_take_le (hit s p) l[k].parts j
  unfold givenTo given
  omega
theorem givenTo_succ {s : ByteArray} {p : Int} {l : List ShareC} {k : Nat} (h : k < l.length) : givenTo s p l (k + 1) = givenTo s p l k + (l[k].parts.take l[k].parts.length).countP (hit s p) := by
  rw [List.take_length]
  exact sum_take _ l k h
theorem givenTo_all (s : ByteArray) (p : Int) (l : List ShareC) : givenTo s p l l.length = given s p l := by
  unfold givenTo given
  rw [List.take_length]
/-- How often each partition of a topic must be given. -/
def oneIf (tk : List Nat) : Nat := if tk.length = 0 then 0 else 1
theorem oneIf_le (tk : List Nat) : oneIf tk ≤ 1 := by unfold oneIf; split <;> omega
/-- How many partitions of the first t topics must be given. -/
def mustTo (subs : List SubC) (tops : List TopC) (t : Nat) : Nat := ((tops.take t).map fun x => x.parts.toNat * oneIf (takersL subs x.name)).sum
structure WholeL (subs : List SubC) (tops : List TopC) (l : List ShareC) : Prop where
  len : l.length = subs.length
  own : ∀ t (h : t < tops.length) k (hk : k < l.length) (j : Nat) (hj : j < l[k].parts.length), (l[k].parts[j].topic.toList == tops[t].name.toList) = true → k ∈ takersL subs tops[t].name
  cnt : ∀ t (h : t < tops.length) (p : Nat), (p : Int) < tops[t].parts → given tops[t].name p l = oneIf (takersL subs tops[t].name)
  mem : ∀ k (hk : k < l.length) (hk' : k < subs.length), l[k].member = subs[k].member
  sum : total l = mustTo subs tops tops.length
theorem mustTo_succ {subs : List SubC} {tops : List TopC} {t : Nat} (h : t < tops.length) : mustTo subs tops (t + 1) = mustTo subs tops t + tops[t].parts.toNat * oneIf (takersL subs tops[t].name) := sum_take _ tops t h
theorem mustTo_le {subs : List SubC} {tops : List TopC} (hp : ∀ j (h : j < tops.length), 1 ≤ tops[j].parts ∧ tops[j].parts ≤ 16) : ∀ t, t ≤ tops.length → mustTo subs tops t ≤ t * 16
  | 0, _ => by simp [mustTo]
  | t + 1, h => by
    have h1 := mustTo_le (subs := subs) hp t (by omega)
    rw [mustTo_succ (by omega)]
    have h2 := hp t (by omega)
    have h3 := oneIf_le (takersL subs tops[t].name)
    have h4 : tops[t].parts.toNat * oneIf (takersL subs tops[t].name) ≤ 16 * 1 := Nat.mul_le_mul (by omega) h3
    omega
theorem eqlHit {x : PartC} {s : ByteArray} {p : Int} {b : Bool} (h : hit s p x = b) (w : World) : (binOp .eql 61 (.agg #[.string x.topic, .int .i64 x.index]) (.agg #[.string s, .int .i64 p])).run Try.prog w = .ok (.bool b) w := by
  rw [eql41, ← h]
  rfl
/-- Is the member among the first m takers? -/
def amongTo (tk : List Nat) (k m : Nat) : Bool := (tk.take m).any fun x => (x : Int) == (k : Int)
theorem amongTo_succ {tk : List Nat} {k m : Nat} (h : m < tk.length) : amongTo tk k (m + 1) = (amongTo tk k m || ((tk[m] : Int) == (k : Int))) := by
  unfold amongTo
  rw [List.take_succ_eq_append_getElem h, List.any_append]
  simp
theorem amongTo_all {tk : List Nat} {k : Nat} (h : k ∈ tk) : amongTo tk k tk.length = true := by
  unfold amongTo
  rw [List.take_length, List.any_eq_true]
  exact ⟨k, h, by simp⟩
end Go.Proofs.Ytlmajhkhlmkeiaa

/-
  What is dealt, one by one: in rows and one by one alike, each partition of a topic that somebody wants goes to one of those.
-/
namespace Go.Proofs.Ytlmajhkhlmkeiaa
open Fx

/-- What is given one by one: to whom, which. -/
def gave (l : List ShareC) (G : List (Nat × PartC)) : List ShareC := G.foldl (fun l g => giveL l g.1 g.2.topic g.2.index) l
theorem gave_append (l : List ShareC) (G H : List (Nat × PartC)) : gave l (G ++ H) = gave (gave l G) H := List.foldl_append
theorem giveL_len (l : List ShareC) (m : Nat) (s : ByteArray) (i : Int) : (giveL l m s i).length = l.length := by simp [giveL]
theorem gave_len : ∀ (G : List (Nat × PartC)) (l : List ShareC), (gave l G).length = l.length
  | [], _ => rfl
  | g :: G, l => (gave_len G _).trans (giveL_len l _ _ _)
theorem giveL_at (l : List ShareC) (m : Nat) (s : ByteArray) (i : Int) (k : Nat) (h : k < l.length) :
    (giveL l m s i)[k]'(by rw [giveL_len]; exact h) = ⟨l[k].member, l[k].parts ++ if m = k then [⟨s, i⟩] else []⟩ := by
  simp only [giveL, List.getElem_modify]
  split <;> simp
/-- The n-th, the next, .. of a topic, to those of a list. -/
def zipFrom (s : ByteArray) : Nat → List Nat → List (Nat × PartC)
  | _, [] => []
  | n, o :: os => (o, ⟨s, n⟩) :: zipFrom s (n + 1) os
theorem zipFrom_append (s : ByteArray) : ∀ (a b : List Nat) (n : Nat), zipFrom s n (a ++ b) = zipFrom s n a ++ zipFrom s (n + a.length) b
  | [], b, n => by simp [zipFrom]
  | o :: a, b, n => by
    simp only [List.cons_append, zipFrom, zipFrom_append s a b (n + 1), List.length_cons]
    rw [show n + 1 + a.length = n + (a.length + 1) by omega]
theorem giveRun_gave (m : Nat) (s : ByteArray) : ∀ (c n : Nat) (l : List ShareC), giveRun m s c n l = gave l (zipFrom s n (List.replicate c m))
  | 0, _, _ => rfl
  | c + 1, n, l => by
    rw [giveRun, giveRun_gave m s c (n + 1), List.replicate_succ]
    rfl
/-- Whom the partitions of a topic go to, in rows. -/
def ownRange (tk : List Nat) (p : Nat) : Nat → List Nat
  | 0 => []
  | k + 1 => ownRange tk p k ++ List.replicate (cntOf p tk.length k) (tk.getD k 0)
theorem serveTo_gave (tk : List Nat) (s : ByteArray) (p : Nat) (l : List ShareC) : ∀ k, serveTo tk s p k l = (gave l (zipFrom s 0 (ownRange tk p k)), (ownRange tk p k).length)
  | 0 => rfl
  | k + 1 => by
    rw [serveTo, serveTo_gave tk s p l k, ownRange, zipFrom_append, gave_append, giveRun_gave, List.length_append, List.length_replicate]
    simp
/-- Behind the p-th. -/
def lastOf (tk : List Nat) (la : Int) : Nat → Int
  | 0 => la
  | p + 1 => (nextOf tk (lastOf tk la p) : Nat)
/-- Whom the partitions of a topic go to, one by one. -/
def ownRound (tk : List Nat) (la : Int) : Nat → List Nat
  | 0 => []
  | p + 1 => ownRound tk la p ++ [nextOf tk (lastOf tk la p)]
theorem ownRound_len (tk : List Nat) (la : Int) : ∀ p, (ownRound tk la p).length = p
  | 0 => rfl
  | p + 1 => by rw [ownRound, List.length_append, ownRound_len tk la p]; rfl
theorem roundParts_gave (tk : List Nat) (s : ByteArray) (st : List ShareC × Int) : ∀ p, roundParts tk s p st = (gave st.1 (zipFrom s 0 (ownRound tk st.2 p)), lastOf tk st.2 p)
  | 0 => rfl
  | p + 1 => by
    rw [roundParts, roundParts_gave tk s st p, ownRound, zipFrom_append, gave_append, ownRound_len]
    simp only [lastOf, Nat.zero_add]
    rfl

/-- What is given of the first t topics. -/
def gaveTo (tops : List TopC) (os : Nat → List Nat) : Nat → List (Nat × PartC)
  | 0 => []
  | t + 1 => gaveTo tops os t ++ zipFrom (tops.getD t ⟨⟨#[]⟩, 0⟩).name 0 (os t)
def osRange (subs : List SubC) (tops : List TopC) (t : Nat) : List Nat :=
  ownRange (takersL subs (tops.getD t ⟨⟨#[]⟩, 0⟩).name) (tops.getD t ⟨⟨#[]⟩, 0⟩).parts.toNat (takersL subs (tops.getD t ⟨⟨#[]⟩, 0⟩).name).length
def osRound (subs : List SubC) (tops : List TopC) (t : Nat) : List Nat :=
  if (takersL subs (tops.getD t ⟨⟨#[]⟩, 0⟩).name).length = 0 then [] else ownRound (takersL subs (tops.getD t ⟨⟨#[]⟩, 0⟩).name) (roundTo subs tops t).2 (tops.getD t ⟨⟨#[]⟩, 0⟩).parts.toNat
theorem rangeTo_gave (subs : List SubC) (tops : List TopC) : ∀ t, rangeTo subs tops t = gave (emptyL subs) (gaveTo tops (osRange subs tops) t)
  | 0 => rfl
  | t + 1 => by
    rw [rangeTo, serveTo_gave, rangeTo_gave subs tops t, gaveTo, gave_append]
    rfl
theorem roundTo_gave (subs : List SubC) (tops : List TopC) : ∀ t, (roundTo subs tops t).1 = gave (emptyL subs) (gaveTo tops (osRound subs tops) t)
  | 0 => rfl
  | t + 1 => by
    rw [roundTo, gaveTo, gave_append, ← roundTo_gave subs tops t, osRound]
    split
    · rfl
    · rw [roundParts_gave]
/-- How it was dealt: each to one that wants it, and all of them. -/
structure OsOk (subs : List SubC) (tops : List TopC) (os : Nat → List Nat) : Prop where
  own : ∀ t (h : t < tops.length), ∀ o ∈ os t, o ∈ takersL subs tops[t].name
  len : ∀ t (h : t < tops.length), (os t).length = tops[t].parts.toNat * oneIf (takersL subs tops[t].name)

theorem ownRange_mem (tk : List Nat) (p : Nat) : ∀ k, k ≤ tk.length → ∀ o ∈ ownRange tk p k, o ∈ tk
  | 0, _, o, h => by simp [ownRange] at h
  | k + 1, hk, o, h => by
    rw [ownRange, List.mem_append] at h
    rcases h with h | h
    · exact ownRange_mem tk p k (by omega) o h
    · rw [(List.mem_replicate.1 h).2, List.getD, List.getElem?_eq_getElem (by omega), Option.getD_some]
      exact List.getElem_mem _
theorem cnt_eq (p n k : Nat) (hk : k < n) : cntOf p n k = p / n + if k < p % n then 1 else 0 := by
  unfold cntOf
  have h1 : p = n * (p / n) + p % n := (Nat.div_add_mod p n).symm
  have h2 : p % n < n := Nat.mod_lt _ (by omega)
  generalize p / n = q at h1 ⊢
  generalize p % n = r at h1 h2 ⊢
  subst h1
  split
  · rw [show n * q + r + n - 1 - k = (r + n - 1 - k) + n * q by omega, Nat.add_mul_div_left _ _ (by omega)]
    have : (r + n - 1 - k) / n = 1 := by
      rw [Nat.div_eq_of_lt_le (k := 1) (by omega) (by omega)]
    omega
  · rw [show n * q + r + n - 1 - k = (r + n - 1 - k) + n * q by omega, Nat.add_mul_div_left _ _ (by omega)]
    rw [Nat.div_eq_of_lt (by omega)]
    omega
theorem ownRange_len (tk : List Nat) (p : Nat) : ∀ k, k ≤ tk.length → (ownRange tk p k).length = k * (p / tk.length) + min k (p % tk.length)
  | 0, _ => by simp [ownRange]
  | k + 1, hk => by
    rw [ownRange, List.length_append, ownRange_len tk p k (by omega), List.length_replicate, cnt_eq p tk.length k (by omega), Nat.succ_mul]
    split <;> omega
theorem ownRange_all (tk : List Nat) (p : Nat) : (ownRange tk p tk.length).length = p * oneIf tk := by
  rw [ownRange_len tk p tk.length (Nat.le_refl _)]
  unfold oneIf
  by_cases h : tk.length = 0
  · rw [if_pos h, h]; simp
  · rw [if_neg h]
    have h1 := Nat.div_add_mod p tk.length
    have h2 : p % tk.length < tk.length := Nat.mod_lt _ (by omega)
    rw [Nat.min_eq_right (Nat.le_of_lt h2), Nat.mul_one]
    exact h1
theorem getD_name {tops : List TopC} {t : Nat} (h : t < tops.length) : tops.getD t ⟨⟨#[]⟩, 0⟩ = tops[t] := by simp [List.getD, h]
theorem range_ok (subs : List SubC) (tops : List TopC) : OsOk subs tops (osRange subs tops) := by
  refine ⟨fun t h o ho => ?_, fun t h => ?_⟩
  · unfold osRange at ho
    rw [getD_name h] at ho
    exact ownRange_mem _ _ _ (Nat.le_refl _) o ho
  · unfold osRange
    rw [getD_name h, ownRange_all]
theorem next_mem {tk : List Nat} (h : tk.length ≠ 0) (la : Int) : nextOf tk la ∈ tk := by
  unfold nextOf
  have hm : below tk (la + 1) % tk.length < tk.length := Nat.mod_lt _ (by omega)
  rw [List.getD, List.getElem?_eq_getElem hm, Option.getD_some]
  exact List.getElem_mem hm
theorem ownRound_mem {tk : List Nat} (h : tk.length ≠ 0) (la : Int) : ∀ p, ∀ o ∈ ownRound tk la p, o ∈ tk
  | 0, o, ho => by simp [ownRound] at ho
  | p + 1, o, ho => by
    rw [ownRound, List.mem_append, List.mem_singleton] at ho
    rcases ho with ho | rfl
    · exact ownRound_mem h la p o ho
    · exact next_mem h _
theorem round_ok (subs : List SubC) (tops : List TopC) : OsOk subs tops (osRound subs tops) := by
  refine ⟨fun t h o ho => ?_, fun t h => ?_⟩
  · unfold osRound at ho
    rw [getD_name h] at ho
    split at ho
    · simp at ho
    · exact ownRound_mem (by assumption) _ _ o ho
  · unfold osRound oneIf
    rw [getD_name h]
    split
    · simp
    · rw [ownRound_len]; simp
end Go.Proofs.Ytlmajhkhlmkeiaa

/-
  What is dealt in rows, and one by one, is whole.
-/
namespace Go.Proofs.Ytlmajhkhlmkeiaa
open Fx

theorem gave_at : ∀ (G : List (Nat × PartC)) (l : List ShareC) (k : Nat) (h : k < l.length),
    (gave l G)[k]'(by rw [gave_len]; exact h) = ⟨l[k].member, l[k].parts ++ (G.filter fun g => g.1 == k).map (·.2)⟩
  | [], l, k, h => by simp [gave]
  | g :: G, l, k, h => by
    have h1 := gave_at G (giveL l g.1 g.2.topic g.2.index) k (by rw [giveL_len]; exact h)
    rw [giveL_at l _ _ _ k h] at h1
    have h2 : (gave l (g :: G))[k]'(by rw [gave_len]; exact h) = (gave (giveL l g.1 g.2.topic g.2.index) G)[k]'(by rw [gave_len, giveL_len]; exact h) := rfl
    rw [h2, h1, List.filter_cons]
    by_cases e : g.1 = k
    · simp [e]
    · simp [e]
theorem map_modify_sum (f : ShareC → Nat) (d : Nat) (u : ShareC → ShareC) (hu : ∀ x, f (u x) = f x + d) : ∀ (l : List ShareC) (m : Nat), m < l.length → ((l.modify m u).map f).sum = (l.map f).sum + d
  | [], m, h => by simp at h
  | x :: l, 0, _ => by simp [List.modify_zero_cons, hu]; omega
  | x :: l, m + 1, h => by
    have := map_modify_sum f d u hu l m (by simpa using h)
    simp only [List.modify_succ_cons, List.map_cons, List.sum_cons, this]
    omega
theorem total_give (l : List ShareC) (m : Nat) (s : ByteArray) (i : Int) (h : m < l.length) : total (giveL l m s i) = total l + 1 :=
  map_modify_sum (fun sh => sh.parts.length) 1 _ (fun x => by simp) l m h
theorem given_give (t : ByteArray) (q : Int) (l : List ShareC) (m : Nat) (s : ByteArray) (i : Int) (h : m < l.length) : given t q (giveL l m s i) = given t q l + if hit t q ⟨s, i⟩ then 1 else 0 :=
  map_modify_sum (fun sh => sh.parts.countP (hit t q)) _ _ (fun x => by simp [List.countP_cons]) l m h
theorem total_gave : ∀ (G : List (Nat × PartC)) (l : List ShareC), (∀ g ∈ G, g.1 < l.length) → total (gave l G) = total l + G.length
  | [], _, _ => rfl
  | g :: G, l, h => by
    have h1 := total_gave G (giveL l g.1 g.2.topic g.2.index) (fun x hx => by rw [giveL_len]; exact h x (List.mem_cons_of_mem _ hx))
    rw [total_give _ _ _ _ (h g List.mem_cons_self)] at h1
    rw [List.length_cons]
    show total (gave (giveL l g.1 g.2.topic g.2.index) G) = _
    omega
theorem given_gave (t : ByteArray) (q : Int) : ∀ (G : List (Nat × PartC)) (l : List ShareC), (∀ g ∈ G, g.1 < l.length) → given t q (gave l G) = given t q l + G.countP fun g => hit t q g.2
  | [], _, _ => rfl
  | g :: G, l, h => by
    have h1 := given_gave t q G (giveL l g.1 g.2.topic g.2.index) (fun x hx => by rw [giveL_len]; exact h x (List.mem_cons_of_mem _ hx))
    rw [given_give _ _ _ _ _ _ (h g List.mem_cons_self)] at h1
    rw [List.countP_cons]
    show given t q (gave (giveL l g.1 g.2.topic g.2.index) G) = _
    have e : (⟨g.2.topic, g.2.index⟩ : PartC) = g.2 := rfl
    rw [e] at h1
    omega
theorem total_empty (subs : List SubC) : total (emptyL subs) = 0 := by
  unfold total emptyL
  induction subs with
  | nil => rfl
  | cons s l ih => simpa using ih
theorem given_empty (t : ByteArray) (q : Int) (subs : List SubC) : given t q (emptyL subs) = 0 := by
  unfold given emptyL
  induction subs with
  | nil => rfl
  | cons s l ih => simpa using ih

theorem zip_len (s : ByteArray) : ∀ (os : List Nat) (n : Nat), (zipFrom s n os).length = os.length
  | [], _ => rfl
  | o :: os, n => by simp [zipFrom, zip_len s os (n + 1)]
theorem zip_mem {s : ByteArray} : ∀ {os : List Nat} {n : Nat} {g : Nat × PartC}, g ∈ zipFrom s n os → g.1 ∈ os ∧ g.2.topic = s
  | [], _, g, h => by simp [zipFrom] at h
  | o :: os, n, g, h => by
    rw [zipFrom, List.mem_cons] at h
    rcases h with rfl | h
    · exact ⟨List.mem_cons_self, rfl⟩
    · exact ⟨List.mem_cons_of_mem _ (zip_mem h).1, (zip_mem h).2⟩
theorem zip_other {s t : ByteArray} (hne : (s.toList == t.toList) = false) (q : Int) : ∀ (os : List Nat) (n : Nat), (zipFrom s n os).countP (fun g => hit t q g.2) = 0
  | [], _ => rfl
  | o :: os, n => by
    rw [zipFrom, List.countP_cons, zip_other hne q os (n + 1)]
    simp [hit, hne]
theorem zip_count (s : ByteArray) (q : Nat) : ∀ (os : List Nat) (n : Nat), (zipFrom s n os).countP (fun g => hit s q g.2) = if n ≤ q ∧ q < n + os.length then 1 else 0
  | [], n => by simp only [zipFrom, List.countP_nil, List.length_nil]; rw [if_neg (by omega)]
  | o :: os, n => by
    rw [zipFrom, List.countP_cons, zip_count s q os (n + 1)]
    have e : hit s q ⟨s, (n : Int)⟩ = decide (n = q) := by
      unfold hit
      by_cases h : n = q
      · simp [h]
      · have h5 : ¬ (n : Int) = q := by omega
        simp [h, h5]
    simp only [e, List.length_cons]
    by_cases h : n = q
    · subst h
      simp
      omega
    · simp only [h, decide_false, Bool.false_eq_true, if_false, Nat.add_zero]
      split <;> split <;> omega

theorem bytes_lt_trans : ∀ x y z : List UInt8, Op.bytesLess x y = true → Op.bytesLess y z = true → Op.bytesLess x z = true
  | _, [], _, h, _ => by cases ‹List UInt8› <;> simp [Op.bytesLess] at h
  | _, _ :: _, [], _, h => by simp [Op.bytesLess] at h
  | [], _ :: _, _ :: _, _, _ => rfl
  | a :: x, b :: y, c :: z, h1, h2 => by
    simp only [Op.bytesLess, Bool.or_eq_true, Bool.and_eq_true, decide_eq_true_eq, beq_iff_eq] at h1 h2 ⊢
    rcases h1 with h1 | ⟨rfl, h1⟩
    · rcases h2 with h2 | ⟨rfl, h2⟩
      · exact .inl (UInt8.lt_trans h1 h2)
      · exact .inl h1
    · rcases h2 with h2 | ⟨rfl, h2⟩
      · exact .inl h2
      · exact .inr ⟨rfl, bytes_lt_trans x y z h1 h2⟩
theorem bytes_lt_irrefl : ∀ x : List UInt8, Op.bytesLess x x = false
  | [] => rfl
  | a :: x => by simp [Op.bytesLess, bytes_lt_irrefl x]
theorem chain_lt {tops : List TopC} (hc : chain sltB (tops.map TopC.name) = true) : ∀ d i (h : i + d + 1 < tops.length), sltB (tops[i]'(by omega)).name (tops[i + d + 1]).name = true
  | 0, i, h => by
    have := (chain_iff _ _).1 hc i (by simpa using h)
    simpa only [List.getElem_map] using this
  | d + 1, i, h => by
    have h1 := chain_lt hc d i (by omega)
    have h2 := (chain_iff _ _).1 hc (i + d + 1) (by rw [List.length_map]; omega)
    simp only [List.getElem_map] at h2
    exact bytes_lt_trans _ _ _ h1 h2
theorem names_apart {tops : List TopC} (hc : chain sltB (tops.map TopC.name) = true) {i j : Nat} (hi : i < tops.length) (hj : j < tops.length) (hne : i ≠ j) : (tops[i].name.toList == tops[j].name.toList) = false := by
  rw [beq_eq_false_iff_ne]
  intro e
  rcases Nat.lt_or_ge i j with h | h
  · have h1 := chain_lt hc (j - i - 1) i (by omega)
    simp only [show i + (j - i - 1) + 1 = j by omega] at h1
    unfold sltB at h1
    rw [e, bytes_lt_irrefl] at h1
    cases h1
  · have h1 := chain_lt hc (i - j - 1) j (by omega)
    simp only [show j + (i - j - 1) + 1 = i by omega] at h1
    unfold sltB at h1
    rw [e, bytes_lt_irrefl] at h1
    cases h1

variable {subs : List SubC} {tops : List TopC} {os : Nat → List Nat}
theorem gaveTo_len (ho : OsOk subs tops os) : ∀ t, t ≤ tops.length → (gaveTo tops os t).length = mustTo subs tops t
  | 0, _ => by simp [gaveTo, mustTo]
  | t + 1, h => by
    rw [gaveTo, List.length_append, gaveTo_len ho t (by omega), zip_len, mustTo_succ (by omega), ho.len t (by omega)]
theorem gaveTo_mem (ho : OsOk subs tops os) : ∀ t, t ≤ tops.length → ∀ g ∈ gaveTo tops os t, ∃ i, ∃ h : i < tops.length, g.2.topic = tops[i].name ∧ g.1 ∈ takersL subs tops[i].name
  | 0, _, g, hg => by simp [gaveTo] at hg
  | t + 1, h, g, hg => by
    rw [gaveTo, List.mem_append, getD_name (by omega)] at hg
    rcases hg with hg | hg
    · exact gaveTo_mem ho t (by omega) g hg
    · obtain ⟨h1, h2⟩ := zip_mem hg
      exact ⟨t, by omega, h2, ho.own t (by omega) _ h1⟩
theorem gaveTo_count (ho : OsOk subs tops os) (hc : chain sltB (tops.map TopC.name) = true) {i : Nat} (hi : i < tops.length) {q : Nat} (hq : (q : Int) < tops[i].parts) : ∀ t, t ≤ tops.length →
    (gaveTo tops os t).countP (fun g => hit tops[i].name q g.2) = if i < t then oneIf (takersL subs tops[i].name) else 0
  | 0, _ => by simp [gaveTo]
  | t + 1, h => by
    rw [gaveTo, List.countP_append, gaveTo_count ho hc hi hq t (by omega), getD_name (by omega)]
    by_cases e : i = t
    · subst e
      rw [zip_count, ho.len i hi, if_neg (Nat.lt_irrefl _), if_pos (Nat.lt_succ_self _)]
      unfold oneIf
      by_cases h0 : (takersL subs tops[i].name).length = 0
      · rw [if_pos h0, if_neg (by omega)]
      · rw [if_neg h0, if_pos (by omega)]
    · rw [zip_other (names_apart hc (by omega) hi (fun e' => e e'.symm))]
      by_cases h2 : i < t
      · rw [if_pos h2, if_pos (by omega), Nat.add_zero]
      · rw [if_neg h2, if_neg (by omega)]
theorem toList_inj {a b : ByteArray} (h : a.toList = b.toList) : a = b := by
  by_cases e : a = b
  · exact e
  · have := (toList_ne e).2
    rw [h] at this
    simp at this
theorem gave_whole (ho : OsOk subs tops os) (hc : chain sltB (tops.map TopC.name) = true) : WholeL subs tops (gave (emptyL subs) (gaveTo tops os tops.length)) := by
  have hel : (emptyL subs).length = subs.length := by simp [emptyL]
  have hin : ∀ g ∈ gaveTo tops os tops.length, g.1 < (emptyL subs).length := fun g hg => by
    obtain ⟨i, hi, _, h2⟩ := gaveTo_mem ho _ (Nat.le_refl _) g hg
    rw [hel]
    unfold takersL takeTo at h2
    simp at h2
    exact h2.1
  refine ⟨by rw [gave_len, hel], ?_, ?_, ?_, ?_⟩
  · intro t h k hk j hj e
    have hk' : k < (emptyL subs).length := by rw [gave_len] at hk; exact hk
    have ha := gave_at (gaveTo tops os tops.length) (emptyL subs) k hk'
    have hm : (gave (emptyL subs) (gaveTo tops os tops.length))[k].parts[j] ∈ ((gaveTo tops os tops.length).filter fun g => g.1 == k).map (·.2) := by
      have h2 : (emptyL subs)[k].parts = [] := by simp [emptyL]
      have h3 : (gave (emptyL subs) (gaveTo tops os tops.length))[k].parts = ((gaveTo tops os tops.length).filter fun g => g.1 == k).map (·.2) := by rw [ha, h2]; rfl
      have h4 : ∀ (l1 l2 : List PartC) (_ : l1 = l2) (j : Nat) (hj : j < l1.length), l1[j] ∈ l2 := fun l1 l2 e j hj => by subst e; exact List.getElem_mem hj
      exact h4 _ _ h3 j hj
    obtain ⟨g, hg, hg2⟩ := List.mem_map.1 hm
    obtain ⟨hg, hgk⟩ := List.mem_filter.1 hg
    obtain ⟨i, hi, h1, h2⟩ := gaveTo_mem ho _ (Nat.le_refl _) g hg
    rw [← hg2, h1] at e
    have e2 := toList_inj (eq_of_beq e)
    rw [e2] at h2
    rw [← eq_of_beq hgk]
    exact h2
  · intro t h p hp
    rw [given_gave _ _ _ _ hin, given_empty, gaveTo_count ho hc h hp _ (Nat.le_refl _), if_pos h, Nat.zero_add]
  · intro k hk hk'
    have hk2 : k < (emptyL subs).length := by rw [hel]; exact hk'
    rw [gave_at _ _ k hk2]
    simp [emptyL]
  · rw [total_gave _ _ hin, total_empty, gaveTo_len ho _ (Nat.le_refl _), Nat.zero_add]
theorem range_whole (hc : chain sltB (tops.map TopC.name) = true) : WholeL subs tops (rangeL subs tops) := by
  unfold rangeL
  rw [rangeTo_gave]
  exact gave_whole (range_ok subs tops) hc
theorem round_whole (hc : chain sltB (tops.map TopC.name) = true) : WholeL subs tops (roundL subs tops) := by
  unfold roundL
  rw [roundTo_gave]
  exact gave_whole (round_ok subs tops) hc
theorem chk_names {subs : List SubC} {tops : List TopC} (h : chk subs tops = 0) : chain sltB (tops.map TopC.name) = true := by
  unfold chk at h
  split at h
  · rename_i hc
    unfold checkB at hc
    simp only [Bool.and_eq_true] at hc
    exact hc.1.1.2
  · cases h
end Go.Proofs.Ytlmajhkhlmkeiaa

/-
  MemberWhole, the plain law: in Stable what is dealt is whole; it stays while the group is stable.
-/
namespace Go.Proofs.Ytlmajhkhlmkeiaa
open Go.RowKit Go.Shelf Fx

def sharesOf (g : GroupC) : List ShareC := g.ones.map fun o => ⟨o.member, o.parts⟩
/-- Where a group is stable behind a step, it was ahead of it, and has the same. -/
def KS (g h : GroupC) : Prop := h.phase = 3 → g.phase = 3 ∧ subsOf h = subsOf g ∧ sharesOf h = sharesOf g
theorem KS.refl (g : GroupC) : KS g g := fun e => ⟨e, rfl, rfl⟩
theorem KS.trans {g h l : GroupC} (h1 : KS g h) (h2 : KS h l) : KS g l := fun e => by
  obtain ⟨e1, e2, e3⟩ := h2 e
  obtain ⟨e4, e5, e6⟩ := h1 e1
  exact ⟨e4, e2.trans e5, e3.trans e6⟩
theorem KS.off {g h : GroupC} (h1 : ¬ h.phase = 3) : KS g h := fun e => absurd e h1
theorem KS.anew (g l : GroupC) (now : Int) : KS l (anewG g now) := by
  refine KS.off ?_
  unfold anewG
  split
  · exact (by decide : ¬ (0 : Int) = 3)
  · exact (by decide : ¬ (1 : Int) = 3)
theorem KS.close (g l : GroupC) (now : Int) : KS l (closeG g now) := by
  refine KS.off ?_
  unfold closeG
  split
  · exact (by decide : ¬ (0 : Int) = 3)
  · exact (by decide : ¬ (2 : Int) = 3)
theorem KS.drop (g : GroupC) (now : Int) (q : OneC → Bool) : KS g (dropG g now q) := by
  unfold dropG
  split
  · rename_i hl
    have he : g.ones.filter (fun o => !q o) = g.ones := List.filter_eq_self.2 (List.length_filter_eq_length_iff.1 hl)
    have : filG g q = g := by unfold filG; rw [he]
    rw [this]
    exact KS.refl g
  · split
    · exact KS.anew _ _ now
    · split
      · exact KS.close _ _ now
      · rename_i h1 _
        refine KS.off fun e => ?_
        have h2 : g.phase = 3 := e
        exact h1 (.inl (by omega))
theorem KS.join (g : GroupC) (m : Int) (topics : List ByteArray) (now : Int) : KS g (joinG g m topics now) := by
  unfold joinG finG
  split
  · exact KS.close _ _ now
  · refine KS.off fun e => ?_
    have h1 : (startG (addG g m) now).phase = 3 := e
    unfold startG at h1
    split at h1
    · omega
    · exact absurd (KS.anew (addG g m) { g with phase := 0 } now h1).1 (by decide : ¬ (0 : Int) = 3)
theorem touch_subs (g : GroupC) (m t : Int) : subsOf (touchG g m t) = subsOf g := by
  unfold subsOf touchG
  rw [List.map_map]
  apply List.map_congr_left
  intro o _
  simp only [Function.comp, touchO]
  split <;> rfl
theorem touch_shares (g : GroupC) (m t : Int) : sharesOf (touchG g m t) = sharesOf g := by
  unfold sharesOf touchG
  rw [List.map_map]
  apply List.map_congr_left
  intro o _
  simp only [Function.comp, touchO]
  split <;> rfl
theorem KS.touch (g : GroupC) (m t : Int) : KS g (touchG g m t) := fun e => ⟨e, touch_subs g m t, touch_shares g m t⟩
theorem share_subs (g : GroupC) (l : List ShareC) : subsOf (shareG g l) = subsOf g := by
  unfold subsOf shareG enterG
  apply List.ext_getElem
  · simp
  · intro i h1 h2
    simp [partO]
theorem share_shares {g : GroupC} {l : List ShareC} (hl : l.length = g.ones.length) (hm : ∀ k (hk : k < l.length) (hk' : k < g.ones.length), l[k].member = g.ones[k].member) : sharesOf (shareG g l) = l := by
  unfold sharesOf shareG enterG
  apply List.ext_getElem
  · simp [hl]
  · intro i h1 h2
    have h3 : i < g.ones.length := by rw [← hl]; exact h2
    have h4 := hm i h2 h3
    simp only [List.getElem_map, List.getElem_mapIdx, partO, List.getD, List.getElem?_eq_getElem h2, Option.getD_some, ← h4]
def Whole (g : GroupC) (tops : List TopC) : Prop := WholeL (subsOf g) tops (sharesOf g) ∧ tops.length ≤ 30
theorem deal_whole {round : Bool} {g : GroupC} {tops : List TopC} (hc : chk (subsOf g) tops = 0) : WholeL (subsOf (shareG g (dealL round (subsOf g) tops))) tops (sharesOf (shareG g (dealL round (subsOf g) tops))) := by
  have hw : WholeL (subsOf g) tops (dealL round (subsOf g) tops) := by
    unfold dealL
    split
    · exact round_whole (chk_names hc)
    · exact range_whole (chk_names hc)
  have hlen : (dealL round (subsOf g) tops).length = g.ones.length := by rw [hw.len, subsOf_len]
  rw [share_subs, share_shares hlen fun k hk hk' => by
    rw [hw.mem k hk (by rw [subsOf_len]; exact hk')]
    simp [subsOf]]
  exact hw
/-- What is so behind a step of a stable group. -/
def WS (g h : GroupC) (tops : List TopC) : Prop := KS g h ∨ (g.phase ≠ 3 ∧ WholeL (subsOf h) tops (sharesOf h))
theorem WS.sync (g : GroupC) (m gn : Int) (tops : List TopC) (round : Bool) (now : Int) : WS g (syncG g m gn tops round now) tops := by
  have ht : KS g (syncTouch g m now) := KS.touch g m _
  unfold syncG
  split
  · split
    · split
      · exact .inl (KS.refl g)
      · split
        · rename_i h2
          split
          · split
            · rename_i hc
              exact .inr ⟨by rw [h2]; decide, deal_whole hc⟩
            · exact .inl ht
          · exact .inl ht
        · exact .inl ht
    · exact .inl (KS.refl g)
  · exact .inl (KS.refl g)
theorem KS.beat (g : GroupC) (m gn now : Int) : KS g (beatG g m gn now) := by
  unfold beatG
  split
  · split
    · exact KS.touch _ _ _
    · exact KS.refl g
  · exact KS.refl g
theorem KS.leave (g : GroupC) (m now : Int) : KS g (leaveG g m now) := by
  unfold leaveG
  split
  · split
    · exact KS.drop _ _ _
    · exact KS.refl g
  · exact KS.refl g
theorem KS.tick (g : GroupC) (now : Int) : KS g (tickG g now) := by
  unfold tickG
  have hd := KS.drop g now (fun o => decide (o.til ≤ now))
  split
  · split
    · exact hd
    · split
      · exact KS.close _ _ now
      · split
        · exact hd.trans (KS.drop _ now _)
        · exact hd
  · exact KS.refl g
theorem WS.step (g : GroupC) (sg : Int) (o : OpC) : WS g (stepG g sg o) o.parts := by
  unfold stepG
  split
  · split
    · exact .inl (KS.join _ _ _ _)
    · exact .inl (KS.refl g)
  · split
    · exact WS.sync _ _ _ _ _ _
    · split
      · exact .inl (KS.beat _ _ _ _)
      · split
        · exact .inl (KS.leave _ _ _)
        · split
          · exact .inl (KS.tick _ _)
          · exact .inl (KS.refl g)
end Go.Proofs.Ytlmajhkhlmkeiaa
