/-
  Whether each partition is given just once: what the law's 'whole' counts.
-/
import Derived.Test.YtncblldhfmabbaaAl
import Derived.Deep.DeepCutAuto
namespace Go.Proofs.Ytncblldhfmabbaa
open Go.RowKit Fx

/-- Is it that partition? -/
def hit (s : ByteArray) (p : Int) (x : PartC) : Bool := x.topic.toList == s.toList && x.index == p
/-- How often it was given. -/
def given (s : ByteArray) (p : Int) (l : List ShareC) : Nat := (l.map fun sh => sh.parts.countP (hit s p)).sum
/-- How many were given. -/
def total (l : List ShareC) : Nat := (l.map fun sh => sh.parts.length).sum
theorem sum_take {α : Type} (f : α → Nat) (l : List α) (k : Nat) (h : k < l.length) : ((l.take (k + 1)).map f).sum = ((l.take k).map f).sum + f l[k] := by
  rw [List.take_succ_eq_append_getElem h, List.map_append, List.sum_append_nat]
  rfl
theorem sum_take_le {α : Type} (f : α → Nat) (l : List α) (k : Nat) : ((l.take k).map f).sum ≤ (l.map f).sum := by
  have : l.map f = (l.take k).map f ++ (l.drop k).map f := by rw [← List.map_append, List.take_append_drop]
  rw [this, List.sum_append_nat]
  omega
theorem count_take {α : Type} (f : α → Bool) (l : List α) (k : Nat) (h : k < l.length) : (l.take (k + 1)).countP f = (l.take k).countP f + if f l[k] then 1 else 0 := by
  rw [List.take_succ_eq_append_getElem h, List.countP_append]
  simp [List.countP_cons]
theorem count_take_le {α : Type} (f : α → Bool) (l : List α) (k : Nat) : (l.take k).countP f ≤ l.countP f := by
  have : l.countP f = (l.take k).countP f + (l.drop k).countP f := by rw [← List.countP_append, List.take_append_drop]
  omega
/-- How often it was given by the first k, and the first j of the next one. -/
def givenTo (s : ByteArray) (p : Int) (l : List ShareC) (k : Nat) : Nat := ((l.take k).map fun sh => sh.parts.countP (hit s p)).sum
theorem given_part {s : ByteArray} {p : Int} {l : List ShareC} {k : Nat} (h : k < l.length) (j : Nat) : givenTo s p l k + (l[k].parts.take j).countP (hit s p) ≤ given s p l := by
  have h1 := sum_take_le (fun sh : ShareC => sh.parts.countP (hit s p)) l (k + 1)
  have h2 := sum_take (fun sh : ShareC => sh.parts.countP (hit s p)) l k h
  have h3 := count_take_le (hit s p) l[k].parts j
  unfold givenTo given
  omega
theorem givenTo_succ {s : ByteArray} {p : Int} {l : List ShareC} {k : Nat} (h : k < l.length) : givenTo s p l (k + 1) = givenTo s p l k + (l[k].parts.take l[k].parts.length).countP (hit s p) := by
  rw [List.take_length]
  exact sum_take _ l k h
theorem givenTo_all (s : ByteArray) (p : Int) (l : List ShareC) : givenTo s p l l.length = given s p l := by
  unfold givenTo given
  rw [List.take_length]
/-- How often each partition of a topic must be given. -/
def oneIf (tk : List Nat) : Nat := if tk.length = 0 then 0 else 1
theorem oneIf_le (tk : List Nat) : oneIf tk ≤ 1 := by unfold oneIf; split <;> omega
/-- How many partitions of the first t topics must be given. -/
def mustTo (subs : List SubC) (tops : List TopC) (t : Nat) : Nat := ((tops.take t).map fun x => x.parts.toNat * oneIf (takersL subs x.name)).sum
structure WholeL (subs : List SubC) (tops : List TopC) (l : List ShareC) : Prop where
  len : l.length = subs.length
  own : ∀ t (h : t < tops.length) k (hk : k < l.length) (j : Nat) (hj : j < l[k].parts.length), (l[k].parts[j].topic.toList == tops[t].name.toList) = true → k ∈ takersL subs tops[t].name
  cnt : ∀ t (h : t < tops.length) (p : Nat), (p : Int) < tops[t].parts → given tops[t].name p l = oneIf (takersL subs tops[t].name)
  mem : ∀ k (hk : k < l.length) (hk' : k < subs.length), l[k].member = subs[k].member
  sum : total l = mustTo subs tops tops.length
theorem mustTo_succ {subs : List SubC} {tops : List TopC} {t : Nat} (h : t < tops.length) : mustTo subs tops (t + 1) = mustTo subs tops t + tops[t].parts.toNat * oneIf (takersL subs tops[t].name) := sum_take _ tops t h
theorem mustTo_le {subs : List SubC} {tops : List TopC} (hp : ∀ j (h : j < tops.length), 1 ≤ tops[j].parts ∧ tops[j].parts ≤ 16) : ∀ t, t ≤ tops.length → mustTo subs tops t ≤ t * 16
  | 0, _ => by simp [mustTo]
  | t + 1, h => by
    have h1 := mustTo_le (subs := subs) hp t (by omega)
    rw [mustTo_succ (by omega)]
    have h2 := hp t (by omega)
    have h3 := oneIf_le (takersL subs tops[t].name)
    have h4 : tops[t].parts.toNat * oneIf (takersL subs tops[t].name) ≤ 16 * 1 := Nat.mul_le_mul (by omega) h3
    omega
theorem eqlHit {x : PartC} {s : ByteArray} {p : Int} {b : Bool} (h : hit s p x = b) (w : World) : (binOp .eql 41 (.agg #[.string x.topic, .int .i64 x.index]) (.agg #[.string s, .int .i64 p])).run Try.prog w = .ok (.bool b) w := by
  rw [eql41, ← h]
  rfl
/-- Is the member among the first m takers? -/
def amongTo (tk : List Nat) (k m : Nat) : Bool := (tk.take m).any fun x => (x : Int) == (k : Int)
theorem amongTo_succ {tk : List Nat} {k m : Nat} (h : m < tk.length) : amongTo tk k (m + 1) = (amongTo tk k m || ((tk[m] : Int) == (k : Int))) := by
  unfold amongTo
  rw [List.take_succ_eq_append_getElem h, List.any_append]
  simp
theorem amongTo_all {tk : List Nat} {k : Nat} (h : k ∈ tk) : amongTo tk k tk.length = true := by
  unfold amongTo
  rw [List.take_length, List.any_eq_true]
  exact ⟨k, h, by simp⟩
end Go.Proofs.Ytncblldhfmabbaa
