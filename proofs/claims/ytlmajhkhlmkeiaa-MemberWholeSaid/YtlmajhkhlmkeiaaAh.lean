/-
  What dealing in rows comes to, as lists; the frame of its loops.
-/
import Derived.Test.YtlmajhkhlmkeiaaAg
namespace Go.Proofs.Ytlmajhkhlmkeiaa
open Go.RowKit Fx

/-- One member is given a run of partitions. -/
def giveRun (m : Nat) (s : ByteArray) : (cnt : Nat) → (next : Nat) → List ShareC → List ShareC
  | 0, _, l => l
  | c + 1, next, l => giveRun m s c (next + 1) (giveL l m s next)
theorem giveRun_succ (m : Nat) (s : ByteArray) : ∀ (c next : Nat) (l : List ShareC), giveRun m s (c + 1) next l = giveL (giveRun m s c next l) m s ((next : Int) + c)
  | 0, next, l => by simp [giveRun]
  | c + 1, next, l => by
    rw [giveRun, giveRun_succ m s c (next + 1), giveRun]
    rw [show ((next + 1 : Nat) : Int) + c = (next : Int) + (c + 1 : Nat) by omega]
/-- How many the k-th of n takers gets out of p. -/
def cntOf (p n k : Nat) : Nat := (p + n - 1 - k) / n
/-- The first k takers have been served: the shares, and the next partition. -/
def serveTo (tk : List Nat) (s : ByteArray) (p : Nat) : (k : Nat) → List ShareC → List ShareC × Nat
  | 0, l => (l, 0)
  | k + 1, l => (giveRun (tk.getD k 0) s (cntOf p tk.length k) (serveTo tk s p k l).2 (serveTo tk s p k l).1, (serveTo tk s p k l).2 + cntOf p tk.length k)
/-- The first t topics have been dealt in rows. -/
def rangeTo (subs : List SubC) (tops : List TopC) : (t : Nat) → List ShareC
  | 0 => emptyL subs
  | t + 1 => (serveTo (takersL subs (tops.getD t ⟨⟨#[]⟩, 0⟩).name) (tops.getD t ⟨⟨#[]⟩, 0⟩).name (tops.getD t ⟨⟨#[]⟩, 0⟩).parts.toNat (takersL subs (tops.getD t ⟨⟨#[]⟩, 0⟩).name).length (rangeTo subs tops t)).1
def rangeL (subs : List SubC) (tops : List TopC) : List ShareC := rangeTo subs tops tops.length

/-- Shares of n members, with at most c partitions each. -/
def LOk (n c : Nat) (l : List ShareC) : Prop := l.length = n ∧ ∀ i (h : i < l.length), l[i].parts.length ≤ c
theorem LOk.mono {n c c' : Nat} {l : List ShareC} (h : LOk n c l) (hc : c ≤ c') : LOk n c' l := ⟨h.1, fun i hi => Nat.le_trans (h.2 i hi) hc⟩
theorem LOk.give {n c : Nat} {l : List ShareC} (h : LOk n c l) (m : Nat) (s : ByteArray) (i : Int) : LOk n (c + 1) (giveL l m s i) := by
  refine ⟨by simp [giveL, h.1], fun j hj => ?_⟩
  have hj' : j < l.length := by simpa [giveL] using hj
  have := h.2 j hj'
  simp only [giveL, List.getElem_modify]
  split
  · simp; omega
  · omega
theorem LOk.run {n : Nat} (m : Nat) (s : ByteArray) : ∀ (cnt next c : Nat) (l : List ShareC), LOk n c l → LOk n (c + cnt) (giveRun m s cnt next l)
  | 0, _, _, _, h => h
  | cnt + 1, next, c, l, h => by
    have := LOk.run m s cnt (next + 1) (c + 1) _ (h.give m s next)
    rwa [show c + 1 + cnt = c + (cnt + 1) by omega] at this
theorem LOk.empty (subs : List SubC) : LOk subs.length 0 (emptyL subs) := ⟨by simp [emptyL], fun i hi => by simp [emptyL]⟩
theorem LOk.serve {n c p : Nat} (tk : List Nat) (s : ByteArray) {l : List ShareC} (h : LOk n c l) : ∀ k, LOk n (c + (serveTo tk s p k l).2) (serveTo tk s p k l).1
  | 0 => by simpa [serveTo] using h
  | k + 1 => by
    have := LOk.run (tk.getD k 0) s (cntOf p tk.length k) (serveTo tk s p k l).2 _ _ (LOk.serve (p := p) tk s h k)
    simpa [serveTo, Nat.add_assoc] using this
/-- All of n takers together get p. -/
theorem cnt_le (p n k : Nat) (hk : k < n) : cntOf p n k * n ≤ p + n - 1 - k := Nat.div_mul_le_self _ _
theorem serve_next (tk : List Nat) (s : ByteArray) (p : Nat) (l : List ShareC) : ∀ k, (serveTo tk s p k l).2 ≤ k * p
  | 0 => by simp [serveTo]
  | k + 1 => by
    have h1 := serve_next tk s p l k
    have h2 : cntOf p tk.length k ≤ p := by
      unfold cntOf
      by_cases hn : tk.length = 0
      · rw [hn]; simp
      · by_cases hp : p = 0
        · subst hp
          rw [Nat.div_eq_of_lt (by omega)]
          exact Nat.zero_le _
        · have : p + tk.length - 1 - k ≤ p * tk.length := by
            have h3 : p + tk.length - 1 ≤ p * tk.length := by
              obtain ⟨q, rfl⟩ : ∃ q, p = q + 1 := ⟨p - 1, by omega⟩
              obtain ⟨r, hr⟩ : ∃ r, tk.length = r + 1 := ⟨tk.length - 1, by omega⟩
              rw [hr]
              simp only [Nat.add_mul, Nat.mul_add]
              omega
            omega
          exact Nat.div_le_of_le_mul (by rw [Nat.mul_comm]; exact this)
    simp only [serveTo]
    rw [Nat.add_mul]
    omega
theorem LOk.range {subs : List SubC} {tops : List TopC} (hs : subs.length ≤ 20) (ht : ∀ j (h : j < tops.length), 1 ≤ tops[j].parts ∧ tops[j].parts ≤ 16) : ∀ t, t ≤ tops.length → LOk subs.length (t * 320) (rangeTo subs tops t)
  | 0, _ => by simpa [rangeTo] using LOk.empty subs
  | t + 1, h => by
    have h1 := LOk.range hs ht t (by omega)
    have h2 := LOk.serve (p := (tops.getD t ⟨⟨#[]⟩, 0⟩).parts.toNat) (takersL subs (tops.getD t ⟨⟨#[]⟩, 0⟩).name) (tops.getD t ⟨⟨#[]⟩, 0⟩).name h1 (takersL subs (tops.getD t ⟨⟨#[]⟩, 0⟩).name).length
    have h3 := serve_next (takersL subs (tops.getD t ⟨⟨#[]⟩, 0⟩).name) (tops.getD t ⟨⟨#[]⟩, 0⟩).name (tops.getD t ⟨⟨#[]⟩, 0⟩).parts.toNat (rangeTo subs tops t) (takersL subs (tops.getD t ⟨⟨#[]⟩, 0⟩).name).length
    have h4 : (takersL subs (tops.getD t ⟨⟨#[]⟩, 0⟩).name).length ≤ 20 := Nat.le_trans (takeTo_len _ _ _) hs
    have h5 : (tops.getD t ⟨⟨#[]⟩, 0⟩).parts.toNat ≤ 16 := by
      have := (ht t (by omega)).2
      simp only [List.getD, List.getElem?_eq_getElem (show t < tops.length by omega), Option.getD_some]
      omega
    have h6 : (takersL subs (tops.getD t ⟨⟨#[]⟩, 0⟩).name).length * (tops.getD t ⟨⟨#[]⟩, 0⟩).parts.toNat ≤ 20 * 16 := Nat.mul_le_mul h4 h5
    exact h2.mono (by omega)

/-- In the middle of a topic: a deal, whose footprint was Ft when the topic's takers were known (world wt). -/
def MidRel (wt : World) (d : Nat) (sv : Value) (Ft : Nat → Prop) (l : List ShareC) (wq : World) : Prop :=
  ∃ F, DealAt wq d sv F l ∧ Keeps Ft wt wq ∧ ∀ j, F j → Ft j ∨ wt.heap.size ≤ j
theorem MidRel.give {wt wq w' : World} {d : Nat} {sv : Value} {Ft : Nat → Prop} {F F' : Nat → Prop} {l' : List ShareC} (hk : Keeps Ft wt wq) (hF : ∀ j, F j → Ft j ∨ wt.heap.size ≤ j)
    (h1 : DealAt w' d sv F' l') (h2 : ∀ k, F' k → F k ∨ wq.heap.size ≤ k) (h3 : Keeps F wq w') : MidRel wt d sv Ft l' w' :=
  ⟨F', h1, hk.trans h3 (fun j hj e => (hF j e).elim id fun e => by omega), fun j e => (h2 j e).elim (hF j) fun e => .inr (Nat.le_trans hk.size e)⟩
theorem DealAt.keep {w w' : World} {d : Nat} {sv : Value} {F : Nat → Prop} {l : List ShareC} (h : DealAt w d sv F l) (hk : K0 w w') : DealAt w' d sv F l := by
  obtain ⟨v, vs, h1, h2, h3⟩ := h
  exact ⟨v, vs, (hk.block d (block_lt h1) (fun e => e)).trans h1, h2.keep hk (fun _ _ e => e), h3⟩
theorem DealAt.lt {w : World} {d : Nat} {sv : Value} {F : Nat → Prop} {l : List ShareC} (h : DealAt w d sv F l) {k : Nat} (hk : F k) : k < w.heap.size := by
  obtain ⟨v, vs, h1, h2, h3⟩ := h
  exact h2.lt _ hk
theorem nat_cells {w0 w : World} {b off : Nat} {l : List Nat} {S : Nat → Prop} (h : RowAt 1 rNat w0 b off l) (hk : Keeps S w0 w) (hS : ¬ S b) (k : Nat) (hl : k < l.length) :
    w.cell? ⟨b, off + k, none⟩ = some (.int .i64 l[k]) ∧ b < w.heap.size := by
  obtain ⟨cs, h1, h2, rfl⟩ := h k hl
  have e0 : w0.cell? ⟨b, off + k, none⟩ = some (.int .i64 l[k]) := by have := h2 0 (by omega); simpa using this
  exact ⟨hk.cell' e0 hS, Nat.lt_of_lt_of_le (World.block_lt_of_cell? w0 _ e0) hk.size⟩
theorem takers_lt {subs : List SubC} {s : ByteArray} {k : Nat} (h : k < (takersL subs s).length) : (takersL subs s)[k] < subs.length := by
  have hm : (takersL subs s)[k] ∈ takersL subs s := List.getElem_mem h
  simp only [takersL, takeTo, List.mem_filter, List.mem_range] at hm
  exact hm.1
end Go.Proofs.Ytlmajhkhlmkeiaa
