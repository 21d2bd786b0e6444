/-
  Numbers in bytes, as plain functions: what is written, what is read, that both are each other's.
-/
import Derived.Test.YtbjpifipjcfhkaaRows
namespace Go.Proofs.Ytbjpifipjcfhkaa

/-- A number's bytes, of what it is without a sign. -/
def encU (u : Nat) : List Nat := if u < 128 then [u] else (u % 128 + 128) :: encU (u / 128)
termination_by u
decreasing_by omega
def zz (n : Int) : Nat := if n < 0 then 2 * (-(n + 1)).toNat + 1 else 2 * n.toNat
def dz (u : Nat) : Int := if u % 2 = 1 then -((u / 2 : Nat) : Int) - 1 else ((u / 2 : Nat) : Int)
theorem zz_dz (u : Nat) : zz (dz u) = u := by unfold zz dz; split <;> split <;> omega
theorem dz_zz (n : Int) : dz (zz n) = n := by unfold zz dz; split <;> split <;> omega
theorem zz_lt {n : Int} (h : -9223372036854775808 ≤ n ∧ n ≤ 9223372036854775807) : zz n < 18446744073709551616 := by unfold zz; split <;> omega
theorem zz_nat {n : Int} (h : 0 ≤ n) : zz n = 2 * n.toNat := by unfold zz; rw [if_neg (by omega)]
theorem dz_in {u : Nat} (h : u < 18446744073709551616) : -9223372036854775808 ≤ dz u ∧ dz u ≤ 9223372036854775807 := by unfold dz; split <;> omega
theorem encU_small {u : Nat} (h : u < 128) : encU u = [u] := by rw [encU, if_pos h]
theorem encU_more {u : Nat} (h : ¬ u < 128) : encU u = (u % 128 + 128) :: encU (u / 128) := by rw [encU, if_neg h]
theorem encU_ne (u : Nat) : encU u ≠ [] := by
  by_cases h : u < 128
  · rw [encU_small h]; simp
  · rw [encU_more h]; simp
theorem encU_bytes (u : Nat) : ∀ b ∈ encU u, b < 256 := by
  induction u using Nat.strongRecOn with
  | _ u ih =>
    by_cases h : u < 128
    · rw [encU_small h]; intro b hb; simp at hb; omega
    · rw [encU_more h]
      intro b hb
      rcases List.mem_cons.1 hb with rfl | hb
      · omega
      · exact ih (u / 128) (by omega) b hb
/-- The value of bytes. -/
def hv : List Nat → Nat
  | [] => 0
  | b :: l => b % 128 + 128 * hv l
theorem hv_enc (u : Nat) : hv (encU u) = u := by
  induction u using Nat.strongRecOn with
  | _ u ih =>
    by_cases h : u < 128
    · rw [encU_small h]; simp [hv]; omega
    · rw [encU_more h, hv, ih (u / 128) (by omega)]; omega
theorem hv_lt (l : List Nat) : hv l < 128 ^ l.length := by
  induction l with
  | nil => simp [hv]
  | cons b l ih =>
    simp only [hv, List.length_cons, Nat.pow_succ]
    omega
theorem hv_append (l m : List Nat) : hv (l ++ m) = hv l + 128 ^ l.length * hv m := by
  induction l with
  | nil => simp [hv]
  | cons b l ih =>
    simp only [List.cons_append, hv, ih, List.length_cons, Nat.pow_succ, Nat.mul_add]
    rw [show 128 ^ l.length * 128 * hv m = 128 * (128 ^ l.length * hv m) by rw [Nat.mul_comm (128 ^ l.length) 128, Nat.mul_assoc]]
    omega
theorem hv_take {l : List Nat} {i : Nat} (h : i < l.length) : hv (l.take (i + 1)) = hv (l.take i) + 128 ^ i * (l[i] % 128) := by
  rw [List.take_succ_eq_append_getElem h, hv_append, List.length_take, Nat.min_eq_left (by omega)]
  simp [hv]
theorem hv_drop {l : List Nat} {i : Nat} (h : i < l.length) : hv (l.drop i) = l[i] % 128 + 128 * hv (l.drop (i + 1)) := by
  rw [List.drop_eq_getElem_cons h, hv]
/-- Well formed bytes of one number: all but the last one say that more come. -/
structure Form (m : List Nat) (b : Nat) : Prop where
  more : ∀ x ∈ m, 128 ≤ x ∧ x < 256
  last : b < 128
theorem enc_form (u : Nat) : ∃ m b, encU u = m ++ [b] ∧ Form m b ∧ (b ≠ 0 ∨ m = []) := by
  induction u using Nat.strongRecOn with
  | _ u ih =>
    by_cases h : u < 128
    · exact ⟨[], u, encU_small h, ⟨fun x hx => (List.not_mem_nil hx).elim, h⟩, .inr rfl⟩
    · obtain ⟨m, b, e, hf, hb⟩ := ih (u / 128) (by omega)
      refine ⟨(u % 128 + 128) :: m, b, by rw [encU_more h, e]; rfl, ⟨fun x hx => ?_, hf.last⟩, .inl ?_⟩
      · rcases List.mem_cons.1 hx with rfl | hx
        · omega
        · exact hf.more x hx
      · rcases hb with hb | rfl
        · exact hb
        · intro e0
          subst e0
          have h1 := hv_enc (u / 128)
          rw [e] at h1
          simp [hv] at h1
          omega
theorem form_enc {m : List Nat} {b : Nat} (h : Form m b) (hb : b ≠ 0 ∨ m = []) : encU (hv (m ++ [b])) = m ++ [b] := by
  induction m with
  | nil =>
    have h1 := h.last
    have : hv [b] = b := by simp [hv]; omega
    rw [List.nil_append, this, encU_small h1]
  | cons x m ih =>
    have hx := h.more x List.mem_cons_self
    have hb0 : b ≠ 0 := hb.resolve_right (by simp)
    have h2 := ih ⟨fun y hy => h.more y (List.mem_cons_of_mem _ hy), h.last⟩ (.inl hb0)
    have hp : 0 < hv (m ++ [b]) := by
      rw [hv_append]
      have h1 := h.last
      have : hv [b] = b := by simp [hv]; omega
      rw [this]
      have : 0 < 128 ^ m.length * b := Nat.mul_pos (Nat.pow_pos (by omega)) (by omega)
      omega
    rw [List.cons_append, hv, encU_more (by omega)]
    congr 1
    · omega
    · rw [show (x % 128 + 128 * hv (m ++ [b])) / 128 = hv (m ++ [b]) by omega, h2]
/-- May they be a number's bytes? -/
def canon (m : List Nat) (b : Nat) : Prop := (b ≠ 0 ∨ m = []) ∧ (m.length < 9 ∨ b ≤ 1)
theorem pow9 : 128 ^ 9 = 9223372036854775808 := by decide
theorem hv_form {m : List Nat} {b : Nat} (h : b < 128) : hv (m ++ [b]) = hv m + 128 ^ m.length * b := by
  rw [hv_append]
  congr 2
  simp [hv]; omega
theorem canon_lt {m : List Nat} {b : Nat} (h : Form m b) (hl : m.length ≤ 9) (hc : canon m b) : hv (m ++ [b]) < 18446744073709551616 := by
  rcases hc.2 with h1 | h1
  · have h2 := hv_lt (m ++ [b])
    have h3 : 128 ^ (m ++ [b]).length ≤ 128 ^ 9 := Nat.pow_le_pow_right (by omega) (by simp; omega)
    rw [pow9] at h3
    omega
  · rw [hv_form h.last]
    have h2 := hv_lt m
    have h3 : 128 ^ m.length ≤ 128 ^ 9 := Nat.pow_le_pow_right (by omega) hl
    have h4 : 128 ^ m.length * b ≤ 128 ^ m.length * 1 := Nat.mul_le_mul_left _ h1
    rw [pow9] at h3
    omega
/-- Written again they are they, just if they may be. -/
theorem enc_iff {m : List Nat} {b : Nat} (h : Form m b) (hl : m.length ≤ 9) : encU (hv (m ++ [b]) % 18446744073709551616) = m ++ [b] ↔ canon m b := by
  constructor
  · intro e
    obtain ⟨m', b', e2, hf, hb⟩ := enc_form (hv (m ++ [b]) % 18446744073709551616)
    rw [e] at e2
    obtain ⟨rfl, e3⟩ := List.append_inj' e2 rfl
    obtain rfl : b = b' := by simpa using e3
    refine ⟨hb, ?_⟩
    by_cases h9 : m.length < 9
    · exact .inl h9
    · right
      have h1 := hv_enc (hv (m ++ [b]) % 18446744073709551616)
      rw [e] at h1
      have h2 : hv (m ++ [b]) < 18446744073709551616 := by omega
      rw [hv_form h.last, show m.length = 9 by omega, pow9] at h2
      omega
  · intro hc
    rw [Nat.mod_eq_of_lt (canon_lt h hl hc)]
    exact form_enc h hc.1
/-- How many bytes of a text say that more come. -/
def contK : List Nat → Nat
  | [] => 0
  | b :: l => if 128 ≤ b then contK l + 1 else 0
theorem contK_le (l : List Nat) : contK l ≤ l.length := by
  induction l with
  | nil => simp [contK]
  | cons b l ih => simp only [contK]; split <;> simp <;> omega
theorem contK_more : ∀ {l : List Nat} {i : Nat} (_ : i < contK l) (hi : i < l.length), 128 ≤ l[i]
  | [], _, _, hi => absurd hi (Nat.not_lt_zero _)
  | b :: l, i, h, hi => by
    simp only [contK] at h
    split at h
    · rename_i hb
      cases i with
      | zero => exact hb
      | succ i => exact contK_more (l := l) (by omega) (by simpa using hi)
    · omega
theorem contK_last : ∀ {l : List Nat} (hi : contK l < l.length), l[contK l] < 128
  | [], hi => absurd hi (Nat.not_lt_zero _)
  | b :: l, hi => by
    by_cases hb : 128 ≤ b
    · have e : contK (b :: l) = contK l + 1 := by simp [contK, hb]
      have h1 : contK l < l.length := by rw [e] at hi; simpa using hi
      have h2 := contK_last (l := l) h1
      simp only [e, List.getElem_cons_succ]
      exact h2
    · have e : contK (b :: l) = 0 := by simp [contK, hb]
      simp only [e, List.getElem_cons_zero]
      omega
theorem contK_ge {l : List Nat} {k : Nat} (hk : k ≤ l.length) (h : ∀ i (hi : i < l.length), i < k → 128 ≤ l[i]) : k ≤ contK l := by
  by_cases h1 : contK l < k
  · have h2 := contK_last (l := l) (by omega)
    have := h (contK l) (by omega) h1
    omega
  · omega
theorem contK_eq {l : List Nat} {k : Nat} (hk : k < l.length) (h : ∀ i (hi : i < l.length), i < k → 128 ≤ l[i]) (h1 : l[k] < 128) : contK l = k := by
  have h2 := contK_ge (Nat.le_of_lt hk) h
  by_cases h3 : k < contK l
  · have := contK_more h3 hk
    omega
  · omega
theorem contK_end {l : List Nat} (h : ∀ i (hi : i < l.length), 128 ≤ l[i]) : contK l = l.length := by
  have h2 := contK_ge (Nat.le_refl l.length) (fun i hi _ => h i hi)
  have := contK_le l
  omega
def canonB (l : List Nat) : Bool := (l.getD (contK l) 0 != 0 || contK l == 0) && (decide (contK l < 9) || decide (l.getD (contK l) 0 ≤ 1))
/-- What reading a number answers. -/
def decE (l : List Nat) : Int := if 10 ≤ contK l then 3 else if l.length ≤ contK l then 2 else if canonB l = true then 0 else 3
def decN (l : List Nat) : Int := if decE l = 0 then dz (hv (l.take (contK l + 1))) else 0
def decT (n : Int) (l : List Nat) : Int := if decE l = 0 then n + contK l + 1 else 0
theorem decE_ok {l : List Nat} (h : decE l = 0) : contK l < 10 ∧ contK l < l.length ∧ canonB l = true := by
  unfold decE at h
  split at h
  · cases h
  · split at h
    · cases h
    · split at h
      · exact ⟨by omega, by omega, by assumption⟩
      · cases h
theorem take_form {l : List Nat} (hb : ∀ b ∈ l, b < 256) (h : contK l < l.length) : l.take (contK l + 1) = l.take (contK l) ++ [l[contK l]] ∧ Form (l.take (contK l)) l[contK l] := by
  refine ⟨List.take_succ_eq_append_getElem h, fun x hx => ?_, contK_last h⟩
  obtain ⟨i, hi, rfl⟩ := List.mem_iff_getElem.1 hx
  have hi2 : i < contK l := by simp at hi; omega
  rw [List.getElem_take]
  exact ⟨contK_more hi2 (by omega), hb _ (List.getElem_mem _)⟩
theorem canonB_iff {l : List Nat} (h : contK l < l.length) : canonB l = true ↔ canon (l.take (contK l)) l[contK l] := by
  unfold canonB canon
  rw [show l.getD (contK l) 0 = l[contK l] by simp [List.getD, h]]
  simp only [Bool.and_eq_true, Bool.or_eq_true, bne_iff_ne, ne_eq, beq_iff_eq, decide_eq_true_eq, List.length_take]
  rw [Nat.min_eq_left (by omega)]
  have : l.take (contK l) = [] ↔ contK l = 0 := by
    rw [List.take_eq_nil_iff]
    constructor
    · rintro (h1 | h1)
      · exact h1
      · rw [h1] at h; exact absurd h (Nat.not_lt_zero _)
    · exact .inl
  rw [this]
/-- The bytes read are written again, just if all is well. -/
theorem again_iff {l : List Nat} (hb : ∀ b ∈ l, b < 256) (hk : contK l < 10) (h : contK l < l.length) : encU (hv (l.take (contK l + 1)) % 18446744073709551616) = l.take (contK l + 1) ↔ canonB l = true := by
  obtain ⟨e, hf⟩ := take_form hb h
  rw [e, enc_iff hf (by simp; omega), canonB_iff h]
theorem canon_value {l : List Nat} (hb : ∀ b ∈ l, b < 256) (hk : contK l < 10) (h : contK l < l.length) (hc : canonB l = true) : hv (l.take (contK l + 1)) < 18446744073709551616 := by
  obtain ⟨e, hf⟩ := take_form hb h
  rw [e]
  exact canon_lt hf (by simp; omega) ((canonB_iff h).1 hc)
theorem contK_enc (u : Nat) (l : List Nat) : contK (encU u ++ l) + 1 = (encU u).length ∧ contK (encU u ++ l) < (encU u ++ l).length := by
  induction u using Nat.strongRecOn with
  | _ u ih =>
    by_cases h : u < 128
    · rw [encU_small h]
      have h1 : contK ([u] ++ l) = 0 := by simp [contK]; omega
      rw [h1]
      simp
    · rw [encU_more h]
      have := ih (u / 128) (by omega)
      simp only [List.cons_append, contK]
      rw [if_pos (by omega)]
      simp only [List.length_cons]
      omega
theorem enc_len {u : Nat} (h : u < 18446744073709551616) : (encU u).length ≤ 10 := by
  obtain ⟨m, b, e, hf, hb⟩ := enc_form u
  rw [e]
  by_cases h1 : m.length ≤ 9
  · simp; omega
  · have h2 := hv_enc u
    rw [e, hv_form hf.last] at h2
    have hb0 : b ≠ 0 := hb.resolve_right (fun e => h1 (by rw [e]; simp))
    have h3 : 128 ^ 10 ≤ 128 ^ m.length := Nat.pow_le_pow_right (by omega) (by omega)
    have h4 : 128 ^ m.length * 1 ≤ 128 ^ m.length * b := Nat.mul_le_mul_left _ (by omega)
    have h5 : 128 ^ 10 = 1180591620717411303424 := by decide
    omega
/-- What is written is read. -/
theorem dec_enc {u : Nat} (hu : u < 18446744073709551616) (l : List Nat) : decE (encU u ++ l) = 0 ∧ contK (encU u ++ l) + 1 = (encU u).length ∧ decN (encU u ++ l) = dz u := by
  obtain ⟨h1, h2⟩ := contK_enc u l
  have h3 := enc_len hu
  have h4 : (encU u ++ l).take (contK (encU u ++ l) + 1) = encU u := by rw [h1, List.take_left]
  have hc : canonB (encU u ++ l) = true := by
    rw [canonB_iff h2]
    obtain ⟨m, b, e, hf, hb⟩ := enc_form u
    have h5 : (encU u ++ l).take (contK (encU u ++ l) + 1) = (encU u ++ l).take (contK (encU u ++ l)) ++ [(encU u ++ l)[contK (encU u ++ l)]] := List.take_succ_eq_append_getElem h2
    rw [h4] at h5
    generalize (encU u ++ l).take (contK (encU u ++ l)) = m1 at h5 ⊢
    generalize (encU u ++ l)[contK (encU u ++ l)] = b1 at h5 ⊢
    rw [e] at h5
    obtain ⟨rfl, e2⟩ := List.append_inj' h5 rfl
    obtain rfl : b = b1 := by simpa using e2
    refine ⟨hb, ?_⟩
    by_cases h9 : m.length < 9
    · exact .inl h9
    · right
      have h6 := hv_enc u
      rw [e, hv_form hf.last] at h6
      have h7 : m.length = 9 := by rw [e] at h3; simp at h3; omega
      rw [h7, pow9] at h6
      omega
  have hE : decE (encU u ++ l) = 0 := by
    unfold decE
    rw [if_neg (by omega), if_neg (by omega), if_pos hc]
  refine ⟨hE, h1, ?_⟩
  unfold decN
  rw [if_pos hE, h4, hv_enc]
end Go.Proofs.Ytbjpifipjcfhkaa
