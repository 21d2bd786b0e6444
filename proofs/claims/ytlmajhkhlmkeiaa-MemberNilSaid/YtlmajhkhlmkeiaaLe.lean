/-
  MemberSettles: the walk.
-/
import Derived.Test.YtlmajhkhlmkeiaaLb
namespace Go.Proofs.Ytlmajhkhlmkeiaa
open Go.RowKit Go.Shelf Fx

/-- k have joined, one by one. -/
def jn (tp : List ByteArray) : Nat → GroupC
  | 0 => newG 100 100
  | k + 1 => joinG (jn tp k) (-1) tp 1
def fn (tp : List ByteArray) (n : Nat) : GroupC := joinG (jn tp n) 0 tp 2
/-- Behind all of them: who had to join again has. -/
def settled (tp : List ByteArray) (n : Nat) : GroupC := if n = 1 then jn tp 1 else fn tp n
theorem jn_len (tp : List ByteArray) : ∀ k, k ≤ 10 → (jn tp k).ones.length = k
  | 0, _ => by kernel_rfl
  | 1, _ => by kernel_rfl
  | 2, _ => by kernel_rfl
  | 3, _ => by kernel_rfl
  | 4, _ => by kernel_rfl
  | 5, _ => by kernel_rfl
  | 6, _ => by kernel_rfl
  | 7, _ => by kernel_rfl
  | 8, _ => by kernel_rfl
  | 9, _ => by kernel_rfl
  | 10, _ => by kernel_rfl
  | k + 11, h => absurd h (by omega)
theorem jn_next (tp : List ByteArray) : ∀ k, k ≤ 10 → (jn tp k).next = k
  | 0, _ => by kernel_rfl
  | 1, _ => by kernel_rfl
  | 2, _ => by kernel_rfl
  | 3, _ => by kernel_rfl
  | 4, _ => by kernel_rfl
  | 5, _ => by kernel_rfl
  | 6, _ => by kernel_rfl
  | 7, _ => by kernel_rfl
  | 8, _ => by kernel_rfl
  | 9, _ => by kernel_rfl
  | 10, _ => by kernel_rfl
  | k + 11, h => absurd h (by omega)
theorem jn_phase (tp : List ByteArray) : ∀ k, 2 ≤ k → k ≤ 10 → (jn tp k).phase = 1 ∧ hasM (jn tp k) 0 = true
  | 0, h, _ => absurd h (by omega)
  | 1, h, _ => absurd h (by omega)
  | 2, _, _ => ⟨by kernel_rfl, by kernel_rfl⟩
  | 3, _, _ => ⟨by kernel_rfl, by kernel_rfl⟩
  | 4, _, _ => ⟨by kernel_rfl, by kernel_rfl⟩
  | 5, _, _ => ⟨by kernel_rfl, by kernel_rfl⟩
  | 6, _, _ => ⟨by kernel_rfl, by kernel_rfl⟩
  | 7, _, _ => ⟨by kernel_rfl, by kernel_rfl⟩
  | 8, _, _ => ⟨by kernel_rfl, by kernel_rfl⟩
  | 9, _, _ => ⟨by kernel_rfl, by kernel_rfl⟩
  | 10, _, _ => ⟨by kernel_rfl, by kernel_rfl⟩
  | k + 11, _, h => absurd h (by omega)
/-- What the settled group is. -/
structure SetOk (g : GroupC) (n : Nat) : Prop where
  phase : g.phase = 2
  len : g.ones.length = n
  lead : leaderOf g = 0
  has : hasM g 0 = true
theorem fn_ok (tp : List ByteArray) : ∀ k, 2 ≤ k → k ≤ 10 → SetOk (fn tp k) k
  | 0, h, _ => absurd h (by omega)
  | 1, h, _ => absurd h (by omega)
  | 2, _, _ => ⟨by kernel_rfl, by kernel_rfl, by kernel_rfl, by kernel_rfl⟩
  | 3, _, _ => ⟨by kernel_rfl, by kernel_rfl, by kernel_rfl, by kernel_rfl⟩
  | 4, _, _ => ⟨by kernel_rfl, by kernel_rfl, by kernel_rfl, by kernel_rfl⟩
  | 5, _, _ => ⟨by kernel_rfl, by kernel_rfl, by kernel_rfl, by kernel_rfl⟩
  | 6, _, _ => ⟨by kernel_rfl, by kernel_rfl, by kernel_rfl, by kernel_rfl⟩
  | 7, _, _ => ⟨by kernel_rfl, by kernel_rfl, by kernel_rfl, by kernel_rfl⟩
  | 8, _, _ => ⟨by kernel_rfl, by kernel_rfl, by kernel_rfl, by kernel_rfl⟩
  | 9, _, _ => ⟨by kernel_rfl, by kernel_rfl, by kernel_rfl, by kernel_rfl⟩
  | 10, _, _ => ⟨by kernel_rfl, by kernel_rfl, by kernel_rfl, by kernel_rfl⟩
  | k + 11, _, h => absurd h (by omega)
theorem settled_ok (tp : List ByteArray) {n : Nat} (h1 : 1 ≤ n) (h2 : n ≤ 10) : SetOk (settled tp n) n := by
  unfold settled
  by_cases e : n = 1
  · rw [if_pos e]
    subst e
    exact ⟨by kernel_rfl, by kernel_rfl, by kernel_rfl, by kernel_rfl⟩
  · rw [if_neg e]
    exact fn_ok tp n (by omega) h2
theorem time1 : timeOk 1 = true := by decide
theorem time2 : timeOk 2 = true := by decide
theorem time3 : timeOk 3 = true := by decide
theorem jn_join {tp : List ByteArray} (hc : chk [⟨0, tp⟩] [] = 0) {k : Nat} (hk : k ≤ 10) : joinE (jn tp k) (-1) tp 1 = 0 := by
  have h1 := jn_len tp k hk
  unfold joinE
  rw [if_neg (by rw [not_bad time1 (by omega) hc]; simp), if_neg (by simp), if_neg (by rw [h1]; simp; omega)]
theorem fn_join {tp : List ByteArray} (hc : chk [⟨0, tp⟩] [] = 0) {k : Nat} (h2 : 2 ≤ k) (hk : k ≤ 10) : joinE (jn tp k) 0 tp 2 = 0 := by
  have h1 := (jn_phase tp k h2 hk).2
  unfold joinE
  rw [if_neg (by rw [not_bad time2 (by omega) hc]; simp), if_neg (by rw [h1]; simp), if_neg (by simp)]
theorem jn_ok {tp : List ByteArray} (hc : chk [⟨0, tp⟩] [] = 0) : ∀ k, k ≤ 10 → Ok (1000 - k) (jn tp k)
  | 0, _ => Ok.new (by omega) (by omega)
  | k + 1, h => ((jn_ok hc k (by omega)).le (m := (1000 - (k + 1)) + 1) (by omega)).join (rng _ (.inl rfl)) (few_topics hc) (jn_join hc (by omega))
theorem fn_okk {tp : List ByteArray} (hc : chk [⟨0, tp⟩] [] = 0) {k : Nat} (h2 : 2 ≤ k) (hk : k ≤ 10) : Ok 900 (fn tp k) :=
  ((jn_ok hc k hk).le (m := 901) (by omega)).join (rng _ (.inr (.inl rfl))) (few_topics hc) (fn_join hc h2 hk)
theorem settled_okk {tp : List ByteArray} (hc : chk [⟨0, tp⟩] [] = 0) {n : Nat} (h1 : 1 ≤ n) (h2 : n ≤ 10) : Ok 900 (settled tp n) := by
  unfold settled
  split
  · exact (jn_ok hc 1 (by omega)).le (by omega)
  · exact fn_okk hc (by omega) h2
/-- Where the second loop is. -/
def between (tp : List ByteArray) (n i : Nat) : GroupC := if i = 0 then jn tp n else fn tp n
theorem set_sync {g : GroupC} {n : Nat} (h : SetOk g n) (tops : List TopC) (round : Bool) : syncE g 0 g.gen tops 3 = chk (subsOf (syncTouch g 0 3)) tops ∧ (chk (subsOf (syncTouch g 0 3)) tops = 0 → (syncG g 0 g.gen tops round 3).phase = 3) := by
  have hk : knownE g 0 g.gen = 0 := by unfold knownE; rw [if_pos h.has, if_pos rfl]
  have h1 : ¬ g.phase = 1 := by rw [h.phase]; decide
  refine ⟨?_, fun hc => ?_⟩
  · unfold syncE
    rw [if_pos time3, if_pos hk, if_neg h1, if_pos h.phase, if_pos h.lead.symm]
  · unfold syncG
    rw [if_pos time3, if_pos hk, if_neg h1, if_pos h.phase, if_pos h.lead.symm, if_pos hc]
    rfl
end Go.Proofs.Ytlmajhkhlmkeiaa
