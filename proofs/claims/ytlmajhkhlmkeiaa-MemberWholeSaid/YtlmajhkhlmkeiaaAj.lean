/-
  The library's binary search in a rising list of places.
-/
import Derived.Test.YtlmajhkhlmkeiaaAi
namespace Go.Proofs.Ytlmajhkhlmkeiaa
open Go.RowKit Fx

set_option maxRecDepth 100000 in
set_option maxHeartbeats 1000000 in
theorem less33 (x y : Int) (w : World) : Calls Try.prog 78 #[.int .i64 x, .int .i64 y] w fun e w' => e = .returned (.bool (decide (x < y))) ∧ w = w' := by
  go_enter Try.func78, Try.ntmps78
  go_wp2
  all_goals
    go_ret
    exact ⟨by simp; try omega, rfl⟩

set_option maxRecDepth 100000 in
set_option maxHeartbeats 1000000 in
theorem nan34 (x : Int) (w : World) : Calls Try.prog 79 #[.int .i64 x] w fun e w' => e = .returned (.bool false) ∧ w = w' := by
  have h : (x != x) = false := by simp
  go_enter Try.func79, Try.ntmps79
  go_wp2
  go_ret
  exact ⟨rfl, rfl⟩
/-- How many of the list are below x. -/
def below (l : List Nat) (x : Int) : Nat := (l.filter fun (i : Nat) => decide ((i : Int) < x)).length
theorem below_at {l : List Nat} (hl : l.Pairwise (· < ·)) {x : Int} {i : Nat} (hi : i ≤ l.length) (h1 : ∀ j (h : j < l.length), j < i → (l[j] : Int) < x) (h2 : ∀ j (h : j < l.length), i ≤ j → x ≤ l[j]) : below l x = i := by
  unfold below
  have e : l = l.take i ++ l.drop i := (List.take_append_drop i l).symm
  rw [e, List.filter_append, List.length_append]
  have a1 : (l.take i).filter (fun (i : Nat) => decide ((i : Int) < x)) = l.take i := by
    rw [List.filter_eq_self]
    intro y hy
    obtain ⟨j, hj, rfl⟩ := List.mem_iff_getElem.1 hy
    have hj' : j < i ∧ j < l.length := by simp at hj; omega
    rw [List.getElem_take]
    simpa using h1 j hj'.2 hj'.1
  have a2 : (l.drop i).filter (fun (i : Nat) => decide ((i : Int) < x)) = [] := by
    rw [List.filter_eq_nil_iff]
    intro y hy
    obtain ⟨j, hj, rfl⟩ := List.mem_iff_getElem.1 hy
    have hj' : i + j < l.length := by simp at hj; omega
    rw [List.getElem_drop]
    have := h2 (i + j) hj' (by omega)
    simpa using this
  rw [a1, a2]
  simp
  omega

/-- A place, and whether it was found. -/
def FoundAt (n : Nat) (e : Ending) : Prop := ∃ f, e = .returned (.tuple #[.int .i64 n, .bool f])
set_option maxRecDepth 100000 in
set_option maxHeartbeats 1000000 in
theorem search22 (w0 w : World) (S : Nat → Prop) (sa : Option Addr) (sc : Nat) (l : List Nat) (x : Int) (hs : SlAt 1 rNat w0 sa sc l) (hk : Keeps S w0 w) (hS : ∀ b, (Value.slice sa l.length sc).ownBlock = some b → ¬ S b) (hl : l.Pairwise (· < ·)) (hn : l.length ≤ 1000) :
    Calls Try.prog 71 #[.slice sa l.length sc, .int .i64 x] w fun e w' => FoundAt (below l x) e ∧ w = w' := by
  have hmono : ∀ i j (hi : i < l.length) (hj : j < l.length), i < j → l[i] < l[j] := fun i j hi hj h => List.pairwise_iff_getElem.1 hl i j hi hj h
  have HS := Lib.hid hs
  have HM := Lib.hid hmono
  have HSS := Lib.hid hS
  have HL := Lib.hid hl
  clear hs hmono hS hl
  go_enter Try.func71, Try.ntmps71
  go_wp2
  go_loop [7, 8] (fun i j => ∃ (a b : Nat), i = .int .i64 a ∧ j = .int .i64 b ∧ a ≤ b ∧ b ≤ l.length ∧ (∀ k (h : k < l.length), k < a → (l[k] : Int) < x) ∧ (∀ k (h : k < l.length), b ≤ k → x ≤ l[k])) (fun i j => (intOf j - intOf i).toNat)
  case atStart => exact ⟨0, l.length, rfl, rfl, by omega, by omega, fun k _ h => by omega, fun k _ h => by omega⟩
  case round =>
    obtain ⟨a, b, rfl, rfl, hab, hb, h1, h2⟩ := hrel
    have H1 := Lib.hid h1
    have H2 := Lib.hid h2
    clear h1 h2
    by_cases hlt : a < b
    · have hc : (a + b) / 2 < l.length := by omega
      obtain ⟨bb, off, rfl, hr'⟩ := HS.out.row hc
      obtain ⟨d0, hbl⟩ := nat_cells hr' hk (HSS.out bb rfl) _ hc
      clear hr'
      by_cases hy : (l[(a + b) / 2] : Int) < x
      · have HH : Hid (∀ k (h : k < l.length), k < (a + b) / 2 + 1 → (l[k] : Int) < x) := by
          intro k h hk2
          rcases Nat.lt_or_ge k ((a + b) / 2) with h3 | h3
          · have := HM.out k _ h hc h3
            omega
          · obtain rfl : k = (a + b) / 2 := by omega
            exact hy
        have hyd : decide ((l[(a + b) / 2] : Int) < x) = true := by simpa using hy
        have HY := Lib.hid hyd
        generalize l[(a + b) / 2] = y at d0 hy HY
        clear hyd
        go_wp2_with fail
        refine (less33 _ _ _).mono ?_
        rintro e w' ⟨rfl, rfl⟩
        rw [HY.out]
        go_wp2
        go_round
        case rel => exact ⟨(a + b) / 2 + 1, b, by go_num, rfl, by omega, hb, HH.out, H2.out⟩
        case measure => simp [intOf]; omega
      · have HH : Hid (∀ k (h : k < l.length), (a + b) / 2 ≤ k → x ≤ (l[k] : Int)) := by
          intro k h hk2
          rcases Nat.lt_or_ge ((a + b) / 2) k with h3 | h3
          · have := HM.out _ k hc h h3
            omega
          · obtain rfl : k = (a + b) / 2 := by omega
            omega
        have hyd : decide ((l[(a + b) / 2] : Int) < x) = false := by simpa using hy
        have HY := Lib.hid hyd
        generalize l[(a + b) / 2] = y at d0 hy HY
        clear hyd
        go_wp2_with fail
        refine (less33 _ _ _).mono ?_
        rintro e w' ⟨rfl, rfl⟩
        rw [HY.out]
        go_wp2
        go_round
        case rel => exact ⟨a, (a + b) / 2, rfl, by go_num, by omega, by omega, H1.out, HH.out⟩
        case measure => simp [intOf]; omega
    · obtain rfl : a = b := by omega
      have HB := Lib.hid (below_at HL.out hb H1.out H2.out)
      by_cases hlt2 : a < l.length
      · obtain ⟨bb, off, rfl, hr'⟩ := HS.out.row hlt2
        obtain ⟨d0, hbl⟩ := nat_cells hr' hk (HSS.out bb rfl) _ hlt2
        clear hr' hab hlt
        have h9 : ¬ a < a := by omega
        generalize l[a] = y at d0
        by_cases hy : (y : Int) = x
        · have hy1 : ((y : Int) == x) = true := by simpa using hy
          have HY := Lib.hid hy
          clear hy
          go_wp2
          go_ret2
          refine ⟨⟨true, ?_⟩, rfl⟩
          rw [HB.out]
          rfl
        · have hy1 : ((y : Int) == x) = false := by simpa using hy
          clear hy
          go_wp2_with (go_at_call 79; refine (nan34 _ _).mono ?_; rintro e w' ⟨rfl, rfl⟩)
          go_ret2
          refine ⟨⟨false, ?_⟩, rfl⟩
          rw [HB.out]
          rfl
      · clear hab hlt
        have h9 : ¬ a < a := by omega
        go_wp2
        go_ret2
        refine ⟨⟨false, ?_⟩, rfl⟩
        rw [HB.out]
        rfl
end Go.Proofs.Ytlmajhkhlmkeiaa
