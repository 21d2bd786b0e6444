/-
  Lists that rise: the generic function of the package assign at its three types, and the reference's.
-/
import Derived.Test.YtlmajhkhlmkeiaaAa
import Derived.Deep.RegionHeld3
namespace Go.Proofs.Ytlmajhkhlmkeiaa
open Go.RowKit Fx

/-- Each is ahead of the next one. -/
def chain {α : Type} (lt : α → α → Bool) : List α → Bool
  | a :: b :: r => lt a b && chain lt (b :: r)
  | _ => true
theorem chain_iff {α : Type} (lt : α → α → Bool) : ∀ l : List α, chain lt l = true ↔ ∀ j (h : j + 1 < l.length), lt l[j] l[j + 1] = true
  | [] => by simp [chain]
  | [a] => by simp [chain]
  | a :: b :: r => by
    simp only [chain, Bool.and_eq_true, chain_iff lt (b :: r)]
    constructor
    · rintro ⟨h0, h1⟩ j hj
      cases j with
      | zero => exact h0
      | succ j => exact h1 j (by simpa using hj)
    · intro h
      exact ⟨h 0 (by simp), fun j hj => h (j + 1) (by simpa using hj)⟩
theorem chain_false {α : Type} (lt : α → α → Bool) (l : List α) (j : Nat) (h : j + 1 < l.length) (hf : lt l[j] l[j + 1] = false) : chain lt l = false := by
  cases hc : chain lt l
  · rfl
  · rw [(chain_iff lt l).1 hc j h] at hf; cases hf

theorem lt_of_not' {j k n : Nat} (hlt : ¬ k + 1 < n) (h : j + 1 < n) : j < k := by omega
def sltB (a b : ByteArray) : Bool := Op.bytesLess a.toList b.toList

set_option maxHeartbeats 400000 in
theorem key26 (m : Int) (v : Value) (w : World) : Calls Try.prog 43 #[.agg #[.int .i64 m, v]] w fun e w' => Same w e (.int .i64 m) w' := by
  go_enter Try.func43, Try.ntmps43
  go_wp2
  go_ret
  exact ⟨rfl, (Keeps.refl _ _).alloc _⟩
set_option maxHeartbeats 400000 in
theorem key28 (s : ByteArray) (v : Value) (w : World) : Calls Try.prog 45 #[.agg #[.string s, v]] w fun e w' => Same w e (.string s) w' := by
  go_enter Try.func45, Try.ntmps45
  go_wp2
  go_ret
  exact ⟨rfl, (Keeps.refl _ _).alloc _⟩
set_option maxHeartbeats 400000 in
theorem key30 (s : ByteArray) (w : World) : Calls Try.prog 47 #[.string s] w fun e w' => Same w e (.string s) w' := by
  go_enter Try.func47, Try.ntmps47
  go_wp2
  go_ret
  exact ⟨rfl, Keeps.refl _ _⟩

set_option maxRecDepth 100000 in
set_option maxHeartbeats 1000000 in
theorem rises25 (w0 w : World) (sa : Option Addr) (sc : Nat) (l : List SubC) (hs : SlAt 2 rSub w0 sa sc l) (hb : Below w0.heap.size w0 w) :
    Calls Try.prog 42 #[.slice sa l.length sc, .func (.func 43) #[] #[]] w fun e w' => Same w e (.bool (chain (fun a b : Int => decide (a < b)) (l.map SubC.member))) w' := by
  have hm := hs.len
  have HS := Lib.hid hs
  have HB := Lib.hid hb
  clear hs hb
  go_enter Try.func42, Try.ntmps42
  go_wp2
  go_loopw [5] (fun i wr => ∃ k : Nat, i = .int .i64 (k + 1 : Int) ∧ k ≤ l.length ∧ (∀ j (h : j + 1 < l.length), j < k → (fun a b : Int => decide (a < b)) l[j].member l[j + 1].member = true) ∧ K0 w wr) (fun i _ => l.length - (intOf i).toNat)
  case atStart => exact ⟨0, rfl, by omega, fun j _ h => by omega, Keeps.refl _ _⟩
  case round =>
    obtain ⟨k, rfl, hk, hq, hkw⟩ := hrel
    have HQ := Lib.hid hq
    have hbr := hkw.after HB.out
    have HK := Lib.hid hkw
    clear hq hkw
    by_cases hlt : k + 1 < l.length
    · obtain ⟨b, off, rfl, hr'⟩ := HS.out.row hlt
      obtain ⟨a1, cap1, c0, c1, hbl, _⟩ := sub_cells hr' hbr k (by omega)
      obtain ⟨a2, cap2, d0, d1, _, _⟩ := sub_cells hr' hbr (k + 1) hlt
      generalize l[k].topics.length = n1 at c1
      generalize l[k + 1].topics.length = n2 at d1
      generalize hx : l[k].member = x at c0
      generalize hy : l[k + 1].member = y at d0
      have HX := Lib.hid hx
      have HY := Lib.hid hy
      clear hx hy
      clear hr' hbr
      have hI : IntKind.i64.wrap (k : Int) = k := IntWalk.i64_in _ (by omega)
      have i0 : (0 : Int) ≤ k := by omega
      have i1 : (k : Int) < l.length := by omega
      have i2 : (0 : Int) ≤ (k : Int) + 1 := by omega
      have i3 : (k : Int) + 1 < l.length := by omega
      have i4 : ((k : Int) + 1).toNat = k + 1 := by omega
      by_cases hd : x < y
      · have HD : Hid (decide (x < y) = true) := by simpa [Hid] using hd
        go_wp2_with fail
        go_region_held3 (fun w' => w'.cell? ⟨b, off + k * 2, none⟩ = some (.int .i64 x) ∧ w'.cell? ⟨b, off + k * 2 + 1, none⟩ = some (.slice a1 n1 cap1) ∧ w'.cell? ⟨b, off + (k + 1) * 2, none⟩ = some (.int .i64 y) ∧ w'.cell? ⟨b, off + (k + 1) * 2 + 1, none⟩ = some (.slice a2 n2 cap2)) (first | go_keep | (go_split_ands; refine ⟨?_, ?_, ?_, ?_⟩ <;> exact Keeps.cell' (by assumption) (by assumption) (by simp))) (first | (go_at_call 43; refine (key26 _ _ _).mono ?_; rintro e w' ⟨rfl, hk'⟩))
        go_wp2
        go_roundw
        case rel => exact ⟨k + 1, by go_num, by omega, fun j h hj => (Nat.lt_succ_iff_lt_or_eq.1 hj).elim (HQ.out j h) fun e => by subst e; rw [HX.out, HY.out]; exact HD.out, (K0.tr (w1 := wr.drew) HK.out.drew (K0.tr ‹K0 wr.drew _› (by assumption)))⟩
        case measure => simp [intOf]; omega
      · have HD : Hid (chain (fun a b : Int => decide (a < b)) (l.map SubC.member) = false) := chain_false _ _ k (by first | exact hlt | simpa using hlt) (by simp only [List.getElem_map]; rw [HX.out, HY.out]; simpa using hd)
        skip
        go_wp2_with fail
        go_region_held3 (fun w' => w'.cell? ⟨b, off + k * 2, none⟩ = some (.int .i64 x) ∧ w'.cell? ⟨b, off + k * 2 + 1, none⟩ = some (.slice a1 n1 cap1) ∧ w'.cell? ⟨b, off + (k + 1) * 2, none⟩ = some (.int .i64 y) ∧ w'.cell? ⟨b, off + (k + 1) * 2 + 1, none⟩ = some (.slice a2 n2 cap2)) (first | go_keep | (go_split_ands; refine ⟨?_, ?_, ?_, ?_⟩ <;> exact Keeps.cell' (by assumption) (by assumption) (by simp))) (first | (go_at_call 43; refine (key26 _ _ _).mono ?_; rintro e w' ⟨rfl, hk'⟩))
        go_wp2
        go_ret
        rw [HD.out]
        exact ⟨rfl, (K0.tr (w1 := wr.drew) HK.out.drew (K0.tr ‹K0 wr.drew _› (by assumption)))⟩
    · have HD : Hid (chain (fun a b : Int => decide (a < b)) (l.map SubC.member) = true) := (chain_iff _ _).2 (fun j h => by simp only [List.getElem_map]; exact HQ.out j (by first | exact h | simpa using h) (lt_of_not' hlt (by first | exact h | simpa using h)))
      clear hbr
      go_wp2
      go_ret
      rw [HD.out]
      exact ⟨rfl, HK.out⟩
set_option maxRecDepth 100000 in
set_option maxHeartbeats 1000000 in
theorem rises27 (w0 w : World) (sa : Option Addr) (sc : Nat) (l : List TopC) (hs : SlAt 2 rTop w0 sa sc l) (hb : Below w0.heap.size w0 w) :
    Calls Try.prog 44 #[.slice sa l.length sc, .func (.func 45) #[] #[]] w fun e w' => Same w e (.bool (chain sltB (l.map TopC.name))) w' := by
  have hm := hs.len
  have HS := Lib.hid hs
  have HB := Lib.hid hb
  clear hs hb
  go_enter Try.func44, Try.ntmps44
  go_wp2
  go_loopw [5] (fun i wr => ∃ k : Nat, i = .int .i64 (k + 1 : Int) ∧ k ≤ l.length ∧ (∀ j (h : j + 1 < l.length), j < k → sltB l[j].name l[j + 1].name = true) ∧ K0 w wr) (fun i _ => l.length - (intOf i).toNat)
  case atStart => exact ⟨0, rfl, by omega, fun j _ h => by omega, Keeps.refl _ _⟩
  case round =>
    obtain ⟨k, rfl, hk, hq, hkw⟩ := hrel
    have HQ := Lib.hid hq
    have hbr := hkw.after HB.out
    have HK := Lib.hid hkw
    clear hq hkw
    by_cases hlt : k + 1 < l.length
    · obtain ⟨b, off, rfl, hr'⟩ := HS.out.row hlt
      obtain ⟨c0, c1, hbl⟩ := top_cells hr' hbr k (by omega)
      obtain ⟨d0, d1, _⟩ := top_cells hr' hbr (k + 1) hlt
      generalize l[k].parts = n1 at c1
      generalize l[k + 1].parts = n2 at d1
      generalize hx : l[k].name = x at c0
      generalize hy : l[k + 1].name = y at d0
      have HX := Lib.hid hx
      have HY := Lib.hid hy
      clear hx hy
      clear hr' hbr
      have hI : IntKind.i64.wrap (k : Int) = k := IntWalk.i64_in _ (by omega)
      have i0 : (0 : Int) ≤ k := by omega
      have i1 : (k : Int) < l.length := by omega
      have i2 : (0 : Int) ≤ (k : Int) + 1 := by omega
      have i3 : (k : Int) + 1 < l.length := by omega
      have i4 : ((k : Int) + 1).toNat = k + 1 := by omega
      by_cases hd : sltB x y = true
      · have HD := Lib.hid hd
        have hd' : Op.bytesLess x.toList y.toList = true := hd
        go_wp2_with fail
        go_region_held3 (fun w' => w'.cell? ⟨b, off + k * 2, none⟩ = some (.string x) ∧ w'.cell? ⟨b, off + k * 2 + 1, none⟩ = some (.int .i64 n1) ∧ w'.cell? ⟨b, off + (k + 1) * 2, none⟩ = some (.string y) ∧ w'.cell? ⟨b, off + (k + 1) * 2 + 1, none⟩ = some (.int .i64 n2)) (first | go_keep | (go_split_ands; refine ⟨?_, ?_, ?_, ?_⟩ <;> exact Keeps.cell' (by assumption) (by assumption) (by simp))) (first | (go_at_call 45; refine (key28 _ _ _).mono ?_; rintro e w' ⟨rfl, hk'⟩))
        go_wp2
        go_roundw
        case rel => exact ⟨k + 1, by go_num, by omega, fun j h hj => (Nat.lt_succ_iff_lt_or_eq.1 hj).elim (HQ.out j h) fun e => by subst e; rw [HX.out, HY.out]; exact HD.out, (K0.tr (w1 := wr.drew) HK.out.drew (K0.tr ‹K0 wr.drew _› (by assumption)))⟩
        case measure => simp [intOf]; omega
      · have HD : Hid (chain sltB (l.map TopC.name) = false) := chain_false _ _ k (by first | exact hlt | simpa using hlt) (by simp only [List.getElem_map]; rw [HX.out, HY.out]; simpa using hd)
        have hd' : Op.bytesLess x.toList y.toList = false := by simpa [sltB] using hd
        go_wp2_with fail
        go_region_held3 (fun w' => w'.cell? ⟨b, off + k * 2, none⟩ = some (.string x) ∧ w'.cell? ⟨b, off + k * 2 + 1, none⟩ = some (.int .i64 n1) ∧ w'.cell? ⟨b, off + (k + 1) * 2, none⟩ = some (.string y) ∧ w'.cell? ⟨b, off + (k + 1) * 2 + 1, none⟩ = some (.int .i64 n2)) (first | go_keep | (go_split_ands; refine ⟨?_, ?_, ?_, ?_⟩ <;> exact Keeps.cell' (by assumption) (by assumption) (by simp))) (first | (go_at_call 45; refine (key28 _ _ _).mono ?_; rintro e w' ⟨rfl, hk'⟩))
        go_wp2
        go_ret
        rw [HD.out]
        exact ⟨rfl, (K0.tr (w1 := wr.drew) HK.out.drew (K0.tr ‹K0 wr.drew _› (by assumption)))⟩
    · have HD : Hid (chain sltB (l.map TopC.name) = true) := (chain_iff _ _).2 (fun j h => by simp only [List.getElem_map]; exact HQ.out j (by first | exact h | simpa using h) (lt_of_not' hlt (by first | exact h | simpa using h)))
      clear hbr
      go_wp2
      go_ret
      rw [HD.out]
      exact ⟨rfl, HK.out⟩
set_option maxRecDepth 100000 in
set_option maxHeartbeats 1000000 in
theorem rises29 (w0 w : World) (sa : Option Addr) (sc : Nat) (l : List ByteArray) (hs : SlAt 1 rStr w0 sa sc l) (hb : Below w0.heap.size w0 w) :
    Calls Try.prog 46 #[.slice sa l.length sc, .func (.func 47) #[] #[]] w fun e w' => Same w e (.bool (chain sltB l)) w' := by
  have hm := hs.len
  have HS := Lib.hid hs
  have HB := Lib.hid hb
  clear hs hb
  go_enter Try.func46, Try.ntmps46
  go_wp2
  go_loopw [5] (fun i wr => ∃ k : Nat, i = .int .i64 (k + 1 : Int) ∧ k ≤ l.length ∧ (∀ j (h : j + 1 < l.length), j < k → sltB l[j] l[j + 1] = true) ∧ K0 w wr) (fun i _ => l.length - (intOf i).toNat)
  case atStart => exact ⟨0, rfl, by omega, fun j _ h => by omega, Keeps.refl _ _⟩
  case round =>
    obtain ⟨k, rfl, hk, hq, hkw⟩ := hrel
    have HQ := Lib.hid hq
    have hbr := hkw.after HB.out
    have HK := Lib.hid hkw
    clear hq hkw
    by_cases hlt : k + 1 < l.length
    · obtain ⟨b, off, rfl, hr'⟩ := HS.out.row hlt
      obtain ⟨c0, hbl⟩ := str_cells hr' hbr k (by omega)
      obtain ⟨d0, _⟩ := str_cells hr' hbr (k + 1) hlt
      generalize hx : l[k] = x at c0
      generalize hy : l[k + 1] = y at d0
      have HX := Lib.hid hx
      have HY := Lib.hid hy
      clear hx hy
      clear hr' hbr
      have hI : IntKind.i64.wrap (k : Int) = k := IntWalk.i64_in _ (by omega)
      have i0 : (0 : Int) ≤ k := by omega
      have i1 : (k : Int) < l.length := by omega
      have i2 : (0 : Int) ≤ (k : Int) + 1 := by omega
      have i3 : (k : Int) + 1 < l.length := by omega
      have i4 : ((k : Int) + 1).toNat = k + 1 := by omega
      by_cases hd : sltB x y = true
      · have HD := Lib.hid hd
        have hd' : Op.bytesLess x.toList y.toList = true := hd
        go_wp2_with fail
        go_region_held3 (fun w' => w'.cell? ⟨b, off + k, none⟩ = some (.string x) ∧ w'.cell? ⟨b, off + (k + 1), none⟩ = some (.string y)) (first | go_keep | (go_split_ands; refine ⟨?_, ?_⟩ <;> exact Keeps.cell' (by assumption) (by assumption) (by simp))) (first | (go_at_call 47; refine (key30 _ _).mono ?_; rintro e w' ⟨rfl, hk'⟩))
        go_wp2
        go_roundw
        case rel => exact ⟨k + 1, by go_num, by omega, fun j h hj => (Nat.lt_succ_iff_lt_or_eq.1 hj).elim (HQ.out j h) fun e => by subst e; rw [HX.out, HY.out]; exact HD.out, (K0.tr (w1 := wr.drew) HK.out.drew (K0.tr ‹K0 wr.drew _› (by assumption)))⟩
        case measure => simp [intOf]; omega
      · have HD : Hid (chain sltB l = false) := chain_false _ _ k (by first | exact hlt | simpa using hlt) (by rw [HX.out, HY.out]; simpa using hd)
        have hd' : Op.bytesLess x.toList y.toList = false := by simpa [sltB] using hd
        go_wp2_with fail
        go_region_held3 (fun w' => w'.cell? ⟨b, off + k, none⟩ = some (.string x) ∧ w'.cell? ⟨b, off + (k + 1), none⟩ = some (.string y)) (first | go_keep | (go_split_ands; refine ⟨?_, ?_⟩ <;> exact Keeps.cell' (by assumption) (by assumption) (by simp))) (first | (go_at_call 47; refine (key30 _ _).mono ?_; rintro e w' ⟨rfl, hk'⟩))
        go_wp2
        go_ret
        rw [HD.out]
        exact ⟨rfl, (K0.tr (w1 := wr.drew) HK.out.drew (K0.tr ‹K0 wr.drew _› (by assumption)))⟩
    · have HD : Hid (chain sltB l = true) := (chain_iff _ _).2 (fun j h => by exact HQ.out j (by first | exact h | simpa using h) (lt_of_not' hlt (by first | exact h | simpa using h)))
      clear hbr
      go_wp2
      go_ret
      rw [HD.out]
      exact ⟨rfl, HK.out⟩
set_option maxRecDepth 100000 in
set_option maxHeartbeats 1000000 in
theorem rises31 (w0 w : World) (sa : Option Addr) (sc : Nat) (l : List ByteArray) (hs : SlAt 1 rStr w0 sa sc l) (hb : Below w0.heap.size w0 w) :
    Calls Try.prog 80 #[.slice sa l.length sc] w fun e w' => Same w e (.bool (chain sltB l)) w' := by
  have hm := hs.len
  have HS := Lib.hid hs
  have HB := Lib.hid hb
  clear hs hb
  go_enter Try.func80, Try.ntmps80
  go_wp2
  go_loopw [3] (fun i wr => ∃ k : Nat, i = .int .i64 (k + 1 : Int) ∧ k ≤ l.length ∧ (∀ j (h : j + 1 < l.length), j < k → sltB l[j] l[j + 1] = true) ∧ K0 w wr) (fun i _ => l.length - (intOf i).toNat)
  case atStart => exact ⟨0, rfl, by omega, fun j _ h => by omega, Keeps.refl _ _⟩
  case round =>
    obtain ⟨k, rfl, hk, hq, hkw⟩ := hrel
    have HQ := Lib.hid hq
    have hbr := hkw.after HB.out
    have HK := Lib.hid hkw
    clear hq hkw
    by_cases hlt : k + 1 < l.length
    · obtain ⟨b, off, rfl, hr'⟩ := HS.out.row hlt
      obtain ⟨c0, hbl⟩ := str_cells hr' hbr k (by omega)
      obtain ⟨d0, _⟩ := str_cells hr' hbr (k + 1) hlt
      generalize hx : l[k] = x at c0
      generalize hy : l[k + 1] = y at d0
      have HX := Lib.hid hx
      have HY := Lib.hid hy
      clear hx hy
      clear hr' hbr
      have hI : IntKind.i64.wrap (k : Int) = k := IntWalk.i64_in _ (by omega)
      have i0 : (0 : Int) ≤ k := by omega
      have i1 : (k : Int) < l.length := by omega
      have i2 : (0 : Int) ≤ (k : Int) + 1 := by omega
      have i3 : (k : Int) + 1 < l.length := by omega
      have i4 : ((k : Int) + 1).toNat = k + 1 := by omega
      by_cases hd : sltB x y = true
      · have HD := Lib.hid hd
        have hd' : Op.bytesLess x.toList y.toList = true := hd
        go_wp2_with fail
        go_quiet (fail)
        go_wp2
        go_roundw
        case rel => exact ⟨k + 1, by go_num, by omega, fun j h hj => (Nat.lt_succ_iff_lt_or_eq.1 hj).elim (HQ.out j h) fun e => by subst e; rw [HX.out, HY.out]; exact HD.out, HK.out.drewN _⟩
        case measure => simp [intOf]; omega
      · have HD : Hid (chain sltB l = false) := chain_false _ _ k (by first | exact hlt | simpa using hlt) (by rw [HX.out, HY.out]; simpa using hd)
        have hd' : Op.bytesLess x.toList y.toList = false := by simpa [sltB] using hd
        go_wp2_with fail
        go_quiet (fail)
        go_wp2
        go_ret
        rw [HD.out]
        exact ⟨rfl, HK.out.drewN _⟩
    · have HD : Hid (chain sltB l = true) := (chain_iff _ _).2 (fun j h => by exact HQ.out j (by first | exact h | simpa using h) (lt_of_not' hlt (by first | exact h | simpa using h)))
      clear hbr
      go_wp2
      go_ret
      rw [HD.out]
      exact ⟨rfl, HK.out⟩
end Go.Proofs.Ytlmajhkhlmkeiaa
