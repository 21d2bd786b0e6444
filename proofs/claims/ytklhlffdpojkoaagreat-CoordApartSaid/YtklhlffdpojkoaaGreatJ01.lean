/-
  Lists that rise: the generic function of the package assign at its three types, and the reference's.
-/
import Derived.Test.YtklhlffdpojkoaaGreatJ00
import Derived.Deep.RegionHeld3
import Derived.Deep.AppendLies
import Derived.Deep.RegionLaw
namespace Go.Proofs.YtklhlffdpojkoaaGreat
open Go.RowKit Fx

/-- Each is ahead of the next one. -/
def chain {α : Type} (lt : α → α → Bool) : List α → Bool
  | a :: b :: r => lt a b && chain lt (b :: r)
  | _ => true
theorem chain_iff {α : Type} (lt : α → α → Bool) : ∀ l : List α, chain lt l = true ↔ ∀ j (h : j + 1 < l.length), lt l[j] l[j + 1] = true
  | [] => by simp [chain]
  | [a] => by simp [chain]
  | a :: b :: r => by
    simp only [chain, Bool.and_eq_true, chain_iff lt (b :: r)]
    constructor
    · rintro ⟨h0, h1⟩ j hj
      cases j with
      | zero => exact h0
      | succ j => exact h1 j (by simpa using hj)
    · intro h
      exact ⟨h 0 (by simp), fun j hj => h (j + 1) (by simpa using hj)⟩
theorem chain_false {α : Type} (lt : α → α → Bool) (l : List α) (j : Nat) (h : j + 1 < l.length) (hf : lt l[j] l[j + 1] = false) : chain lt l = false := by
  cases hc : chain lt l
  · rfl
  · rw [(chain_iff lt l).1 hc j h] at hf; cases hf

theorem lt_of_not' {j k n : Nat} (hlt : ¬ k + 1 < n) (h : j + 1 < n) : j < k := by omega
def sltB (a b : ByteArray) : Bool := Op.bytesLess a.toList b.toList

set_option maxHeartbeats 400000 in
theorem key26 (m : Int) (v : Value) (w : World) : Calls Tryz.prog 95 #[.agg #[.int .i64 m, v]] w fun e w' => Same w e (.int .i64 m) w' := by
  go_enter Tryz.func95, Tryz.ntmps95
  go_wp2
  go_ret
  exact ⟨rfl, (Keeps.refl _ _).alloc _⟩
set_option maxHeartbeats 400000 in
theorem key28 (s : ByteArray) (v : Value) (w : World) : Calls Tryz.prog 97 #[.agg #[.string s, v]] w fun e w' => Same w e (.string s) w' := by
  go_enter Tryz.func97, Tryz.ntmps97
  go_wp2
  go_ret
  exact ⟨rfl, (Keeps.refl _ _).alloc _⟩
set_option maxHeartbeats 400000 in
theorem key30 (s : ByteArray) (w : World) : Calls Tryz.prog 99 #[.string s] w fun e w' => Same w e (.string s) w' := by
  go_enter Tryz.func99, Tryz.ntmps99
  go_wp2
  go_ret
  exact ⟨rfl, Keeps.refl _ _⟩

set_option maxRecDepth 100000 in
set_option maxHeartbeats 1000000 in
theorem rises25 (w0 w : World) (sa : Option Addr) (sc : Nat) (l : List SubC) (hs : SlAt 2 rSub w0 sa sc l) (hb : Below w0.heap.size w0 w) :
    Calls Tryz.prog 94 #[.slice sa l.length sc, .func (.func 95) #[] #[]] w fun e w' => Same w e (.bool (chain (fun a b : Int => decide (a < b)) (l.map SubC.member))) w' := by
  have hm := hs.len
  have HS := Lib.hid hs
  have HB := Lib.hid hb
  clear hs hb
  go_enter Tryz.func94, Tryz.ntmps94
  go_wp2
  go_loopw [5] (fun i wr => ∃ k : Nat, i = .int .i64 (k + 1 : Int) ∧ k ≤ l.length ∧ (∀ j (h : j + 1 < l.length), j < k → (fun a b : Int => decide (a < b)) l[j].member l[j + 1].member = true) ∧ K0 w wr) (fun i _ => l.length - (intOf i).toNat)
  case atStart => exact ⟨0, rfl, by omega, fun j _ h => by omega, Keeps.refl _ _⟩
  case round =>
    obtain ⟨k, rfl, hk, hq, hkw⟩ := hrel
    have HQ := Lib.hid hq
    have hbr := hkw.after HB.out
    have HK := Lib.hid hkw
    clear hq hkw
    by_cases hlt : k + 1 < l.length
    · obtain ⟨b, off, rfl, hr'⟩ := HS.out.row hlt
      obtain ⟨a1, cap1, c0, c1, hbl, _⟩ := sub_cells hr' hbr k (by omega)
      obtain ⟨a2, cap2, d0, d1, _, _⟩ := sub_cells hr' hbr (k + 1) hlt
      generalize l[k].topics.length = n1 at c1
      generalize l[k + 1].topics.length = n2 at d1
      generalize hx : l[k].member = x at c0
      generalize hy : l[k + 1].member = y at d0
      have HX := Lib.hid hx
      have HY := Lib.hid hy
      clear hx hy
      clear hr' hbr
      have hI : IntKind.i64.wrap (k : Int) = k := IntWalk.i64_in _ (by omega)
      have i0 : (0 : Int) ≤ k := by omega
      have i1 : (k : Int) < l.length := by omega
      have i2 : (0 : Int) ≤ (k : Int) + 1 := by omega
      have i3 : (k : Int) + 1 < l.length := by omega
      have i4 : ((k : Int) + 1).toNat = k + 1 := by omega
      by_cases hd : x < y
      · have HD : Hid (decide (x < y) = true) := by simpa [Hid] using hd
        go_wp2_with fail
        go_region_held3 (fun w' => w'.cell? ⟨b, off + k * 2, none⟩ = some (.int .i64 x) ∧ w'.cell? ⟨b, off + k * 2 + 1, none⟩ = some (.slice a1 n1 cap1) ∧ w'.cell? ⟨b, off + (k + 1) * 2, none⟩ = some (.int .i64 y) ∧ w'.cell? ⟨b, off + (k + 1) * 2 + 1, none⟩ = some (.slice a2 n2 cap2)) (first | go_keep | (go_split_ands; refine ⟨?_, ?_, ?_, ?_⟩ <;> exact Keeps.cell' (by assumption) (by assumption) (by simp))) (first | (go_at_call 95; refine (key26 _ _ _).mono ?_; rintro e w' ⟨rfl, hk'⟩))
        go_wp2
        go_roundw
        case rel => exact ⟨k + 1, by go_num, by omega, fun j h hj => (Nat.lt_succ_iff_lt_or_eq.1 hj).elim (HQ.out j h) fun e => by subst e; rw [HX.out, HY.out]; exact HD.out, (K0.tr (w1 := wr.drew) HK.out.drew (K0.tr ‹K0 wr.drew _› (by assumption)))⟩
        case measure => simp [intOf]; omega
      · have HD : Hid (chain (fun a b : Int => decide (a < b)) (l.map SubC.member) = false) := chain_false _ _ k (by first | exact hlt | simpa using hlt) (by simp only [List.getElem_map]; rw [HX.out, HY.out]; simpa using hd)
        skip
        go_wp2_with fail
        go_region_held3 (fun w' => w'.cell? ⟨b, off + k * 2, none⟩ = some (.int .i64 x) ∧ w'.cell? ⟨b, off + k * 2 + 1, none⟩ = some (.slice a1 n1 cap1) ∧ w'.cell? ⟨b, off + (k + 1) * 2, none⟩ = some (.int .i64 y) ∧ w'.cell? ⟨b, off + (k + 1) * 2 + 1, none⟩ = some (.slice a2 n2 cap2)) (first | go_keep | (go_split_ands; refine ⟨?_, ?_, ?_, ?_⟩ <;> exact Keeps.cell' (by assumption) (by assumption) (by simp))) (first | (go_at_call 95; refine (key26 _ _ _).mono ?_; rintro e w' ⟨rfl, hk'⟩))
        go_wp2
        go_ret
        rw [HD.out]
        exact ⟨rfl, (K0.tr (w1 := wr.drew) HK.out.drew (K0.tr ‹K0 wr.drew _› (by assumption)))⟩
    · have HD : Hid (chain (fun a b : Int => decide (a < b)) (l.map SubC.member) = true) := (chain_iff _ _).2 (fun j h => by simp only [List.getElem_map]; exact HQ.out j (by first | exact h | simpa using h) (lt_of_not' hlt (by first | exact h | simpa using h)))
      clear hbr
      go_wp2
      go_ret
      rw [HD.out]
      exact ⟨rfl, HK.out⟩
set_option maxRecDepth 100000 in
set_option maxHeartbeats 1000000 in
theorem rises27 (w0 w : World) (sa : Option Addr) (sc : Nat) (l : List TopC) (hs : SlAt 2 rTop w0 sa sc l) (hb : Below w0.heap.size w0 w) :
    Calls Tryz.prog 96 #[.slice sa l.length sc, .func (.func 97) #[] #[]] w fun e w' => Same w e (.bool (chain sltB (l.map TopC.name))) w' := by
  have hm := hs.len
  have HS := Lib.hid hs
  have HB := Lib.hid hb
  clear hs hb
  go_enter Tryz.func96, Tryz.ntmps96
  go_wp2
  go_loopw [5] (fun i wr => ∃ k : Nat, i = .int .i64 (k + 1 : Int) ∧ k ≤ l.length ∧ (∀ j (h : j + 1 < l.length), j < k → sltB l[j].name l[j + 1].name = true) ∧ K0 w wr) (fun i _ => l.length - (intOf i).toNat)
  case atStart => exact ⟨0, rfl, by omega, fun j _ h => by omega, Keeps.refl _ _⟩
  case round =>
    obtain ⟨k, rfl, hk, hq, hkw⟩ := hrel
    have HQ := Lib.hid hq
    have hbr := hkw.after HB.out
    have HK := Lib.hid hkw
    clear hq hkw
    by_cases hlt : k + 1 < l.length
    · obtain ⟨b, off, rfl, hr'⟩ := HS.out.row hlt
      obtain ⟨c0, c1, hbl⟩ := top_cells hr' hbr k (by omega)
      obtain ⟨d0, d1, _⟩ := top_cells hr' hbr (k + 1) hlt
      generalize l[k].parts = n1 at c1
      generalize l[k + 1].parts = n2 at d1
      generalize hx : l[k].name = x at c0
      generalize hy : l[k + 1].name = y at d0
      have HX := Lib.hid hx
      have HY := Lib.hid hy
      clear hx hy
      clear hr' hbr
      have hI : IntKind.i64.wrap (k : Int) = k := IntWalk.i64_in _ (by omega)
      have i0 : (0 : Int) ≤ k := by omega
      have i1 : (k : Int) < l.length := by omega
      have i2 : (0 : Int) ≤ (k : Int) + 1 := by omega
      have i3 : (k : Int) + 1 < l.length := by omega
      have i4 : ((k : Int) + 1).toNat = k + 1 := by omega
      by_cases hd : sltB x y = true
      · have HD := Lib.hid hd
        have hd' : Op.bytesLess x.toList y.toList = true := hd
        go_wp2_with fail
        go_region_held3 (fun w' => w'.cell? ⟨b, off + k * 2, none⟩ = some (.string x) ∧ w'.cell? ⟨b, off + k * 2 + 1, none⟩ = some (.int .i64 n1) ∧ w'.cell? ⟨b, off + (k + 1) * 2, none⟩ = some (.string y) ∧ w'.cell? ⟨b, off + (k + 1) * 2 + 1, none⟩ = some (.int .i64 n2)) (first | go_keep | (go_split_ands; refine ⟨?_, ?_, ?_, ?_⟩ <;> exact Keeps.cell' (by assumption) (by assumption) (by simp))) (first | (go_at_call 97; refine (key28 _ _ _).mono ?_; rintro e w' ⟨rfl, hk'⟩))
        go_wp2
        go_roundw
        case rel => exact ⟨k + 1, by go_num, by omega, fun j h hj => (Nat.lt_succ_iff_lt_or_eq.1 hj).elim (HQ.out j h) fun e => by subst e; rw [HX.out, HY.out]; exact HD.out, (K0.tr (w1 := wr.drew) HK.out.drew (K0.tr ‹K0 wr.drew _› (by assumption)))⟩
        case measure => simp [intOf]; omega
      · have HD : Hid (chain sltB (l.map TopC.name) = false) := chain_false _ _ k (by first | exact hlt | simpa using hlt) (by simp only [List.getElem_map]; rw [HX.out, HY.out]; simpa using hd)
        have hd' : Op.bytesLess x.toList y.toList = false := by simpa [sltB] using hd
        go_wp2_with fail
        go_region_held3 (fun w' => w'.cell? ⟨b, off + k * 2, none⟩ = some (.string x) ∧ w'.cell? ⟨b, off + k * 2 + 1, none⟩ = some (.int .i64 n1) ∧ w'.cell? ⟨b, off + (k + 1) * 2, none⟩ = some (.string y) ∧ w'.cell? ⟨b, off + (k + 1) * 2 + 1, none⟩ = some (.int .i64 n2)) (first | go_keep | (go_split_ands; refine ⟨?_, ?_, ?_, ?_⟩ <;> exact Keeps.cell' (by assumption) (by assumption) (by simp))) (first | (go_at_call 97; refine (key28 _ _ _).mono ?_; rintro e w' ⟨rfl, hk'⟩))
        go_wp2
        go_ret
        rw [HD.out]
        exact ⟨rfl, (K0.tr (w1 := wr.drew) HK.out.drew (K0.tr ‹K0 wr.drew _› (by assumption)))⟩
    · have HD : Hid (chain sltB (l.map TopC.name) = true) := (chain_iff _ _).2 (fun j h => by simp only [List.getElem_map]; exact HQ.out j (by first | exact h | simpa using h) (lt_of_not' hlt (by first | exact h | simpa using h)))
      clear hbr
      go_wp2
      go_ret
      rw [HD.out]
      exact ⟨rfl, HK.out⟩
set_option maxRecDepth 100000 in
set_option maxHeartbeats 1000000 in
theorem rises29 (w0 w : World) (sa : Option Addr) (sc : Nat) (l : List ByteArray) (hs : SlAt 1 rStr w0 sa sc l) (hb : Below w0.heap.size w0 w) :
    Calls Tryz.prog 98 #[.slice sa l.length sc, .func (.func 99) #[] #[]] w fun e w' => Same w e (.bool (chain sltB l)) w' := by
  have hm := hs.len
  have HS := Lib.hid hs
  have HB := Lib.hid hb
  clear hs hb
  go_enter Tryz.func98, Tryz.ntmps98
  go_wp2
  go_loopw [5] (fun i wr => ∃ k : Nat, i = .int .i64 (k + 1 : Int) ∧ k ≤ l.length ∧ (∀ j (h : j + 1 < l.length), j < k → sltB l[j] l[j + 1] = true) ∧ K0 w wr) (fun i _ => l.length - (intOf i).toNat)
  case atStart => exact ⟨0, rfl, by omega, fun j _ h => by omega, Keeps.refl _ _⟩
  case round =>
    obtain ⟨k, rfl, hk, hq, hkw⟩ := hrel
    have HQ := Lib.hid hq
    have hbr := hkw.after HB.out
    have HK := Lib.hid hkw
    clear hq hkw
    by_cases hlt : k + 1 < l.length
    · obtain ⟨b, off, rfl, hr'⟩ := HS.out.row hlt
      obtain ⟨c0, hbl⟩ := str_cells hr' hbr k (by omega)
      obtain ⟨d0, _⟩ := str_cells hr' hbr (k + 1) hlt
      generalize hx : l[k] = x at c0
      generalize hy : l[k + 1] = y at d0
      have HX := Lib.hid hx
      have HY := Lib.hid hy
      clear hx hy
      clear hr' hbr
      have hI : IntKind.i64.wrap (k : Int) = k := IntWalk.i64_in _ (by omega)
      have i0 : (0 : Int) ≤ k := by omega
      have i1 : (k : Int) < l.length := by omega
      have i2 : (0 : Int) ≤ (k : Int) + 1 := by omega
      have i3 : (k : Int) + 1 < l.length := by omega
      have i4 : ((k : Int) + 1).toNat = k + 1 := by omega
      by_cases hd : sltB x y = true
      · have HD := Lib.hid hd
        have hd' : Op.bytesLess x.toList y.toList = true := hd
        go_wp2_with fail
        go_region_held3 (fun w' => w'.cell? ⟨b, off + k, none⟩ = some (.string x) ∧ w'.cell? ⟨b, off + (k + 1), none⟩ = some (.string y)) (first | go_keep | (go_split_ands; refine ⟨?_, ?_⟩ <;> exact Keeps.cell' (by assumption) (by assumption) (by simp))) (first | (go_at_call 99; refine (key30 _ _).mono ?_; rintro e w' ⟨rfl, hk'⟩))
        go_wp2
        go_roundw
        case rel => exact ⟨k + 1, by go_num, by omega, fun j h hj => (Nat.lt_succ_iff_lt_or_eq.1 hj).elim (HQ.out j h) fun e => by subst e; rw [HX.out, HY.out]; exact HD.out, (K0.tr (w1 := wr.drew) HK.out.drew (K0.tr ‹K0 wr.drew _› (by assumption)))⟩
        case measure => simp [intOf]; omega
      · have HD : Hid (chain sltB l = false) := chain_false _ _ k (by first | exact hlt | simpa using hlt) (by rw [HX.out, HY.out]; simpa using hd)
        have hd' : Op.bytesLess x.toList y.toList = false := by simpa [sltB] using hd
        go_wp2_with fail
        go_region_held3 (fun w' => w'.cell? ⟨b, off + k, none⟩ = some (.string x) ∧ w'.cell? ⟨b, off + (k + 1), none⟩ = some (.string y)) (first | go_keep | (go_split_ands; refine ⟨?_, ?_⟩ <;> exact Keeps.cell' (by assumption) (by assumption) (by simp))) (first | (go_at_call 99; refine (key30 _ _).mono ?_; rintro e w' ⟨rfl, hk'⟩))
        go_wp2
        go_ret
        rw [HD.out]
        exact ⟨rfl, (K0.tr (w1 := wr.drew) HK.out.drew (K0.tr ‹K0 wr.drew _› (by assumption)))⟩
    · have HD : Hid (chain sltB l = true) := (chain_iff _ _).2 (fun j h => by exact HQ.out j (by first | exact h | simpa using h) (lt_of_not' hlt (by first | exact h | simpa using h)))
      clear hbr
      go_wp2
      go_ret
      rw [HD.out]
      exact ⟨rfl, HK.out⟩
set_option maxRecDepth 100000 in
set_option maxHeartbeats 1000000 in
theorem rises31 (w0 w : World) (sa : Option Addr) (sc : Nat) (l : List ByteArray) (hs : SlAt 1 rStr w0 sa sc l) (hb : Below w0.heap.size w0 w) :
    Calls Tryz.prog 128 #[.slice sa l.length sc] w fun e w' => Same w e (.bool (chain sltB l)) w' := by
  have hm := hs.len
  have HS := Lib.hid hs
  have HB := Lib.hid hb
  clear hs hb
  go_enter Tryz.func128, Tryz.ntmps128
  go_wp2
  go_loopw [3] (fun i wr => ∃ k : Nat, i = .int .i64 (k + 1 : Int) ∧ k ≤ l.length ∧ (∀ j (h : j + 1 < l.length), j < k → sltB l[j] l[j + 1] = true) ∧ K0 w wr) (fun i _ => l.length - (intOf i).toNat)
  case atStart => exact ⟨0, rfl, by omega, fun j _ h => by omega, Keeps.refl _ _⟩
  case round =>
    obtain ⟨k, rfl, hk, hq, hkw⟩ := hrel
    have HQ := Lib.hid hq
    have hbr := hkw.after HB.out
    have HK := Lib.hid hkw
    clear hq hkw
    by_cases hlt : k + 1 < l.length
    · obtain ⟨b, off, rfl, hr'⟩ := HS.out.row hlt
      obtain ⟨c0, hbl⟩ := str_cells hr' hbr k (by omega)
      obtain ⟨d0, _⟩ := str_cells hr' hbr (k + 1) hlt
      generalize hx : l[k] = x at c0
      generalize hy : l[k + 1] = y at d0
      have HX := Lib.hid hx
      have HY := Lib.hid hy
      clear hx hy
      clear hr' hbr
      have hI : IntKind.i64.wrap (k : Int) = k := IntWalk.i64_in _ (by omega)
      have i0 : (0 : Int) ≤ k := by omega
      have i1 : (k : Int) < l.length := by omega
      have i2 : (0 : Int) ≤ (k : Int) + 1 := by omega
      have i3 : (k : Int) + 1 < l.length := by omega
      have i4 : ((k : Int) + 1).toNat = k + 1 := by omega
      by_cases hd : sltB x y = true
      · have HD := Lib.hid hd
        have hd' : Op.bytesLess x.toList y.toList = true := hd
        go_wp2_with fail
        go_quiet (fail)
        go_wp2
        go_roundw
        case rel => exact ⟨k + 1, by go_num, by omega, fun j h hj => (Nat.lt_succ_iff_lt_or_eq.1 hj).elim (HQ.out j h) fun e => by subst e; rw [HX.out, HY.out]; exact HD.out, HK.out.drewN _⟩
        case measure => simp [intOf]; omega
      · have HD : Hid (chain sltB l = false) := chain_false _ _ k (by first | exact hlt | simpa using hlt) (by rw [HX.out, HY.out]; simpa using hd)
        have hd' : Op.bytesLess x.toList y.toList = false := by simpa [sltB] using hd
        go_wp2_with fail
        go_quiet (fail)
        go_wp2
        go_ret
        rw [HD.out]
        exact ⟨rfl, HK.out.drewN _⟩
    · have HD : Hid (chain sltB l = true) := (chain_iff _ _).2 (fun j h => by exact HQ.out j (by first | exact h | simpa using h) (lt_of_not' hlt (by first | exact h | simpa using h)))
      clear hbr
      go_wp2
      go_ret
      rw [HD.out]
      exact ⟨rfl, HK.out⟩
end Go.Proofs.YtklhlffdpojkoaaGreat

/-
  Whether members and topics may be: the package assign's Check.
-/
namespace Go.Proofs.YtklhlffdpojkoaaGreat
open Go.RowKit Fx

def subOk (s : SubC) : Bool := decide (0 ≤ s.member) && decide (s.member ≤ 1073741824) && decide (s.topics.length ≤ 20) && chain sltB s.topics
def topOk (t : TopC) : Bool := decide (1 ≤ t.parts) && decide (t.parts ≤ 16)
def checkB (subs : List SubC) (tops : List TopC) : Bool :=
  decide (subs.length ≤ 20) && decide (tops.length ≤ 20) && chain (fun a b : Int => decide (a < b)) (subs.map SubC.member) && chain sltB (tops.map TopC.name) && subs.all subOk && tops.all topOk
def chk (subs : List SubC) (tops : List TopC) : Int := if checkB subs tops then 0 else 1

theorem subOk_cases (s : SubC) (h : ¬ subOk s = true) :
    s.member < 0 ∨ (0 ≤ s.member ∧ 1073741824 < s.member) ∨ (0 ≤ s.member ∧ s.member ≤ 1073741824 ∧ 20 < s.topics.length) ∨ (0 ≤ s.member ∧ s.member ≤ 1073741824 ∧ s.topics.length ≤ 20 ∧ chain sltB s.topics = false) := by
  by_cases h1 : 0 ≤ s.member
  · by_cases h2 : s.member ≤ 1073741824
    · by_cases h3 : s.topics.length ≤ 20
      · exact .inr (.inr (.inr ⟨h1, h2, h3, by cases hc : chain sltB s.topics; rfl; exact absurd (by simp [subOk, h1, h2, h3, hc]) h⟩))
      · exact .inr (.inr (.inl ⟨h1, h2, by omega⟩))
    · exact .inr (.inl ⟨h1, by omega⟩)
  · exact .inl (by omega)
theorem subOk_parts (s : SubC) (h : subOk s = true) : 0 ≤ s.member ∧ s.member ≤ 1073741824 ∧ s.topics.length ≤ 20 ∧ chain sltB s.topics = true := by
  simp only [subOk, Bool.and_eq_true, decide_eq_true_eq] at h
  exact ⟨h.1.1.1, h.1.1.2, h.1.2, h.2⟩
theorem topOk_cases (t : TopC) (h : ¬ topOk t = true) : t.parts < 1 ∨ (1 ≤ t.parts ∧ 16 < t.parts) := by
  simp only [topOk, Bool.and_eq_true, decide_eq_true_eq, not_and] at h
  by_cases h1 : 1 ≤ t.parts
  · exact .inr ⟨h1, by have := h h1; omega⟩
  · exact .inl (by omega)
theorem topOk_parts (t : TopC) (h : topOk t = true) : 1 ≤ t.parts ∧ t.parts ≤ 16 := by
  simp only [topOk, Bool.and_eq_true, decide_eq_true_eq] at h
  exact h
theorem chk_sub {subs : List SubC} {tops : List TopC} {k : Nat} (hk : k < subs.length) (h : ¬ subOk subs[k] = true) : chk subs tops = 1 := by
  have : subs.all subOk = false := List.all_eq_false.2 ⟨subs[k], List.getElem_mem hk, h⟩
  simp [chk, checkB, this]
theorem chk_top {subs : List SubC} {tops : List TopC} {k : Nat} (hk : k < tops.length) (h : ¬ topOk tops[k] = true) : chk subs tops = 1 := by
  have : tops.all topOk = false := List.all_eq_false.2 ⟨tops[k], List.getElem_mem hk, h⟩
  simp [chk, checkB, this]
theorem all_of {α : Type} {p : α → Bool} {l : List α} (h : ∀ j (h : j < l.length), p l[j] = true) : l.all p = true := by
  rw [List.all_eq_true]
  intro x hx
  obtain ⟨j, hj, rfl⟩ := List.mem_iff_getElem.1 hx
  exact h j hj

set_option maxRecDepth 100000 in
set_option maxHeartbeats 2000000 in
theorem check14 (w0 w : World) (sa ta : Option Addr) (sc tc : Nat) (subs : List SubC) (tops : List TopC) (hs : SlAt 2 rSub w0 sa sc subs) (ht : SlAt 2 rTop w0 ta tc tops) (hb : Below w0.heap.size w0 w) :
    Calls Tryz.prog 63 #[.slice sa subs.length sc, .slice ta tops.length tc] w fun e w' => Same w e (.int .i64 (chk subs tops)) w' := by
  by_cases hlen : subs.length ≤ 20 ∧ tops.length ≤ 20
  · obtain ⟨l1, l2⟩ := hlen
    have R25 := Lib.hid (rises25 w0 w sa sc subs hs hb)
    have R27 := Lib.hid (fun (w1 : World) (k : K0 w w1) => rises27 w0 w1 ta tc tops ht (k.after hb))
    have HS := Lib.hid hs
    have HT := Lib.hid ht
    have HB := Lib.hid hb
    clear hs ht hb
    cases h1 : chain (fun a b : Int => decide (a < b)) (subs.map SubC.member) with
    | false =>
      have HF : Hid (chk subs tops = 1) := by simp [Hid, chk, checkB, h1]
      rw [h1] at R25
      clear h1
      go_enter Tryz.func63, Tryz.ntmps63
      go_wp2_with (go_at_call 94; refine R25.out.mono ?_; rintro e w1 ⟨rfl, k1⟩)
      go_ret
      rw [HF.out]
      exact ⟨rfl, k1⟩
    | true =>
      rw [h1] at R25
      cases h2 : chain sltB (tops.map TopC.name) with
      | false =>
        have HF : Hid (chk subs tops = 1) := by simp [Hid, chk, checkB, h2]
        rw [h2] at R27
        clear h1 h2
        go_enter Tryz.func63, Tryz.ntmps63
        go_wp2_with fail
        refine R25.out.mono ?_
        rintro e w1 ⟨rfl, k1⟩
        go_wp2_with fail
        refine (R27.out w1 k1).mono ?_
        rintro e w2 ⟨rfl, k2⟩
        go_wp2
        go_ret
        rw [HF.out]
        exact ⟨rfl, K0.tr k1 k2⟩
      | true =>
        rw [h2] at R27
        have HF : Hid (chk subs tops = if subs.all subOk && tops.all topOk then 0 else 1) := by simp [Hid, chk, checkB, h1, h2, l1, l2]
        clear h1 h2
        go_enter Tryz.func63, Tryz.ntmps63
        go_wp2_with fail
        refine R25.out.mono ?_
        rintro e w1 ⟨rfl, k1⟩
        go_wp2_with fail
        refine (R27.out w1 k1).mono ?_
        rintro e w2 ⟨rfl, k2⟩
        have k12 := K0.tr k1 k2
        clear k1 k2
        go_wp2_with fail
        go_loopw [27] (fun i wr => ∃ k : Nat, k ≤ subs.length ∧ i = .int .i64 k ∧ (∀ j (h : j < subs.length), j < k → subOk subs[j] = true) ∧ K0 w wr) (fun i _ => subs.length - (intOf i).toNat)
        case atStart => exact ⟨0, by omega, rfl, fun j _ h => by omega, k12⟩
        case round =>
          clear k12
          obtain ⟨k, hk, rfl, hq, hkw⟩ := hrel
          have HQ := Lib.hid hq
          have hbr := hkw.after HB.out
          have HK := Lib.hid hkw
          clear hq hkw
          by_cases hlt : k < subs.length
          · obtain ⟨b, off, rfl, hr'⟩ := HS.out.row hlt
            obtain ⟨a1, cap1, c0, c1, hbl, hsl⟩ := sub_cells hr' hbr k hlt
            have RR := Lib.hid (fun o => rises29 w0 (wr.alloc o) a1 cap1 subs[k].topics hsl (hbr.alloc hbr.size o))
            clear hr' hsl hbr
            by_cases hok : subOk subs[k] = true
            · have HO := Lib.hid hok
              obtain ⟨o1, o2, o3, o4⟩ := subOk_parts _ hok
              rw [o4] at RR
              clear o4 hok
              generalize subs[k].member = m at c0 o1 o2
              generalize subs[k].topics.length = n at c1 o3 RR
              go_wp2_with (go_at_call 98; refine (RR.out _).mono ?_; rintro e w3 ⟨rfl, k3⟩)
              go_roundw
              case rel => exact ⟨k + 1, by omega, by go_num, fun j h hj => (Nat.lt_succ_iff_lt_or_eq.1 hj).elim (HQ.out j h) fun e => by subst e; exact HO.out, (K0.tr (w1 := wr.alloc _) (HK.out.alloc _) k3)⟩
              case measure => simp [intOf]; omega
            · have HF1 := Lib.hid (chk_sub (tops := tops) hlt hok)
              rcases subOk_cases _ hok with h | ⟨h, h'⟩ | ⟨h, h', h''⟩ | ⟨h, h', h'', h3⟩
              rotate_right
              · rw [h3] at RR
                clear hok h3
                generalize subs[k].member = m at c0 h h'
                generalize subs[k].topics.length = n at c1 h'' RR
                go_wp2_with (go_at_call 98; refine (RR.out _).mono ?_; rintro e w3 ⟨rfl, k3⟩)
                go_ret
                rw [HF1.out]
                exact ⟨rfl, (K0.tr (w1 := wr.alloc _) (HK.out.alloc _) k3)⟩
              all_goals
                clear hok RR
                generalize subs[k].member = m at *
                generalize subs[k].topics.length = n at *
                go_wp2
                go_ret
                rw [HF1.out]
                exact ⟨rfl, HK.out.alloc _⟩
          · have HA : Hid (subs.all subOk = true) := all_of (fun j h => HQ.out j h (by omega))
            obtain ⟨wo, rfl⟩ : ∃ wo : World, wo = wr := ⟨_, rfl⟩
            have hbr2 := hbr
            clear hbr
            go_wp2_with fail
            go_loopw [54] (fun i wq => ∃ k : Nat, k ≤ tops.length ∧ i = .int .i64 k ∧ (∀ j (h : j < tops.length), j < k → topOk tops[j] = true) ∧ K0 wo wq) (fun i _ => tops.length - (intOf i).toNat)
            case atStart => exact ⟨0, by omega, rfl, fun j _ h => by omega, Keeps.refl _ _⟩
            case round =>
              obtain ⟨k, hk, rfl, hq, hkw⟩ := hrel
              have HQ := Lib.hid hq
              have hbr := hkw.after hbr2
              have HK := Lib.hid (K0.tr HK.out hkw)
              have HKo := Lib.hid hkw
              clear hq hkw hbr2
              by_cases hlt2 : k < tops.length
              · obtain ⟨b, off, rfl, hr'⟩ := HT.out.row hlt2
                obtain ⟨c0, c1, hbl⟩ := top_cells hr' hbr k hlt2
                clear hr' hbr
                by_cases hok : topOk tops[k] = true
                · have HO := Lib.hid hok
                  obtain ⟨o1, o2⟩ := topOk_parts _ hok
                  clear hok
                  generalize tops[k].parts = p at c1 o1 o2
                  generalize tops[k].name = s at c0
                  go_wp2
                  go_roundw
                  case rel => exact ⟨k + 1, by omega, by go_num, fun j h hj => (Nat.lt_succ_iff_lt_or_eq.1 hj).elim (HQ.out j h) fun e => by subst e; exact HO.out, HKo.out.alloc _⟩
                  case measure => simp [intOf]; omega
                · have HF1 := Lib.hid (chk_top (subs := subs) hlt2 hok)
                  rcases topOk_cases _ hok with h | ⟨h, h'⟩
                  all_goals
                    clear hok
                    generalize tops[k].parts = p at *
                    generalize tops[k].name = s at *
                    go_wp2
                    go_ret
                    rw [HF1.out]
                    exact ⟨rfl, HK.out.alloc _⟩
              · have HA2 : Hid (chk subs tops = 0) := by
                  have : tops.all topOk = true := all_of (fun j h => HQ.out j h (by omega))
                  show chk subs tops = 0
                  rw [HF.out, HA.out, this]; rfl
                clear hbr
                go_wp2
                go_ret
                rw [HA2.out]
                exact ⟨rfl, HK.out⟩
  · have hf : Hid (chk subs tops = 1) := by
      simp only [chk, checkB, Hid]
      by_cases h : subs.length ≤ 20
      · have : ¬ tops.length ≤ 20 := fun h' => hlen ⟨h, h'⟩
        simp [this]
      · simp [h]
    clear hs ht
    by_cases h2 : subs.length ≤ 20
    · have h3 : 20 < tops.length := by omega
      clear hlen
      go_enter Tryz.func63, Tryz.ntmps63
      go_wp2
      go_ret
      rw [hf.out]
      exact ⟨rfl, Keeps.refl _ _⟩
    · clear hlen
      go_enter Tryz.func63, Tryz.ntmps63
      go_wp2
      go_ret
      rw [hf.out]
      exact ⟨rfl, Keeps.refl _ _⟩
end Go.Proofs.YtklhlffdpojkoaaGreat

/-
  Shares in memory that a call has made and goes on changing: a row of members, each with a row of partitions of its own.
-/
namespace Go.Proofs.YtklhlffdpojkoaaGreat
open Go.RowKit Fx

structure PartC where
  topic : ByteArray
  index : Int
structure ShareC where
  member : Int
  parts : List PartC
def ptCells (l : List PartC) : List Value := l.flatMap fun p => [.string p.topic, .int .i64 p.index]
def shCells : List ShareC → List Value → List Value
  | s :: l, v :: vs => .int .i64 s.member :: v :: shCells l vs
  | _, _ => []
theorem ptCells_append (l : List PartC) (p : PartC) : ptCells (l ++ [p]) = ptCells l ++ [.string p.topic, .int .i64 p.index] := by simp [ptCells]
theorem shCells_append : ∀ (l : List ShareC) (vs : List Value) (s : ShareC) (v : Value), vs.length = l.length → shCells (l ++ [s]) (vs ++ [v]) = shCells l vs ++ [.int .i64 s.member, v]
  | [], [], _, _, _ => rfl
  | _ :: l, _ :: vs, s, v, h => by simp [shCells, shCells_append l vs s v (by simpa using h)]
theorem shCells_member : ∀ (l : List ShareC) (vs : List Value) (m : Nat) (h : m < l.length), vs.length = l.length → (shCells l vs)[m * 2]? = some (.int .i64 l[m].member)
  | s :: l, v :: vs, 0, _, _ => rfl
  | s :: l, v :: vs, m + 1, h, e => by
    have := shCells_member l vs m (by simpa using h) (by simpa using e)
    simpa [shCells, Nat.add_mul] using this
theorem shCells_value : ∀ (l : List ShareC) (vs : List Value) (m : Nat) (h : m < vs.length), vs.length = l.length → (shCells l vs)[m * 2 + 1]? = some vs[m]
  | [], [], m, h, _ => absurd h (by simp)
  | s :: l, v :: vs, 0, _, _ => rfl
  | s :: l, v :: vs, m + 1, h, e => by
    have := shCells_value l vs m (by simpa using h) (by simpa using e)
    simpa [shCells, Nat.add_mul] using this
theorem shCells_set : ∀ (l : List ShareC) (vs : List Value) (m : Nat) (u : Value), vs.length = l.length → (shCells l vs).set (m * 2 + 1) u = shCells l (vs.set m u)
  | [], [], m, u, _ => rfl
  | s :: l, v :: vs, 0, u, _ => rfl
  | s :: l, v :: vs, m + 1, u, e => by
    have := shCells_set l vs m u (by simpa using e)
    simp [shCells, Nat.add_mul] at this ⊢
    exact this
theorem shCells_modify : ∀ (l : List ShareC) (vs : List Value) (m : Nat) (f : List PartC → List PartC), shCells (l.modify m fun s => ⟨s.member, f s.parts⟩) vs = shCells l vs
  | [], _, m, f => by cases m <;> rfl
  | s :: l, [], m, f => by cases m <;> rfl
  | s :: l, v :: vs, 0, f => rfl
  | s :: l, v :: vs, m + 1, f => by simp [shCells, shCells_modify l vs m f]

/-- Shares that are owned: v leads to them; F tells the blocks that they take. -/
structure SharesAt (w : World) (F : Nat → Prop) (v : Value) (l : List ShareC) (vs : List Value) : Prop where
  len : vs.length = l.length
  row : w.ownsRow 0 147 2 v l.length (shCells l vs)
  parts : ∀ i (h : i < l.length), w.ownsRow 0 34 2 (vs[i]'(by rw [len]; exact h)) l[i].parts.length (ptCells l[i].parts)
  apart : ∀ i j (hi : i < vs.length) (hj : j < vs.length), i ≠ j → vs[i].ownBlock = none ∨ vs[i].ownBlock ≠ vs[j].ownBlock
  own : ∀ i (hi : i < vs.length), vs[i].ownBlock = none ∨ vs[i].ownBlock ≠ v.ownBlock
  foot : ∀ k, v.ownBlock = some k → F k
  footP : ∀ i (h : i < vs.length) k, vs[i].ownBlock = some k → F k
  lt : ∀ k, F k → k < w.heap.size

theorem keeps_grown {w w' : World} {S : Nat → Prop} (h : Keeps S w w') {row : Option Nat} (hr : ∀ k, k < w.heap.size → S k → some k = row) : w.grownBy w' row :=
  ⟨h.os, h.tape, h.output, h.size, fun k hk hne => h.block k hk fun e => hne (hr k hk e)⟩
theorem own_keep {w w' : World} {S : Nat → Prop} (hk : Keeps S w w') {base : Nat} {e : TypeId} {size : Nat} {v : Value} {n : Nat} {xs : List Value} (h : w.ownsRow base e size v n xs) (hS : ∀ k, v.ownBlock = some k → ¬ S k) : w'.ownsRow base e size v n xs := by
  refine ⟨h.1, ?_⟩
  rcases h.2 with hn | ⟨g, cap, cur, rfl, hb, hgg, rest⟩
  · exact .inl hn
  · exact .inr ⟨g, cap, cur, rfl, hb, (hk.block g (Array.getElem?_eq_some_iff.1 hgg).1 (hS g rfl)).trans hgg, rest⟩
theorem own_lt {w : World} {base : Nat} {e : TypeId} {size : Nat} {v : Value} {n : Nat} {xs : List Value} (h : w.ownsRow base e size v n xs) {k : Nat} (hk : v.ownBlock = some k) : k < w.heap.size := (h.lt k hk).2
theorem SharesAt.keep {w w' : World} {F : Nat → Prop} {v : Value} {l : List ShareC} {vs : List Value} (h : SharesAt w F v l vs) {S : Nat → Prop} (hk : Keeps S w w') (hS : ∀ k, F k → ¬ S k) : SharesAt w' F v l vs :=
  ⟨h.len, own_keep hk h.row (fun k e => hS k (h.foot k e)), fun i hi => own_keep hk (h.parts i hi) (fun k e => hS k (h.footP i (by rw [h.len]; exact hi) k e)), h.apart, h.own, h.foot, h.footP, fun k e => Nat.lt_of_lt_of_le (h.lt k e) hk.size⟩
theorem SharesAt.start (w : World) : SharesAt w (fun _ => False) (.slice none 0 0) [] [] :=
  ⟨rfl, World.ownsRow_nil _ _ _ _, fun i h => absurd h (Nat.not_lt_zero _), fun i _ h => absurd h (Nat.not_lt_zero _), fun i h => absurd h (Nat.not_lt_zero _), fun k h => by simp [Value.ownBlock] at h, fun i h => absurd h (Nat.not_lt_zero _), fun _ h => h.elim⟩

theorem info39 : (Tryz.prog.info? 147).map (fun i => (i.zero, i.size, i.bytes)) = some (some (.agg #[.int .i64 0, .slice none 0 0]), 2, 32) := by kernel_rfl
theorem info41 : (Tryz.prog.info? 34).map (fun i => (i.zero, i.size, i.bytes)) = some (some (.agg #[.string ⟨#[]⟩, .int .i64 0]), 2, 24) := by kernel_rfl
theorem info3 : (Tryz.prog.info? 3).map (fun i => (i.zero, i.size, i.bytes)) = some (some (.int .i64 0), 1, 8) := by kernel_rfl

/-- Behind an append of one share without partitions. -/
theorem SharesAt.more {w w1 : World} {F : Nat → Prop} {v : Value} {l : List ShareC} {vs : List Value} (h : SharesAt w F v l vs) {g cap H n : Nat} {m : Int} (hn : n = l.length)
    (hown : w1.ownsRow 0 147 2 (.slice (some ⟨g, 0, none⟩) (n + 1) cap) (n + 1) (shCells l vs ++ [.int .i64 m, .slice none 0 0])) (hg : w.grownBy w1 v.ownBlock) (hat : v.ownBlock = some g ∨ g = H) (hH : w.heap.size ≤ H) :
    SharesAt w1 (fun k => F k ∨ k = g) (.slice (some ⟨g, 0, none⟩) (n + 1) cap) (l ++ [⟨m, []⟩]) (vs ++ [.slice none 0 0]) ∧ Keeps F w w1 := by
  subst hn
  have hk : Keeps (fun k => v.ownBlock = some k) w w1 := ⟨hg.os, hg.tape, hg.output, hg.size, fun k hk hne => hg.block k hk (fun e => hne e.symm)⟩
  have hnew : ∀ i (hi : i < vs.length), vs[i].ownBlock ≠ some g := by
    intro i hi e
    rcases hat with hv | hv
    · rcases h.own i hi with h1 | h1
      · rw [h1] at e; cases e
      · exact h1 (e.trans hv.symm)
    · have := own_lt (h.parts i (by rw [← h.len]; exact hi)) e
      omega
  refine ⟨⟨by simp [h.len], ?_, ?_, ?_, ?_, ?_, ?_, ?_⟩, hk.mono fun k _ e => h.foot k e⟩
  · rw [shCells_append _ _ _ _ h.len]; simpa using hown
  · intro i hi
    by_cases hil : i < l.length
    · have hiv : i < vs.length := by rw [h.len]; exact hil
      simp only [List.getElem_append_left hil, List.getElem_append_left hiv]
      exact own_keep hk (h.parts i hil) (fun k e => (h.own i hiv).elim (fun h1 => by rw [h1] at e; cases e) (fun h1 h2 => h1 (e.trans h2.symm)))
    · have : i = l.length := by simp at hi; omega
      subst this
      simp only [List.getElem_append_right (Nat.le_refl _), List.getElem_append_right (show vs.length ≤ l.length by rw [h.len]; omega), h.len]
      simpa [ptCells] using World.ownsRow_nil w1 0 34 2
  · intro i j hi hj hne
    by_cases hil : i < vs.length
    · by_cases hjl : j < vs.length
      · simp only [List.getElem_append_left hil, List.getElem_append_left hjl]; exact h.apart i j hil hjl hne
      · simp only [List.getElem_append_left hil, List.getElem_append_right (Nat.le_of_not_lt hjl)]
        cases hq : vs[i].ownBlock with
        | none => exact .inl rfl
        | some q => right; simp [Value.ownBlock]
    · left
      simp only [List.getElem_append_right (Nat.le_of_not_lt hil)]
      simp [Value.ownBlock]
  · intro i hi
    by_cases hil : i < vs.length
    · simp only [List.getElem_append_left hil]
      exact .inr (hnew i hil)
    · left
      simp only [List.getElem_append_right (Nat.le_of_not_lt hil)]
      simp [Value.ownBlock]
  · intro k e
    exact .inr (by simpa [Value.ownBlock] using e.symm)
  · intro i hi k e
    by_cases hil : i < vs.length
    · rw [List.getElem_append_left hil] at e
      exact .inl (h.footP i hil k e)
    · rw [List.getElem_append_right (Nat.le_of_not_lt hil)] at e
      simp [Value.ownBlock] at e
  · rintro k (e | rfl)
    · exact Nat.lt_of_lt_of_le (h.lt k e) hg.size
    · exact own_lt hown rfl

/-- Behind an append to one member's partitions, and the store of what came of it. -/
theorem SharesAt.give {w w1 : World} {F : Nat → Prop} {g cap : Nat} {l : List ShareC} {vs : List Value} (h : SharesAt w F (.slice (some ⟨g, 0, none⟩) l.length cap) l vs) {m : Nat} (hm : m < l.length) (hv : m < vs.length) {p : PartC} {g1 cap1 H n : Nat} (hn : n = l[m].parts.length)
    (hown : w1.ownsRow 0 34 2 (.slice (some ⟨g1, 0, none⟩) (n + 1) cap1) (n + 1) (ptCells l[m].parts ++ [.string p.topic, .int .i64 p.index]))
    (hg : w.grownBy w1 vs[m].ownBlock) (hat : vs[m].ownBlock = some g1 ∨ g1 = H) (hH : w.heap.size ≤ H) :
    SharesAt (w1.setCell ⟨g, m * 2 + 1, none⟩ (.slice (some ⟨g1, 0, none⟩) (n + 1) cap1)) (fun k => F k ∨ k = g1) (.slice (some ⟨g, 0, none⟩) l.length cap) (l.modify m fun s => ⟨s.member, s.parts ++ [p]⟩) (vs.set m (.slice (some ⟨g1, 0, none⟩) (n + 1) cap1)) ∧
      Keeps F w (w1.setCell ⟨g, m * 2 + 1, none⟩ (.slice (some ⟨g1, 0, none⟩) (n + 1) cap1)) := by
  subst hn
  have hglt : g < w.heap.size := own_lt h.row rfl
  have hk1 : Keeps (fun k => vs[m].ownBlock = some k) w w1 := ⟨hg.os, hg.tape, hg.output, hg.size, fun k hk hne => hg.block k hk (fun e => hne e.symm)⟩
  have hmg : vs[m].ownBlock ≠ some g := by
    rcases h.own m hv with h1 | h1
    · rw [h1]; simp
    · simpa [Value.ownBlock] using h1
  have hg1 : g1 ≠ g := by
    rcases hat with e | e
    · intro e2; exact hmg (e.trans (by rw [e2]))
    · omega
  have hrow1 : w1.ownsRow 0 147 2 (.slice (some ⟨g, 0, none⟩) l.length cap) l.length (shCells l vs) := own_keep hk1 h.row (fun k e => by
    have : g = k := by simpa [Value.ownBlock] using e
    subst this; exact hmg)
  have hst := hrow1.stored (m * 2 + 1) (.slice (some ⟨g1, 0, none⟩) (l[m].parts.length + 1) cap1)
  rw [shCells_set _ _ _ _ h.len] at hst
  have hk2 : Keeps (fun k => k = g) w1 (w1.setCell ⟨g, m * 2 + 1, none⟩ (.slice (some ⟨g1, 0, none⟩) (l[m].parts.length + 1) cap1)) := (Keeps.refl (fun k => k = g) w1).setC _ _ (fun _ => rfl)
  have hk : Keeps F w (w1.setCell ⟨g, m * 2 + 1, none⟩ (.slice (some ⟨g1, 0, none⟩) (l[m].parts.length + 1) cap1)) :=
    (hk1.mono fun k _ e => h.footP m hv k e).trans hk2 (fun k _ e => by subst e; exact h.foot _ rfl)
  refine ⟨⟨by simp [h.len], ?_, ?_, ?_, ?_, ?_, ?_, ?_⟩, hk⟩
  · rw [shCells_modify _ _ _ (fun x => x ++ [p])]
    simpa using hst.1
  · intro i hi
    have hi' : i < l.length := by simpa using hi
    by_cases him : i = m
    · subst him
      simp only [List.getElem_set_self, List.getElem_modify_eq, ptCells_append, List.length_append, List.length_singleton]
      exact own_keep hk2 hown (fun k e => by have : g1 = k := by simpa [Value.ownBlock] using e
                                             omega)
    · have hiv : i < vs.length := by rw [h.len]; exact hi'
      simp only [List.getElem_set_ne (Ne.symm him), List.getElem_modify, if_neg (Ne.symm him)]
      refine own_keep hk2 (own_keep hk1 (h.parts i hi') fun k e => ?_) fun k e => ?_
      · rcases h.apart i m hiv hv him with h1 | h1
        · rw [h1] at e; cases e
        · exact fun e2 => h1 (e.trans e2.symm)
      · rcases h.own i hiv with h1 | h1
        · rw [h1] at e; cases e
        · intro e2; subst e2; exact h1 e
  · intro i j hi hj hne
    have hi' : i < vs.length := by simpa using hi
    have hj' : j < vs.length := by simpa using hj
    by_cases him : i = m
    · subst him
      simp only [List.getElem_set_self, List.getElem_set_ne hne]
      right
      intro e
      have e' : vs[j].ownBlock = some g1 := e.symm
      rcases hat with h1 | h1
      · rcases h.apart j i hj' hv (Ne.symm hne) with h2 | h2
        · rw [h2] at e'; cases e'
        · exact h2 (e'.trans h1.symm)
      · have := own_lt (h.parts j (by rw [← h.len]; exact hj')) e'
        omega
    · by_cases hjm : j = m
      · subst hjm
        simp only [List.getElem_set_self, List.getElem_set_ne (Ne.symm hne)]
        cases hq : vs[i].ownBlock with
        | none => exact .inl rfl
        | some q =>
          right
          intro e
          have e' : vs[i].ownBlock = some g1 := by rw [hq]; exact e
          rcases hat with h1 | h1
          · rcases h.apart i j hi' hv hne with h2 | h2
            · rw [h2] at e'; cases e'
            · exact h2 (e'.trans h1.symm)
          · have := own_lt (h.parts i (by rw [← h.len]; exact hi')) e'
            omega
      · simp only [List.getElem_set_ne (Ne.symm him), List.getElem_set_ne (Ne.symm hjm)]
        exact h.apart i j hi' hj' hne
  · intro i hi
    have hi' : i < vs.length := by simpa using hi
    by_cases him : i = m
    · subst him
      simp only [List.getElem_set_self]
      right
      simp [Value.ownBlock, hg1]
    · simp only [List.getElem_set_ne (Ne.symm him)]
      exact h.own i hi'
  · intro k e
    exact .inl (h.foot k e)
  · intro i hi k e
    have hi' : i < vs.length := by simpa using hi
    by_cases him : i = m
    · subst him
      simp only [List.getElem_set_self] at e
      exact .inr (by simpa [Value.ownBlock] using e.symm)
    · simp only [List.getElem_set_ne (Ne.symm him)] at e
      exact .inl (h.footP i hi' k e)
  · rintro k (e | rfl)
    · exact Nat.lt_of_lt_of_le (h.lt k e) hk.size
    · exact Nat.lt_of_lt_of_le (own_lt hown rfl) hk2.size
end Go.Proofs.YtklhlffdpojkoaaGreat

/-
  Who wants a topic: the library's search in a list of texts, the reference's, and the lists of takers.
-/
namespace Go.Proofs.YtklhlffdpojkoaaGreat
open Go.RowKit Fx

def wantB (l : List ByteArray) (s : ByteArray) : Bool := l.any fun x => decide (x = s)
theorem wantB_true {l : List ByteArray} {s : ByteArray} {k : Nat} (hk : k < l.length) (h : l[k] = s) : wantB l s = true := by
  rw [wantB, List.any_eq_true]
  exact ⟨l[k], List.getElem_mem hk, by simpa using h⟩
theorem wantB_false {l : List ByteArray} {s : ByteArray} (h : ∀ j (h : j < l.length), l[j] ≠ s) : wantB l s = false := by
  rw [wantB, List.any_eq_false]
  intro x hx
  obtain ⟨j, hj, e⟩ := List.mem_iff_getElem.1 hx
  subst e
  simpa using h j hj
theorem toList_ne {a b : ByteArray} (h : ¬ a = b) : (b.toList == a.toList) = false ∧ (a.toList == b.toList) = false := by
  have : ¬ a.toList = b.toList := fun e => h (by
    rw [ByteArray.toList_eq, ByteArray.toList_eq] at e
    cases a; cases b
    simp only [ByteArray.mk.injEq]
    exact Array.toList_inj.1 e)
  exact ⟨by simpa using fun e => this e.symm, by simpa using this⟩

set_option maxRecDepth 100000 in
set_option maxHeartbeats 1000000 in
theorem index35 (w0 w : World) (sa : Option Addr) (sc : Nat) (l : List ByteArray) (s : ByteArray) (hs : SlAt 1 rStr w0 sa sc l) (hb : Below w0.heap.size w0 w) :
    Calls Tryz.prog 143 #[.slice sa l.length sc, .string s] w fun e w' => (∃ i : Int, e = .returned (.int .i64 i) ∧ decide (0 ≤ i) = wantB l s) ∧ w = w' := by
  have hm := hs.len
  have HS := Lib.hid hs
  clear hs
  go_enter Tryz.func143, Tryz.ntmps143
  go_wp2
  go_loop [8] (fun i => ∃ k : Nat, i = .int .i64 k ∧ k ≤ l.length ∧ ∀ j (h : j < l.length), j < k → l[j] ≠ s) (fun i => l.length - (intOf i).toNat)
  case atStart => exact ⟨0, rfl, by omega, fun j _ h => by omega⟩
  case round =>
    obtain ⟨k, rfl, hk, hq⟩ := hrel
    have HQ := Lib.hid hq
    clear hq
    by_cases hlt : k < l.length
    · obtain ⟨b, off, rfl, hr'⟩ := HS.out.row hlt
      obtain ⟨c0, hbl⟩ := str_cells hr' hb k hlt
      clear hr'
      by_cases he : l[k] = s
      · have HW := Lib.hid (wantB_true hlt he)
        rw [he] at c0
        have hn : ¬ l.length = 0 := by omega
        clear he
        go_wp2
        go_ret
        refine ⟨⟨k, rfl, ?_⟩, rfl⟩
        rw [HW.out]; simp
      · generalize hx : l[k] = x at c0 he
        have HX := Lib.hid hx
        obtain ⟨he1, he2⟩ := toList_ne he
        have HE := Lib.hid he
        clear he hx
        go_wp2
        go_round
        case rel => exact ⟨k + 1, by go_num, by omega, fun j h hj => (Nat.lt_succ_iff_lt_or_eq.1 hj).elim (HQ.out j h) fun e => by subst e; rw [HX.out]; exact HE.out⟩
        case measure => simp [intOf]; omega
    · have HW := Lib.hid (wantB_false (l := l) (s := s) fun j h => HQ.out j h (by omega))
      go_wp2
      go_ret
      refine ⟨⟨-1, rfl, ?_⟩, rfl⟩
      rw [HW.out]; rfl

set_option maxHeartbeats 400000 in
theorem contains32 (w0 w : World) (sa : Option Addr) (sc : Nat) (l : List ByteArray) (s : ByteArray) (hs : SlAt 1 rStr w0 sa sc l) (hb : Below w0.heap.size w0 w) :
    Calls Tryz.prog 129 #[.slice sa l.length sc, .string s] w fun e w' => e = .returned (.bool (wantB l s)) ∧ w = w' := by
  have H := Lib.hid (index35 w0 w sa sc l s hs hb)
  clear hs hb
  go_enter Tryz.func129, Tryz.ntmps129
  go_wp2_with fail
  refine H.out.mono ?_
  rintro e w' ⟨⟨i, rfl, hi⟩, rfl⟩
  have HI := Lib.hid hi
  clear hi
  go_wp2
  go_ret
  rw [← HI.out]
  exact ⟨rfl, rfl⟩

set_option maxRecDepth 100000 in
set_option maxHeartbeats 1000000 in
theorem wants23 (w0 w : World) (m : Int) (sa : Option Addr) (sc : Nat) (l : List ByteArray) (s : ByteArray) (hs : SlAt 1 rStr w0 sa sc l) (hb : Below w0.heap.size w0 w) :
    Calls Tryz.prog 119 #[.agg #[.int .i64 m, .slice sa l.length sc], .string s] w fun e w' => Same w e (.bool (wantB l s)) w' := by
  have hm := hs.len
  have HS := Lib.hid hs
  clear hs
  go_enter Tryz.func119, Tryz.ntmps119
  go_wp2
  go_loop [5] (fun i => ∃ k : Nat, i = .int .i64 k ∧ k ≤ l.length ∧ ∀ j (h : j < l.length), j < k → l[j] ≠ s) (fun i => l.length - (intOf i).toNat)
  case atStart => exact ⟨0, rfl, by omega, fun j _ h => by omega⟩
  case round =>
    obtain ⟨k, rfl, hk, hq⟩ := hrel
    have HQ := Lib.hid hq
    clear hq
    by_cases hlt : k < l.length
    · obtain ⟨b, off, rfl, hr'⟩ := HS.out.row hlt
      obtain ⟨c0, hbl⟩ := str_cells hr' hb k hlt
      clear hr'
      by_cases he : l[k] = s
      · have HW := Lib.hid (wantB_true hlt he)
        rw [he] at c0
        clear he
        go_wp2
        go_ret
        rw [HW.out]
        exact ⟨rfl, (Keeps.refl _ _).alloc _⟩
      · generalize hx : l[k] = x at c0 he
        have HX := Lib.hid hx
        obtain ⟨he1, he2⟩ := toList_ne he
        have HE := Lib.hid he
        clear he hx
        go_wp2
        go_round
        case rel => exact ⟨k + 1, by go_num, by omega, fun j h hj => (Nat.lt_succ_iff_lt_or_eq.1 hj).elim (HQ.out j h) fun e => by subst e; rw [HX.out]; exact HE.out⟩
        case measure => simp [intOf]; omega
    · have HW := Lib.hid (wantB_false (l := l) (s := s) fun j h => HQ.out j h (by omega))
      go_wp2
      go_ret
      rw [HW.out]
      exact ⟨rfl, (Keeps.refl _ _).alloc _⟩
end Go.Proofs.YtklhlffdpojkoaaGreat

/-
  An append of one element that the statement itself has just laid, onto a row that the call owns: at a walk's operation, and at a step of a region that draws its order. Over any program.
-/
namespace Go.Proofs.YtklhlffdpojkoaaGreat.Fx
open Go.RowKit

theorem heap_new (w : World) (o : Obj) (n : Nat) (h : n = w.heap.size) : (w.alloc o).heap[n]? = some o := by subst h; exact (MapKept.heap_alloc w o).1
/-- What such an append leaves: the new row, all else as it was. -/
structure App1 (w : World) (base : Nat) (e : TypeId) (size : Nat) (v : Value) (n : Nat) (xs : List Value) (g cap : Nat) (w' : World) : Prop where
  own : w'.ownsRow base e size (.slice (some ⟨g, 0, none⟩) (n + 1) cap) (n + 1) xs
  grown : w.grownBy w' v.ownBlock
  at_ : v.ownBlock = some g ∨ g = w.heap.size
  lt : g < w'.heap.size

theorem heap_new_drew (w : World) (o : Obj) (n : Nat) (h : n = w.heap.size) : (w.alloc o).drew.heap[n]? = some o := heap_new w o n h
theorem App1.far {w w' : World} {base : Nat} {e : TypeId} {size : Nat} {v : Value} {n : Nat} {xs : List Value} {g cap : Nat} (h : App1 w base e size v n xs g cap w') {b : Nat} {ob : Obj} (hb : w.heap[b]? = some ob) (hne : v.ownBlock ≠ some b) : w'.heap[b]? = some ob :=
  (h.grown.block b (Array.getElem?_eq_some_iff.1 hb).1 (fun e => hne e.symm)).trans hb
theorem grown_alloc {w w1 : World} {o : Obj} {r : Option Nat} (h : (w.alloc o).grownBy w1 r) : w.grownBy w1 r :=
  ⟨h.os, h.tape, h.output, by have := h.size; simp at this; omega, fun k hk hne => (h.block k (by simp; omega) hne).trans (Below.heap_alloc w o k hk)⟩
theorem grown_drew {w w1 : World} {r : Option Nat} (h : w.drew.grownBy w1 r) : w.grownBy w1 r := ⟨h.os, h.tape, h.output, h.size, h.block⟩
theorem block_cell {w : World} {b : Nat} {c : Array Value} {t : TypeId} {f : Nat × Nat} (h : w.heap[b]? = some (.cells c t f)) (i : Nat) : w.cell? ⟨b, i, none⟩ = c[i]? := by simp [World.cell?, h]
theorem block_free {w : World} {b : Nat} {c : Array Value} {t : TypeId} (h : w.heap[b]? = some (.cells c t (0, 0))) (i : Nat) : w.frozen? ⟨b, i, none⟩ = false := by simp [World.frozen?, h]
theorem block_lt {w : World} {b : Nat} {ob : Obj} (h : w.heap[b]? = some ob) : b < w.heap.size := (Array.getElem?_eq_some_iff.1 h).1
theorem block_alloc {w : World} {b : Nat} {ob : Obj} (h : w.heap[b]? = some ob) (o : Obj) : (w.alloc o).heap[b]? = some ob := (Below.heap_alloc w o b (block_lt h)).trans h
section
variable {P : Program} {w : World} {ops : Array Oper} {rest : List Oper} {o : Oper} {a : Act} {Q : Exit → Act → World → Prop}
theorem app1_side {n bytes : Nat} (hn : n ≤ 1000000 ∧ bytes ≤ 1000000) : n + 1 ≤ maxLen ∧ (n + 1) * bytes ≤ 140737488355328 := by
  refine ⟨by unfold maxLen; omega, ?_⟩
  have : (n + 1) * bytes ≤ 1000001 * 1000000 := Nat.mul_le_mul (by omega) hn.2
  omega
theorem news1 {w : World} {B : Nat} {cs : List Value} {t : TypeId} {fr : Nat × Nat} (h : w.heap[B]? = some (.cells cs.toArray t fr)) : ∀ j u, cs[j]? = some u → w.cell? ((⟨B, 0, none⟩ : Addr).add j) = some u := by
  intro j u hu
  have e : (⟨B, 0, none⟩ : Addr).add j = ⟨B, j, none⟩ := by unfold Addr.add; split <;> simp_all
  rw [e]
  simp [World.cell?, h, hu]
theorem wp_app1 {K : Act → World → Prop} {s x : Operand} {t : TypeId} (ho : o.op = .call { callee := .builtin .append, args := #[s, x], argTypes := #[t, t] })
    {base : Nat} {e : TypeId} {z : Value} {size bytes : Nat} (ht : P.underlying t = some (.slice e)) (hinfo : (P.info? e).map (fun i => (i.zero, i.size, i.bytes)) = some (some z, size, bytes)) (hzs : z.cells.size = size) (hsz : 0 < size)
    {v : Value} {n : Nat} {xs : List Value} (hs : a.eval s = v) (hown : w.ownsRow base e size v n xs) {B c : Nat} {cs : List Value} {t' : TypeId} {fr : Nat × Nat} (hx : a.eval x = .slice (some ⟨B, 0, none⟩) 1 c) (hblk : w.heap[B]? = some (.cells cs.toArray t' fr))
    (hcs : cs.length = size) (h1 : (cs.all fun u => u.oneCell') = true) (hn : n ≤ 1000000 ∧ bytes ≤ 1000000) (hbase : base ≤ w.heap.size)
    (h : ∀ g cap w', App1 w base e size v n (xs ++ cs) g cap w' → K (a.put o.dst (.slice (some ⟨g, 0, none⟩) (n + 1) cap)) w') : o.wp P a w K Q := by
  obtain ⟨i, hi, hz, hz1, hz2⟩ := info_parts hinfo
  exact wp_append_lies w s x t ho base e i z size bytes ht hi hz hz1 hz2 hzs hsz v n xs hs hown ⟨B, 0, none⟩ 1 c cs hx (by rw [hcs, Nat.one_mul]) (news1 hblk) (fun u hu => List.all_eq_true.1 h1 u hu) (by decide) (app1_side hn).1 (app1_side hn).2 hbase _ rfl
    fun g cap w' h2 h3 h4 h5 => h g cap w' ⟨h2, h3, h4, h5⟩
/-- At a walk's operation. -/
theorem wpList_app1 (hgd : o.guard = none) {s x : Operand} {t : TypeId} (ho : o.op = .call { callee := .builtin .append, args := #[s, x], argTypes := #[t, t] })
    {base : Nat} {e : TypeId} {z : Value} {size bytes : Nat} (ht : P.underlying t = some (.slice e)) (hinfo : (P.info? e).map (fun i => (i.zero, i.size, i.bytes)) = some (some z, size, bytes)) (hzs : z.cells.size = size) (hsz : 0 < size)
    {v : Value} {n : Nat} {xs : List Value} (hs : a.eval s = v) (hown : w.ownsRow base e size v n xs) {B c : Nat} {cs : List Value} {t' : TypeId} {fr : Nat × Nat} (hx : a.eval x = .slice (some ⟨B, 0, none⟩) 1 c) (hblk : w.heap[B]? = some (.cells cs.toArray t' fr))
    (hcs : cs.length = size) (h1 : (cs.all fun u => u.oneCell') = true) (hn : n ≤ 1000000 ∧ bytes ≤ 1000000) (hbase : base ≤ w.heap.size)
    (h : ∀ g cap w', App1 w base e size v n (xs ++ cs) g cap w' → wpList P ops Q rest (a.put o.dst (.slice (some ⟨g, 0, none⟩) (n + 1) cap)) w') : wpList P ops Q (o :: rest) a w :=
  wpList_plain hgd fun _ hK => wp_app1 ho ht hinfo hzs hsz hs hown hx hblk hcs h1 hn hbase fun g cap w' h2 => hK _ _ (h g cap w' h2)
/-- At a step of a region that draws its order. -/
theorem step_app1 {K : Act → World → Prop} {E : Prop} (hgd : o.guard = none) {s x : Operand} {t : TypeId} (ho : o.op = .call { callee := .builtin .append, args := #[s, x], argTypes := #[t, t] })
    {base : Nat} {e : TypeId} {z : Value} {size bytes : Nat} (ht : P.underlying t = some (.slice e)) (hinfo : (P.info? e).map (fun i => (i.zero, i.size, i.bytes)) = some (some z, size, bytes)) (hzs : z.cells.size = size) (hsz : 0 < size)
    {v : Value} {n : Nat} {xs : List Value} (hs : a.eval s = v) (hown : w.ownsRow base e size v n xs) {B c : Nat} {cs : List Value} {t' : TypeId} {fr : Nat × Nat} (hx : a.eval x = .slice (some ⟨B, 0, none⟩) 1 c) (hblk : w.heap[B]? = some (.cells cs.toArray t' fr))
    (hcs : cs.length = size) (h1 : (cs.all fun u => u.oneCell') = true) (hn : n ≤ 1000000 ∧ bytes ≤ 1000000) (hbase : base ≤ w.heap.size)
    (h : ∀ g cap w', App1 w base e size v n (xs ++ cs) g cap w' → K (a.put o.dst (.slice (some ⟨g, 0, none⟩) (n + 1) cap)) w') :
    if Region.wanted o (yielded ops a.tmps) = true then Oper.wp P o a w K Q else E := by
  have hw : Region.wanted o (yielded ops a.tmps) = true := by simp [Region.wanted, hgd]
  rw [if_pos hw]
  exact wp_app1 ho ht hinfo hzs hsz hs hown hx hblk hcs h1 hn hbase h
end
end Go.Proofs.YtklhlffdpojkoaaGreat.Fx
