/-
  Who wants a topic: the library's search in a list of texts, the reference's, and the lists of takers.
-/
import Derived.Test.YtlmajhkhlmkeiaaAd
namespace Go.Proofs.Ytlmajhkhlmkeiaa
open Go.RowKit Fx

def wantB (l : List ByteArray) (s : ByteArray) : Bool := l.any fun x => decide (x = s)
theorem wantB_true {l : List ByteArray} {s : ByteArray} {k : Nat} (hk : k < l.length) (h : l[k] = s) : wantB l s = true := by
  rw [wantB, List.any_eq_true]
  exact ⟨l[k], List.getElem_mem hk, by simpa using h⟩
theorem wantB_false {l : List ByteArray} {s : ByteArray} (h : ∀ j (h : j < l.length), l[j] ≠ s) : wantB l s = false := by
  rw [wantB, List.any_eq_false]
  intro x hx
  obtain ⟨j, hj, e⟩ := List.mem_iff_getElem.1 hx
  subst e
  simpa using h j hj
theorem toList_ne {a b : ByteArray} (h : ¬ a = b) : (b.toList == a.toList) = false ∧ (a.toList == b.toList) = false := by
  have : ¬ a.toList = b.toList := fun e => h (by
    rw [ByteArray.toList_eq, ByteArray.toList_eq] at e
    cases a; cases b
    simp only [ByteArray.mk.injEq]
    exact Array.toList_inj.1 e)
  exact ⟨by simpa using fun e => this e.symm, by simpa using this⟩

set_option maxRecDepth 100000 in
set_option maxHeartbeats 1000000 in
theorem index35 (w0 w : World) (sa : Option Addr) (sc : Nat) (l : List ByteArray) (s : ByteArray) (hs : SlAt 1 rStr w0 sa sc l) (hb : Below w0.heap.size w0 w) :
    Calls Try.prog 81 #[.slice sa l.length sc, .string s] w fun e w' => (∃ i : Int, e = .returned (.int .i64 i) ∧ decide (0 ≤ i) = wantB l s) ∧ w = w' := by
  have hm := hs.len
  have HS := Lib.hid hs
  clear hs
  go_enter Try.func81, Try.ntmps81
  go_wp2
  go_loop [8] (fun i => ∃ k : Nat, i = .int .i64 k ∧ k ≤ l.length ∧ ∀ j (h : j < l.length), j < k → l[j] ≠ s) (fun i => l.length - (intOf i).toNat)
  case atStart => exact ⟨0, rfl, by omega, fun j _ h => by omega⟩
  case round =>
    obtain ⟨k, rfl, hk, hq⟩ := hrel
    have HQ := Lib.hid hq
    clear hq
    by_cases hlt : k < l.length
    · obtain ⟨b, off, rfl, hr'⟩ := HS.out.row hlt
      obtain ⟨c0, hbl⟩ := str_cells hr' hb k hlt
      clear hr'
      by_cases he : l[k] = s
      · have HW := Lib.hid (wantB_true hlt he)
        rw [he] at c0
        have hn : ¬ l.length = 0 := by omega
        clear he
        go_wp2
        go_ret
        refine ⟨⟨k, rfl, ?_⟩, rfl⟩
        rw [HW.out]; simp
      · generalize hx : l[k] = x at c0 he
        have HX := Lib.hid hx
        obtain ⟨he1, he2⟩ := toList_ne he
        have HE := Lib.hid he
        clear he hx
        go_wp2
        go_round
        case rel => exact ⟨k + 1, by go_num, by omega, fun j h hj => (Nat.lt_succ_iff_lt_or_eq.1 hj).elim (HQ.out j h) fun e => by subst e; rw [HX.out]; exact HE.out⟩
        case measure => simp [intOf]; omega
    · have HW := Lib.hid (wantB_false (l := l) (s := s) fun j h => HQ.out j h (by omega))
      go_wp2
      go_ret
      refine ⟨⟨-1, rfl, ?_⟩, rfl⟩
      rw [HW.out]; rfl

set_option maxHeartbeats 400000 in
theorem contains32 (w0 w : World) (sa : Option Addr) (sc : Nat) (l : List ByteArray) (s : ByteArray) (hs : SlAt 1 rStr w0 sa sc l) (hb : Below w0.heap.size w0 w) :
    Calls Try.prog 77 #[.slice sa l.length sc, .string s] w fun e w' => e = .returned (.bool (wantB l s)) ∧ w = w' := by
  have H := Lib.hid (index35 w0 w sa sc l s hs hb)
  clear hs hb
  go_enter Try.func77, Try.ntmps77
  go_wp2_with fail
  refine H.out.mono ?_
  rintro e w' ⟨⟨i, rfl, hi⟩, rfl⟩
  have HI := Lib.hid hi
  clear hi
  go_wp2
  go_ret
  rw [← HI.out]
  exact ⟨rfl, rfl⟩

set_option maxRecDepth 100000 in
set_option maxHeartbeats 1000000 in
theorem wants23 (w0 w : World) (m : Int) (sa : Option Addr) (sc : Nat) (l : List ByteArray) (s : ByteArray) (hs : SlAt 1 rStr w0 sa sc l) (hb : Below w0.heap.size w0 w) :
    Calls Try.prog 76 #[.agg #[.int .i64 m, .slice sa l.length sc], .string s] w fun e w' => Same w e (.bool (wantB l s)) w' := by
  have hm := hs.len
  have HS := Lib.hid hs
  clear hs
  go_enter Try.func76, Try.ntmps76
  go_wp2
  go_loop [5] (fun i => ∃ k : Nat, i = .int .i64 k ∧ k ≤ l.length ∧ ∀ j (h : j < l.length), j < k → l[j] ≠ s) (fun i => l.length - (intOf i).toNat)
  case atStart => exact ⟨0, rfl, by omega, fun j _ h => by omega⟩
  case round =>
    obtain ⟨k, rfl, hk, hq⟩ := hrel
    have HQ := Lib.hid hq
    clear hq
    by_cases hlt : k < l.length
    · obtain ⟨b, off, rfl, hr'⟩ := HS.out.row hlt
      obtain ⟨c0, hbl⟩ := str_cells hr' hb k hlt
      clear hr'
      by_cases he : l[k] = s
      · have HW := Lib.hid (wantB_true hlt he)
        rw [he] at c0
        clear he
        go_wp2
        go_ret
        rw [HW.out]
        exact ⟨rfl, (Keeps.refl _ _).alloc _⟩
      · generalize hx : l[k] = x at c0 he
        have HX := Lib.hid hx
        obtain ⟨he1, he2⟩ := toList_ne he
        have HE := Lib.hid he
        clear he hx
        go_wp2
        go_round
        case rel => exact ⟨k + 1, by go_num, by omega, fun j h hj => (Nat.lt_succ_iff_lt_or_eq.1 hj).elim (HQ.out j h) fun e => by subst e; rw [HX.out]; exact HE.out⟩
        case measure => simp [intOf]; omega
    · have HW := Lib.hid (wantB_false (l := l) (s := s) fun j h => HQ.out j h (by omega))
      go_wp2
      go_ret
      rw [HW.out]
      exact ⟨rfl, (Keeps.refl _ _).alloc _⟩
end Go.Proofs.Ytlmajhkhlmkeiaa
