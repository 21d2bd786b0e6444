/-
  The library's searches over the members' row, with the closures that the program hands in.
-/
import Derived.Test.YtlmajhkhlmkeiaaGa
import Derived.Shelf.Abstract
namespace Go.Proofs.Ytlmajhkhlmkeiaa
open Go.RowKit Go.Shelf Fx

/-- The row of members, for reading. -/
def RowV (w : World) (v : Value) (L : List OneV) : Prop :=
  L.length ≤ 1000000 ∧ ((L = [] ∧ v = .slice none 0 0) ∨ ∃ r cap, v = .slice (some ⟨r, 0, none⟩) L.length cap ∧ r < w.heap.size ∧ ∀ i (hi : i < L.length),
    w.cell? ⟨r, i * 5, none⟩ = some (.int .i64 L[i].member) ∧ w.cell? ⟨r, i * 5 + 1, none⟩ = some L[i].tv ∧ w.cell? ⟨r, i * 5 + 2, none⟩ = some (.int .i64 L[i].til) ∧ w.cell? ⟨r, i * 5 + 3, none⟩ = some (.bool L[i].joined) ∧ w.cell? ⟨r, i * 5 + 4, none⟩ = some L[i].pv)
theorem RowV.keep {w w' : World} {S : Nat → Prop} {v : Value} {L : List OneV} (h : RowV w v L) (hk : Keeps S w w') (hS : ∀ k, v.ownBlock = some k → ¬ S k) : RowV w' v L := by
  obtain ⟨h0, h⟩ := h
  refine ⟨h0, h.elim .inl fun ⟨r, cap, e, hr, hc⟩ => .inr ⟨r, cap, e, Nat.lt_of_lt_of_le hr hk.size, fun i hi => ?_⟩⟩
  have hn : ¬ S r := hS r (by rw [e]; rfl)
  obtain ⟨c0, c1, c2, c3, c4⟩ := hc i hi
  exact ⟨hk.cell' c0 hn, hk.cell' c1 hn, hk.cell' c2 hn, hk.cell' c3 hn, hk.cell' c4 hn⟩
theorem GrpAt.rowV {w : World} {F : Nat → Prop} {b : Nat} {g : GroupC} {v : Value} {L : List OneV} (h : GrpAt w F b g v L) (hl : L.length ≤ 1000000) : RowV w v L := by
  refine ⟨hl, ?_⟩
  rcases h.form with h1 | ⟨r, cap, e, _, hr, _, _⟩
  · exact .inl h1
  · exact .inr ⟨r, cap, e, hr, fun i hi => h.cell e i hi⟩
/-- A closure that tells of a member whether something holds of it. -/
def Tests (c : Nat) (caps : Array Value) (p : OneV → Bool) (w : World) : Prop :=
  ∀ x : OneV, Calls Try.prog c (#[.agg #[.int .i64 x.member, x.tv, .int .i64 x.til, .bool x.joined, x.pv]] ++ caps) w fun e w' => Same w e (.bool (p x)) w'
theorem enters_complete : ∀ args w, (callFunc 52 args).run Try.prog w = .ok (.enter 52 args) w :=
  enters_of Try.func52 (by kernel_rfl) rfl
theorem enters_close : ∀ args w, (callFunc 54 args).run Try.prog w = .ok (.enter 54 args) w :=
  enters_of Try.func54 (by kernel_rfl) rfl
theorem enters_leave : ∀ args w, (callFunc 34 args).run Try.prog w = .ok (.enter 34 args) w :=
  enters_of Try.func34 (by kernel_rfl) rfl
set_option maxHeartbeats 400000 in
theorem tests_complete (w : World) : Tests 52 #[] (fun x => !x.joined) w := by
  intro x
  obtain ⟨a, t, u, j, p, _, _⟩ := x
  cases j <;>
  · go_enter Try.func52, Try.ntmps52
    go_wp2
    go_ret
    exact ⟨rfl, (Keeps.refl _ _).alloc _⟩
set_option maxHeartbeats 400000 in
theorem tests_close (w : World) : Tests 54 #[] (fun x => !x.joined) w := by
  intro x
  obtain ⟨a, t, u, j, p, _, _⟩ := x
  cases j <;>
  · go_enter Try.func54, Try.ntmps54
    go_wp2
    go_ret
    exact ⟨rfl, (Keeps.refl _ _).alloc _⟩
set_option maxHeartbeats 400000 in
theorem tests_leave {w : World} {bm : Nat} {m : Int} (hc : w.cell? ⟨bm, 0, none⟩ = some (.int .i64 m)) : Tests 34 #[.pointer (some ⟨bm, 0, none⟩)] (fun x => x.member == m) w := by
  intro x
  have hb := cell_block1 hc
  obtain ⟨a, t, u, j, p, _, _⟩ := x
  go_enter Try.func34, Try.ntmps34
  go_wp2
  go_ret
  exact ⟨rfl, (Keeps.refl _ _).alloc _⟩
/-- Where the first one is that something holds of; -1: nowhere. -/
def idxOf (p : OneV → Bool) (L : List OneV) : Int := match L.findIdx? p with
  | some i => i
  | none => -1
theorem idx_here {p : OneV → Bool} {L : List OneV} {k : Nat} (hk : k < L.length) (h1 : ∀ j (h : j < L.length), j < k → p L[j] = false) (h2 : p L[k] = true) : idxOf p L = k := by
  unfold idxOf
  have : L.findIdx? p = some k := by
    rw [List.findIdx?_eq_some_iff_getElem]
    exact ⟨hk, h2, fun j hj => by rw [h1 j (by omega) hj]; simp⟩
  rw [this]
theorem idx_none {p : OneV → Bool} {L : List OneV} (h1 : ∀ j (h : j < L.length), p L[j] = false) : idxOf p L = -1 := by
  unfold idxOf
  have : L.findIdx? p = none := by
    rw [List.findIdx?_eq_none_iff]
    intro x hx
    obtain ⟨j, hj, rfl⟩ := List.mem_iff_getElem.1 hx
    exact h1 j hj
  rw [this]

set_option maxRecDepth 100000 in
set_option maxHeartbeats 1000000 in
theorem indexFunc (w : World) (v : Value) (L : List OneV) (c : Nat) (caps : Array Value) (p : OneV → Bool) (hv : RowV w v L) (eg : ∀ args w, (callFunc c args).run Try.prog w = .ok (.enter c args) w) (hp : ∀ w1, K0 w w1 → Tests c caps p w1) :
    Calls Try.prog 67 #[v, .func (.func c) #[] caps] w fun e w' => Same w e (.int .i64 (idxOf p L)) w' := by
  have HP := Lib.hid hp
  have HV := Lib.hid hv
  have hl := hv.1
  obtain ⟨cap0, a0, rfl⟩ : ∃ cap a, v = .slice a L.length cap := by
    rcases hv.2 with ⟨rfl, rfl⟩ | ⟨r, cap, rfl, _⟩
    · exact ⟨_, _, rfl⟩
    · exact ⟨_, _, rfl⟩
  clear hv hp
  go_enter Try.func67, Try.ntmps67
  go_wp2
  go_loopw [8] (fun i wr => ∃ k : Nat, i = .int .i64 k ∧ k ≤ L.length ∧ (∀ j (h : j < L.length), j < k → p L[j] = false) ∧ K0 w wr) (fun i _ => L.length - (intOf i).toNat)
  case atStart => exact ⟨0, rfl, by omega, fun j _ h => by omega, Keeps.refl _ _⟩
  case round =>
    obtain ⟨k, rfl, hk, hq, hkw⟩ := hrel
    have HQ := Lib.hid hq
    have HK := Lib.hid hkw
    clear hq
    by_cases hlt : k < L.length
    · rcases HV.out.2 with ⟨h0, _⟩ | ⟨r, cap, e, hr, hc⟩
      · subst h0; exact absurd hlt (Nat.not_lt_zero _)
      · simp only [Value.slice.injEq, true_and] at e
        obtain ⟨rfl, rfl⟩ := e
        obtain ⟨c0, c1, c2, c3, c4⟩ := hc k hlt
        have c0 := hkw.cell' c0 (fun e => e)
        have c1 := hkw.cell' c1 (fun e => e)
        have c2 := hkw.cell' c2 (fun e => e)
        have c3 := hkw.cell' c3 (fun e => e)
        have c4 := hkw.cell' c4 (fun e => e)
        have hr := Nat.lt_of_lt_of_le hr hkw.size
        have HT := Lib.hid (HP.out wr hkw L[k])
        clear hc hkw
        have i0 : (0 : Int) ≤ k := by omega
        have i1 : (k : Int) < L.length := by omega
        cases hpk : p L[k] with
        | true =>
          have HR := Lib.hid (idx_here hlt HQ.out hpk)
          rw [hpk] at HT
          clear hpk
          generalize L[k].member = x0 at c0 HT
          generalize L[k].tv = x1 at c1 HT
          generalize L[k].til = x2 at c2 HT
          generalize L[k].joined = x3 at c3 HT
          generalize L[k].pv = x4 at c4 HT
          go_wp2_with fail
          refine HT.out.mono ?_
          rintro e w' ⟨rfl, hk'⟩
          go_wp2
          go_ret
          rw [HR.out]
          exact ⟨rfl, K0.tr HK.out hk'⟩
        | false =>
          have HR := Lib.hid hpk
          rw [hpk] at HT
          clear hpk
          generalize L[k].member = x0 at c0 HT
          generalize L[k].tv = x1 at c1 HT
          generalize L[k].til = x2 at c2 HT
          generalize L[k].joined = x3 at c3 HT
          generalize L[k].pv = x4 at c4 HT
          go_wp2_with fail
          refine HT.out.mono ?_
          rintro e w' ⟨rfl, hk'⟩
          go_wp2
          go_roundw
          case rel => exact ⟨k + 1, by go_num, by omega, fun j h hj => (Nat.lt_succ_iff_lt_or_eq.1 hj).elim (HQ.out j h) (fun e => by subst e; exact HR.out), K0.tr HK.out hk'⟩
          case measure => simp [intOf]; omega
    · obtain rfl : k = L.length := by omega
      clear hkw
      go_wp2
      go_ret
      rw [idx_none (fun j h => HQ.out j h h)]
      exact ⟨rfl, HK.out⟩
end Go.Proofs.Ytlmajhkhlmkeiaa
