/-
  Members let go of (slices.DeleteFunc).
-/
import Derived.Test.YtlmajhkhlmkeiaaGe
namespace Go.Proofs.Ytlmajhkhlmkeiaa
open Go.RowKit Go.Shelf Fx

theorem modify_const {α : Type} (l : List α) (i : Nat) (y : α) : l.modify i (fun _ => y) = l.set i y := by
  apply List.ext_getElem
  · simp
  · intro k h1 h2
    rw [List.getElem_modify, List.getElem_set]
theorem put_cells {C : List OneV} {i : Nat} (hi : i < C.length) (x : OneV) :
    (((((C.flatMap oneEnc).set (i * 5) (.int .i64 x.member)).set (i * 5 + 1) x.tv).set (i * 5 + 2) (.int .i64 x.til)).set (i * 5 + 3) (.bool x.joined)).set (i * 5 + 4) x.pv = (C.set i x).flatMap oneEnc := by
  have e0 := flat_set' oneEnc 5 oneEnc_len (fun y => { y with member := x.member }) 0 (.int .i64 x.member) (by omega) (fun _ => rfl) C i hi
  rw [Nat.add_zero] at e0
  rw [e0]
  rw [flat_set' oneEnc 5 oneEnc_len (fun y => { y with tv := x.tv, topics := x.topics }) 1 x.tv (by omega) (fun _ => rfl) _ _ (by simpa using hi)]
  rw [flat_set' oneEnc 5 oneEnc_len (fun y => { y with til := x.til }) 2 (.int .i64 x.til) (by omega) (fun _ => rfl) _ _ (by simpa using hi)]
  rw [flat_set' oneEnc 5 oneEnc_len (fun y => { y with joined := x.joined }) 3 (.bool x.joined) (by omega) (fun _ => rfl) _ _ (by simpa using hi)]
  rw [flat_set' oneEnc 5 oneEnc_len (fun y => { y with pv := x.pv, parts := x.parts }) 4 x.pv (by omega) (fun _ => rfl) _ _ (by simpa using hi)]
  rw [List.modify_modify_eq, List.modify_modify_eq, List.modify_modify_eq, List.modify_modify_eq, ← modify_const]
  rfl
/-- A shorter row in the same block. -/
theorem own_cut {w : World} {base : Nat} {e : TypeId} {size r n cap i : Nat} {xs : List Value} (h : w.ownsRow base e size (.slice (some ⟨r, 0, none⟩) n cap) n xs) (hi : i ≤ n) :
    w.ownsRow base e size (.slice (some ⟨r, 0, none⟩) i cap) i (xs.take (i * size)) := by
  have hle : i * size ≤ n * size := Nat.mul_le_mul_right _ hi
  refine ⟨by rw [List.length_take, h.1]; omega, ?_⟩
  rcases h.2 with ⟨e1, _⟩ | ⟨g, cap', cur, e1, hb, hg, hc, hm, hs, ht⟩
  · cases e1
  · simp only [Value.slice.injEq, Option.some.injEq, Addr.mk.injEq] at e1
    obtain ⟨⟨rfl, _⟩, _, rfl⟩ := e1
    refine .inr ⟨r, cap, cur, rfl, hb, hg, Nat.le_trans hi hc, hm, hs, ?_⟩
    rw [← ht, List.take_take, Nat.min_eq_left hle]
theorem own_tail {base : Nat} {e : TypeId} {size r n cap : Nat} {xs : List Value} : ∀ (Z : List Value) (o : Nat) (w : World), w.ownsRow base e size (.slice (some ⟨r, 0, none⟩) n cap) n xs → n * size ≤ o → (w.setCells r o Z).ownsRow base e size (.slice (some ⟨r, 0, none⟩) n cap) n xs
  | [], _, _, h, _ => h
  | u :: Z, o, w, h, ho => by
    have h1 := (h.stored o u).1
    rw [List.set_eq_of_length_le (by rw [h.1]; exact ho)] at h1
    exact own_tail Z (o + 1) _ h1 (by omega)
theorem keeps_tail {S : Nat → Prop} {r : Nat} (hr : S r) : ∀ (Z : List Value) (o : Nat) (w w1 : World), Keeps S w w1 → Keeps S w (w1.setCells r o Z)
  | [], _, _, _, h => h
  | u :: Z, o, w, w1, h => keeps_tail hr Z (o + 1) w _ (h.setC _ _ (fun _ => hr))
theorem zeroOne (w : World) : (zeroValue 43).run Try.prog w = .ok (.agg #[.int .i64 0, .slice none 0 0, .int .i64 0, .bool false, .slice none 0 0]) w := by
  obtain ⟨i, hi, hz, _⟩ := info_parts infoOne
  simp [zeroValue, typeInfo, hi, hz]
/-- What clearing the rest of a row comes to. -/
theorem clear_ones {w : World} {r n cap i : Nat} {xs : List Value} (h : w.ownsRow 0 43 5 (.slice (some ⟨r, 0, none⟩) n cap) n xs) (hi : i < n) (m c : Nat) (hm : i + m = n) :
    ∃ Z : List Value, ∀ ty, (Builtin.clear_ #[33] ty #[.slice (some ⟨r, i * 5, none⟩) m c]).run Try.prog w = .ok (.tuple #[]) (w.setCells r (i * 5) Z) := by
  refine ⟨(Builtin.zeroCells (Value.cells (.agg #[.int .i64 0, .slice none 0 0, .int .i64 0, .bool false, .slice none 0 0])) m).toList, fun ty => ?_⟩
  have hl : (Builtin.zeroCells (Value.cells (.agg #[.int .i64 0, .slice none 0 0, .int .i64 0, .bool false, .slice none 0 0])) m).toList.length = m * 5 := by simp [Builtin.zeroCells, Value.cells]
  have h1 : ∀ u ∈ (Builtin.zeroCells (Value.cells (.agg #[.int .i64 0, .slice none 0 0, .int .i64 0, .bool false, .slice none 0 0])) m).toList, u.oneCell' = true := by
    intro u hu
    simp only [Builtin.zeroCells, Value.cells, Array.toList_map, List.mem_map] at hu
    obtain ⟨j, _, rfl⟩ := hu
    have h5 : j % 5 = 0 ∨ j % 5 = 1 ∨ j % 5 = 2 ∨ j % 5 = 3 ∨ j % 5 = 4 := by omega
    show (#[Value.int .i64 0, .slice none 0 0, .int .i64 0, .bool false, .slice none 0 0][j % 5]!).oneCell' = true
    rcases h5 with h5 | h5 | h5 | h5 | h5 <;> rw [h5] <;> rfl
  have hst := run_storeCells_cells (P := Try.prog) r (i * 5) _ 0 w (fun j hj => by
    rw [hl] at hj
    rw [Nat.add_zero, h.cellAt (i * 5 + j) (by omega), List.getElem?_eq_getElem (by rw [h.1]; omega)]
    rfl) (fun j _ => h.frozenAt _) h1
  rw [Nat.add_zero] at hst
  obtain ⟨m', rfl⟩ : ∃ m', m = m' + 1 := ⟨m - 1, by omega⟩
  simp only [Value.cells] at hst
  simp [Builtin.clear_, run_underlying Try.underlying33, zeroOne, Value.cells, hst]
end Go.Proofs.Ytlmajhkhlmkeiaa
