/-
  MemberNil, the statement.
-/
import Derived.Test.YtlmajhkhlmkeiaaLh
import Derived.Test.YtlmajhkhlmkeiaaLi
namespace Go.Proofs.Ytlmajhkhlmkeiaa
open Go.ChangeShapes Go.WideShapes Go.ChangeAt Go.RowKit Fx
theorem cellsOp : Try.prog.cellsOf 48 = 7 := by kernel_rfl
theorem seven {α : Type} (l : List α) (h : l.length = 7) : ∃ a b c d e f g, l = [a, b, c, d, e, f, g] := by
  match l, h with
  | [a, b, c, d, e, f, g], _ => exact ⟨a, b, c, d, e, f, g, rfl⟩
theorem op_of {H : Type} {enc : TypeId × Value → H} {w : World} {base : Nat} {spare : Nat → Bool} {held : Bool} (fuel : Nat) (cs : List Value) (x : DataW H × List MemPlace)
    (h : DataW.trod enc Try.prog w base spare held fuel 48 cs = some x) :
    ∃ (d m : Int) (ta : Option Addr) (tl tc : Nat) (gn : Int) (pa : Option Addr) (pl pc : Nat) (rd : Bool) (now : Int), cs = [.int .i64 d, .int .i64 m, .slice ta tl tc, .int .i64 gn, .slice pa pl pc, .bool rd, .int .i64 now] := by
  obtain ⟨xs, n, _, rfl, hl, hlen, hf⟩ := DataW.trod_struct Try.underlying48 h
  rw [cellsOp] at hl
  obtain ⟨v0, v1, v2, v3, v4, v5, v6, rfl⟩ := seven cs hl
  obtain ⟨y0, y1, y2, y3, y4, y5, y6, rfl⟩ := seven xs hlen
  have h0 : DataW.trod enc Try.prog w base spare held n 3 (([v0, v1, v2, v3, v4, v5, v6].drop 0).take (Try.prog.cellsOf 3)) = some y0 := hf 0 _ rfl
  have h1 : DataW.trod enc Try.prog w base spare held n 3 (([v0, v1, v2, v3, v4, v5, v6].drop 1).take (Try.prog.cellsOf 3)) = some y1 := hf 1 _ rfl
  have h2 : DataW.trod enc Try.prog w base spare held n 22 (([v0, v1, v2, v3, v4, v5, v6].drop 2).take (Try.prog.cellsOf 22)) = some y2 := hf 2 _ rfl
  have h3 : DataW.trod enc Try.prog w base spare held n 3 (([v0, v1, v2, v3, v4, v5, v6].drop 3).take (Try.prog.cellsOf 3)) = some y3 := hf 3 _ rfl
  have h4 : DataW.trod enc Try.prog w base spare held n 23 (([v0, v1, v2, v3, v4, v5, v6].drop 4).take (Try.prog.cellsOf 23)) = some y4 := hf 4 _ rfl
  have h5 : DataW.trod enc Try.prog w base spare held n 4 (([v0, v1, v2, v3, v4, v5, v6].drop 5).take (Try.prog.cellsOf 4)) = some y5 := hf 5 _ rfl
  have h6 : DataW.trod enc Try.prog w base spare held n 3 (([v0, v1, v2, v3, v4, v5, v6].drop 6).take (Try.prog.cellsOf 3)) = some y6 := hf 6 _ rfl
  simp only [cellsInt, cellsStrs, cellsTops, cellsBool] at h0 h1 h2 h3 h4 h5 h6
  obtain ⟨d, e0, _, _⟩ := DataW.trod_int Try.underlying3 h0
  obtain ⟨m, e1, _, _⟩ := DataW.trod_int Try.underlying3 h1
  obtain ⟨ta, tl, tc, e2⟩ := Go.Joins.slice_form Try.underlying22 h2
  obtain ⟨gn, e3, _, _⟩ := DataW.trod_int Try.underlying3 h3
  obtain ⟨pa, pl, pc, e4⟩ := Go.Joins.slice_form Try.underlying23 h4
  obtain ⟨rd, e5, _⟩ := DataW.trod_bool Try.underlying4 h5
  obtain ⟨now, e6, _, _⟩ := DataW.trod_int Try.underlying3 h6
  simp at e0 e1 e2 e3 e4 e5 e6
  exact ⟨d, m, ta, tl, tc, gn, pa, pl, pc, rd, now, by rw [e0, e1, e2, e3, e4, e5, e6]⟩
theorem readOp : Try.prog.readableRec 48 = true ∧ 48 < Try.prog.types.size := ⟨by kernel_rfl, of_decide_eq_true (by kernel_rfl)⟩
set_option maxRecDepth 100000 in
theorem nil_lifted (os : Os) (started : os.Started) (H : Type) (enc : TypeId × Value → H) :
    ReturnsInHanded {} Try.checked os 6 .any (Rows.memberNilSpec.pre6 enc Try.prog Try.f6 Rows.memberNilRow.domain false) (Rows.memberNilSpec.post enc Try.prog Try.f6 false true false false) := by
  refine returnsInHanded_of_change (C := Try.checked) own started (by kernel_rfl) Try.func6
    (ChangeSpec.witness6 (enc := enc) (C := Try.checked) false ⟨#[], #[.agg #[.int .i64 0, .int .i64 0, .slice none 0 0, .int .i64 0, .slice none 0 0, .bool false, .int .i64 0]], []⟩ 8 (by kernel_rfl) (by kernel_rfl) (by kernel_rfl) (by kernel_rfl)) ?_
  intro W base args ds gs before hval0 hW hcnd _
  have hval : ∀ (j : Nat) t v, Try.f6.params[j]? = some t → args[j]? = some v → Value.okWide Try.prog W .any base t v := hval0
  have hW' := hW
  obtain ⟨p, q, hA0, hV, rfl, hfz, hnd⟩ := hW
  have hA : DataW.TrodAll enc Try.prog W 0 (fun _ => true) true Try.f6.params.toList args.toList ds p := hA0
  rw [Try.params6] at hA hval
  obtain ⟨rfl, rfl⟩ := trodVars_none hV
  have hA1 := hA
  obtain ⟨v0, vs0, d0, ds0, p0, q0, hargs, rfl, rfl, h0, r0⟩ := trodAll_cons hA
  obtain ⟨rfl, rfl, rfl⟩ := trodAll_nil r0
  obtain rfl : args = #[v0] := by cases args; simp_all
  obtain ⟨cs, rfl, _⟩ := okWide_struct Try.underlying48 (hval 0 _ v0 rfl rfl)
  obtain ⟨fuel0, hf0⟩ := h0
  obtain ⟨d, m, ta, tl, tc, gn, pa, pl, pc, rd, now, ecs⟩ := op_of fuel0 _ _ hf0
  have ecs : cs = #[.int .i64 d, .int .i64 m, .slice ta tl tc, .int .i64 gn, .slice pa pl pc, .bool rd, .int .i64 now] := by
    have e : cs.toList = [.int .i64 d, .int .i64 m, .slice ta tl tc, .int .i64 gn, .slice pa pl pc, .bool rd, .int .i64 now] := ecs
    cases cs
    simp_all
  subst ecs
  clear hA0 hval0
  refine (nil_any W d m gn now ta tl tc pa pl pc rd).mono fun e W' hq => ?_
  obtain ⟨rfl, hk⟩ := hq
  have bel : Below W.heap.size W W' := K0.below hk
  exact ⟨_, rfl, _, _, _, [], _, [], hW', trodAll_mk1 (shut_bool Try.underlying4 _), by rw [Try.params6]; exact trodAll_below laidOut bel (fun t ht => by simp at ht; subst ht; exact readOp) hA1, rfl, bel.frame _, fun h => by cases h⟩

theorem nil_over : Rows.memberNilRow.holds Try.pinned (OpenSpec.ofChange Rows.memberNilSpec) :=
  OpenClaim.holds_of_wide 6 Try.f6 rfl rfl rfl rfl rfl rfl rfl ⟨rfl, rfl, rfl, rfl, rfl⟩ rfl rfl rfl rfl rfl (by kernel_rfl) Try.func6 (by kernel_rfl)
    (of_decide_eq_true (by kernel_rfl)) (by unfold Func.isWrapper; first | (rw [if_pos (by decide +kernel)]; kernel_rfl) | (rw [if_neg (by decide +kernel)]; exact ⟨rfl, rfl⟩))
    (fun os started H enc _ => nil_lifted os started H enc)

/-- THE STATEMENT. -/
theorem nil_proved : Rows.MemberNilSaid := nil_over
end Go.Proofs.Ytlmajhkhlmkeiaa
