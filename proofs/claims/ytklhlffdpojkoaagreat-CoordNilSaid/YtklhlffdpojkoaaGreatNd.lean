/-
  CoordNil, the statement.
-/
import Derived.Test.YtklhlffdpojkoaaGreatNc
namespace Go.Proofs.YtklhlffdpojkoaaGreat
open Go.ChangeShapes Go.WideShapes Go.ChangeAt Go.RowKit Fx
open Go.ChangeMaps (open_string shut_string)
theorem readArgs_nil : ∀ t ∈ ([36] : List TypeId), Tryz.prog.readableRec t = true ∧ t < Tryz.prog.types.size := by
  intro t ht
  simp only [List.mem_cons, List.not_mem_nil, or_false] at ht
  rcases ht with rfl
  exact ⟨by kernel_rfl, of_decide_eq_true (by kernel_rfl)⟩
set_option maxRecDepth 100000 in
theorem nil_lifted (os : Os) (started : os.Started) (H : Type) (enc : TypeId × Value → H) :
    ReturnsInHanded {} Tryz.checked os 4 .any (Rows.coordNilSpec.pre6 enc Tryz.prog Tryz.f4 Rows.coordNilRow.domain false) (Rows.coordNilSpec.post enc Tryz.prog Tryz.f4 false true false false) := by
  refine returnsInHanded_of_change (C := Tryz.checked) own started (by kernel_rfl) Tryz.func4
    (ChangeSpec.witness6 (enc := enc) (C := Tryz.checked) false ⟨#[], #[.agg #[.int .i64 0, .string ⟨#[]⟩, .int .i64 0, .slice none 0 0, .int .i64 0, .slice none 0 0, .bool false, .string ⟨#[]⟩, .int .i64 0, .int .i64 0, .int .i64 0]], []⟩ 8 (by kernel_rfl) (by kernel_rfl) (by kernel_rfl) (by kernel_rfl)) ?_
  intro W base args ds gs before hval0 hW hcnd _
  have hval : ∀ (j : Nat) t v, Tryz.f4.params[j]? = some t → args[j]? = some v → Value.okWide Tryz.prog W .any base t v := hval0
  have hW' := hW
  obtain ⟨p, q, hA0, hV, rfl, hfz, hnd⟩ := hW
  have hA : DataW.TrodAll enc Tryz.prog W 0 (fun _ => true) true Tryz.f4.params.toList args.toList ds p := hA0
  rw [Tryz.params4] at hA hval
  obtain ⟨rfl, rfl⟩ := trodVars_none hV
  have hA1 := hA
  obtain ⟨v0, vs0, d0, ds0, p0, q0, hargs, rfl, rfl, h0, r0⟩ := trodAll_cons hA
  obtain ⟨rfl, rfl, rfl⟩ := trodAll_nil r0
  obtain rfl : args = #[v0] := by cases args; simp_all
  obtain ⟨cs0, rfl, _⟩ := okWide_struct Tryz.underlying36 (hval 0 _ v0 rfl rfl)
  obtain ⟨fuel0, hf0⟩ := h0
  obtain ⟨d, m, gn, pi, at_, now, s, pt, ta, tl, tc, pa, pl, pc, rd, ecs⟩ := op_of fuel0 _ _ hf0
  have ecs : cs0 = #[.int .i64 d, .string s, .int .i64 m, .slice ta tl tc, .int .i64 gn, .slice pa pl pc, .bool rd, .string pt, .int .i64 pi, .int .i64 at_, .int .i64 now] := by
    have e : cs0.toList = [.int .i64 d, .string s, .int .i64 m, .slice ta tl tc, .int .i64 gn, .slice pa pl pc, .bool rd, .string pt, .int .i64 pi, .int .i64 at_, .int .i64 now] := ecs
    cases cs0
    simp_all
  subst ecs
  clear hA0 hval0
  refine (cnil_any d m gn pi at_ now s pt ta tl tc pa pl pc rd W).mono fun e W' hq => ?_
  obtain ⟨rfl, hk⟩ := hq
  have bel : Below W.heap.size W W' := K0.below hk
  exact ⟨_, rfl, _, _, _, [], _, [], hW', trodAll_mk1 (shut_bool Tryz.underlying4 _), by rw [Tryz.params4]; exact trodAll_below laidOut bel readArgs_nil hA1, rfl, bel.frame _, fun h => by cases h⟩

theorem nil_over : Rows.coordNilRow.holds Tryz.pinned (OpenSpec.ofChange Rows.coordNilSpec) :=
  OpenClaim.holds_of_wide 4 Tryz.f4 rfl rfl rfl rfl rfl rfl rfl ⟨rfl, rfl, rfl, rfl, rfl⟩ rfl rfl rfl rfl rfl (by kernel_rfl) Tryz.func4 (by kernel_rfl)
    (of_decide_eq_true (by kernel_rfl)) (by unfold Func.isWrapper; first | (rw [if_pos (by decide +kernel)]; kernel_rfl) | (rw [if_neg (by decide +kernel)]; exact ⟨rfl, rfl⟩))
    (fun os started H enc _ => nil_lifted os started H enc)

/-- THE STATEMENT. -/
theorem nil_proved : Rows.CoordNilSaid := nil_over
end Go.Proofs.YtklhlffdpojkoaaGreat
