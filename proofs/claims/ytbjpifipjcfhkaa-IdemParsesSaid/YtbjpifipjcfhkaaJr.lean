/-
  IdemParses, the statement.
-/
import Derived.Test.YtbjpifipjcfhkaaJo
namespace Go.Proofs.Ytbjpifipjcfhkaa
open Go.ChangeShapes Go.WideShapes Go.ChangeAt Go.RowKit Fx
open Go.ChangeMaps (open_string shut_string)
theorem readArgs_parses : ∀ t ∈ ([9] : List TypeId), Try.prog.readableRec t = true ∧ t < Try.prog.types.size := by
  intro t ht
  simp only [List.mem_cons, List.not_mem_nil, or_false] at ht
  rcases ht with rfl
  exact ⟨by kernel_rfl, of_decide_eq_true (by kernel_rfl)⟩
set_option maxRecDepth 100000 in
theorem parses_lifted (os : Os) (started : os.Started) (H : Type) (enc : TypeId × Value → H) :
    ReturnsInHanded {} Try.checked os 4 .any (Rows.idemParsesSpec.pre6 enc Try.prog Try.f4 Rows.idemParsesRow.domain false) (Rows.idemParsesSpec.post enc Try.prog Try.f4 false true false false) := by
  refine returnsInHanded_of_change (C := Try.checked) own started (by kernel_rfl) Try.func4
    (ChangeSpec.witness6 (enc := enc) (C := Try.checked) false ⟨#[], #[.string ⟨#[]⟩], []⟩ 8 (by kernel_rfl) (by kernel_rfl) (by kernel_rfl) (by kernel_rfl)) ?_
  intro W base args ds gs before hval0 hW hcnd _
  have hval : ∀ (j : Nat) t v, Try.f4.params[j]? = some t → args[j]? = some v → Value.okWide Try.prog W .any base t v := hval0
  have hW' := hW
  obtain ⟨p, q, hA0, hV, rfl, hfz, hnd⟩ := hW
  have hA : DataW.TrodAll enc Try.prog W 0 (fun _ => true) true Try.f4.params.toList args.toList ds p := hA0
  rw [Try.params4] at hA hval
  obtain ⟨rfl, rfl⟩ := trodVars_none hV
  have hA1 := hA
  obtain ⟨v0, vs0, d0, ds0, p0, q0, hargs, rfl, rfl, h0, r0⟩ := trodAll_cons hA
  obtain ⟨rfl, rfl, rfl⟩ := trodAll_nil r0
  obtain rfl : args = #[v0] := by cases args; simp_all
  obtain ⟨s0, rfl, rfl, rfl, hz0⟩ := open_string Try.underlying9 (hval 0 _ v0 rfl rfl) h0
  clear hA0 hval0
  refine (parses_any s0 W (by have h9 := hz0; unfold maxLen at h9; omega)).mono fun e W' hq => ?_
  obtain ⟨rfl, hk⟩ := hq
  have bel : Below W.heap.size W W' := K0.below hk
  exact ⟨_, rfl, _, _, _, [], _, [], hW', trodAll_mk1 (shut_bool Try.underlying4 _), by rw [Try.params4]; exact trodAll_below laidOut bel readArgs_parses hA1, rfl, bel.frame _, fun h => by cases h⟩

theorem parses_over : Rows.idemParsesRow.holds Try.pinned (OpenSpec.ofChange Rows.idemParsesSpec) :=
  OpenClaim.holds_of_wide 4 Try.f4 rfl rfl rfl rfl rfl rfl rfl ⟨rfl, rfl, rfl, rfl, rfl⟩ rfl rfl rfl rfl rfl (by kernel_rfl) Try.func4 (by kernel_rfl)
    (of_decide_eq_true (by kernel_rfl)) (by unfold Func.isWrapper; first | (rw [if_pos (by decide +kernel)]; kernel_rfl) | (rw [if_neg (by decide +kernel)]; exact ⟨rfl, rfl⟩))
    (fun os started H enc _ => parses_lifted os started H enc)

/-- THE STATEMENT. -/
theorem parses_proved : Rows.IdemParsesSaid := parses_over
end Go.Proofs.Ytbjpifipjcfhkaa
