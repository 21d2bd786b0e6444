/-
  AssignIdle: a member more that wants nothing changes nothing of what the others get.
-/
import Derived.Test.YtncblldhfmabbaaAt
import Derived.Test.YtncblldhfmabbaaBc
namespace Go.Proofs.Ytncblldhfmabbaa
open Go.ChangeShapes Go.WideShapes Go.ChangeAt Go.RowKit Fx

theorem law6 : Law 6 := fun w sa ta sc tc subs tops hs ht => idle_any w sa ta sc tc subs tops hs ht
set_option maxRecDepth 100000 in
theorem idle_lifted (os : Os) (started : os.Started) (H : Type) (enc : TypeId × Value → H) :
    ReturnsInHanded {} Try.checked os 6 .any (Rows.assignIdleSpec.pre6 enc Try.prog Try.f6 Rows.assignIdleRow.domain false) (Rows.assignIdleSpec.post enc Try.prog Try.f6 false true false false) := by
  refine returnsInHanded_of_change (C := Try.checked) own started (by kernel_rfl) Try.func6
    (ChangeSpec.witness6 (enc := enc) (C := Try.checked) false ⟨#[], #[.slice none 0 0, .slice none 0 0], []⟩ 8 (by kernel_rfl) (by kernel_rfl) (by kernel_rfl) (by kernel_rfl)) ?_
  intro W base args ds gs before hval0 hW hcnd _
  have hval : ∀ (j : Nat) t v, Try.f6.params[j]? = some t → args[j]? = some v → Value.okWide Try.prog W .any base t v := hval0
  have hW' := hW
  obtain ⟨p, q, hA0, hV, rfl, hfz, hnd⟩ := hW
  have hA : DataW.TrodAll enc Try.prog W 0 (fun _ => true) true Try.f6.params.toList args.toList ds p := hA0
  rw [Try.params6] at hA hval
  obtain ⟨rfl, rfl⟩ := trodVars_none hV
  obtain ⟨⟨d1, d2, rfl⟩, hC⟩ := law_reads law6 hA hval
  clear hA0 hval0
  refine hC.mono fun e W' ⟨he, bel⟩ => ?_
  subst he
  exact ⟨_, rfl, _, _, _, [], _, [], hW', trodAll_mk1 (shut_bool Try.underlying4 _), by rw [Try.params6]; exact trodAll_below laidOut bel read2 hA, rfl, bel.frame _, fun h => by cases h⟩

theorem idle_over : Rows.assignIdleRow.holds Try.pinned (OpenSpec.ofChange Rows.assignIdleSpec) :=
  OpenClaim.holds_of_wide 6 Try.f6 rfl rfl rfl rfl rfl rfl rfl ⟨rfl, rfl, rfl, rfl, rfl⟩ rfl rfl rfl rfl rfl (by kernel_rfl) Try.func6 (by kernel_rfl)
    (of_decide_eq_true (by kernel_rfl)) (by unfold Func.isWrapper; first | (rw [if_pos (by decide +kernel)]; kernel_rfl) | (rw [if_neg (by decide +kernel)]; exact ⟨rfl, rfl⟩))
    (fun os started H enc _ => idle_lifted os started H enc)

/-- THE STATEMENT. -/
theorem idle_proved : Rows.AssignIdleSaid := idle_over
end Go.Proofs.Ytncblldhfmabbaa
