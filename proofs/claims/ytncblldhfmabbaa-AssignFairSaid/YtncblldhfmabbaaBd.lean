/-
  AssignFair: in rows no two takers of a topic differ by more than one of its partitions; one by one, where all want all, no two members differ by more than one.
-/
import Derived.Test.YtncblldhfmabbaaAt
import Derived.Test.YtncblldhfmabbaaBa
namespace Go.Proofs.Ytncblldhfmabbaa
open Go.ChangeShapes Go.WideShapes Go.ChangeAt Go.RowKit Fx

theorem law5 : Law 5 := fun w sa ta sc tc subs tops hs ht => fair_any w sa ta sc tc subs tops hs ht
set_option maxRecDepth 100000 in
theorem fair_lifted (os : Os) (started : os.Started) (H : Type) (enc : TypeId × Value → H) :
    ReturnsInHanded {} Try.checked os 5 .any (Rows.assignFairSpec.pre6 enc Try.prog Try.f5 Rows.assignFairRow.domain false) (Rows.assignFairSpec.post enc Try.prog Try.f5 false true false false) := by
  refine returnsInHanded_of_change (C := Try.checked) own started (by kernel_rfl) Try.func5
    (ChangeSpec.witness6 (enc := enc) (C := Try.checked) false ⟨#[], #[.slice none 0 0, .slice none 0 0], []⟩ 8 (by kernel_rfl) (by kernel_rfl) (by kernel_rfl) (by kernel_rfl)) ?_
  intro W base args ds gs before hval0 hW hcnd _
  have hval : ∀ (j : Nat) t v, Try.f5.params[j]? = some t → args[j]? = some v → Value.okWide Try.prog W .any base t v := hval0
  have hW' := hW
  obtain ⟨p, q, hA0, hV, rfl, hfz, hnd⟩ := hW
  have hA : DataW.TrodAll enc Try.prog W 0 (fun _ => true) true Try.f5.params.toList args.toList ds p := hA0
  rw [Try.params5] at hA hval
  obtain ⟨rfl, rfl⟩ := trodVars_none hV
  obtain ⟨⟨d1, d2, rfl⟩, hC⟩ := law_reads law5 hA hval
  clear hA0 hval0
  refine hC.mono fun e W' ⟨he, bel⟩ => ?_
  subst he
  exact ⟨_, rfl, _, _, _, [], _, [], hW', trodAll_mk1 (shut_bool Try.underlying4 _), by rw [Try.params5]; exact trodAll_below laidOut bel read2 hA, rfl, bel.frame _, fun h => by cases h⟩

theorem fair_over : Rows.assignFairRow.holds Try.pinned (OpenSpec.ofChange Rows.assignFairSpec) :=
  OpenClaim.holds_of_wide 5 Try.f5 rfl rfl rfl rfl rfl rfl rfl ⟨rfl, rfl, rfl, rfl, rfl⟩ rfl rfl rfl rfl rfl (by kernel_rfl) Try.func5 (by kernel_rfl)
    (of_decide_eq_true (by kernel_rfl)) (by unfold Func.isWrapper; first | (rw [if_pos (by decide +kernel)]; kernel_rfl) | (rw [if_neg (by decide +kernel)]; exact ⟨rfl, rfl⟩))
    (fun os started H enc _ => fair_lifted os started H enc)

/-- THE STATEMENT. -/
theorem fair_proved : Rows.AssignFairSaid := fair_over
end Go.Proofs.Ytncblldhfmabbaa
