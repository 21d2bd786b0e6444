/-
  DiskScripts, the statement.
-/
import Derived.Test.YtjfblcmpdcbpgaaEs
namespace Go.Proofs.Ytjfblcmpdcbpgaa
open Go.ChangeShapes Go.WideShapes Go.ChangeAt Go.RowKit Fx
open Go.ChangeMaps (open_string shut_string)
theorem readArgs_scripts : ∀ t ∈ ([3, 44] : List TypeId), Try.prog.readableRec t = true ∧ t < Try.prog.types.size := by
  intro t ht
  simp only [List.mem_cons, List.not_mem_nil, or_false] at ht
  rcases ht with rfl | rfl
  · exact ⟨by kernel_rfl, of_decide_eq_true (by kernel_rfl)⟩
  · exact ⟨by kernel_rfl, of_decide_eq_true (by kernel_rfl)⟩
set_option maxRecDepth 100000 in
theorem scripts_lifted (os : Os) (started : os.Started) (H : Type) (enc : TypeId × Value → H) :
    ReturnsInHanded {} Try.checked os 7 .any (Rows.diskScriptsSpec.pre6 enc Try.prog Try.f7 Rows.diskScriptsRow.domain false) (Rows.diskScriptsSpec.post enc Try.prog Try.f7 false true false false) := by
  refine returnsInHanded_of_change (C := Try.checked) own started (by kernel_rfl) Try.func7
    (ChangeSpec.witness6 (enc := enc) (C := Try.checked) false ⟨#[], #[.int .i64 0, .slice none 0 0], []⟩ 8 (by kernel_rfl) (by kernel_rfl) (by kernel_rfl) (by kernel_rfl)) ?_
  intro W base args ds gs before hval0 hW hcnd _
  have hval : ∀ (j : Nat) t v, Try.f7.params[j]? = some t → args[j]? = some v → Value.okWide Try.prog W .any base t v := hval0
  have hW' := hW
  obtain ⟨p, q, hA0, hV, rfl, hfz, hnd⟩ := hW
  have hA : DataW.TrodAll enc Try.prog W 0 (fun _ => true) true Try.f7.params.toList args.toList ds p := hA0
  rw [Try.params7] at hA hval
  obtain ⟨rfl, rfl⟩ := trodVars_none hV
  have hA1 := hA
  obtain ⟨v0, vs0, d0, ds0, p0, q0, hargs, rfl, rfl, h0, r0⟩ := trodAll_cons hA
  obtain ⟨v1, vs1, d1, ds1, p1, q1, rfl, rfl, rfl, h1, r1⟩ := trodAll_cons r0
  obtain ⟨rfl, rfl, rfl⟩ := trodAll_nil r1
  obtain rfl : args = #[v0, v1] := by cases args; simp_all
  obtain ⟨a0, rfl⟩ := okWide_int Try.underlying3 (hval 0 _ v0 rfl rfl)
  obtain ⟨a1, len1, cap1, rfl⟩ := okWide_slice Try.underlying44 (hval 1 _ v1 rfl rfl)
  obtain ⟨fuel1, hf1⟩ := h1
  obtain ⟨l1, hl1⟩ := rSl_of (R := rOp) Try.underlying44 (n := 4) (by kernel_rfl) (fun fuel cs x h => op_of fuel cs x h) fuel1 _ _ hf1
  obtain ⟨rfl, sl1⟩ := hl1.slAt
  clear hA0 hval0
  refine (scripts_any W a0 a1 cap1 l1 sl1).mono fun e W' hq => ?_
  obtain ⟨rfl, hk⟩ := hq
  have bel : Below W.heap.size W W' := K0.below hk
  exact ⟨_, rfl, _, _, _, [], _, [], hW', trodAll_mk1 (shut_bool Try.underlying4 _), by rw [Try.params7]; exact trodAll_below laidOut bel readArgs_scripts hA1, rfl, bel.frame _, fun h => by cases h⟩

theorem scripts_over : Rows.diskScriptsRow.holds Try.pinned (OpenSpec.ofChange Rows.diskScriptsSpec) :=
  OpenClaim.holds_of_wide 7 Try.f7 rfl rfl rfl rfl rfl rfl rfl ⟨rfl, rfl, rfl, rfl, rfl⟩ rfl rfl rfl rfl rfl (by kernel_rfl) Try.func7 (by kernel_rfl)
    (of_decide_eq_true (by kernel_rfl)) (by unfold Func.isWrapper; first | (rw [if_pos (by decide +kernel)]; kernel_rfl) | (rw [if_neg (by decide +kernel)]; exact ⟨rfl, rfl⟩))
    (fun os started H enc _ => scripts_lifted os started H enc)

/-- THE STATEMENT. -/
theorem scripts_proved : Rows.DiskScriptsSaid := scripts_over
end Go.Proofs.Ytjfblcmpdcbpgaa
