/-
  DiskSafe, the statement.
-/
import Derived.Test.YtjfblcmpdcbpgaaDk
namespace Go.Proofs.Ytjfblcmpdcbpgaa
open Go.ChangeShapes Go.WideShapes Go.ChangeAt Go.RowKit Fx
open Go.ChangeMaps (open_string shut_string)
theorem readArgs_safe : ∀ t ∈ ([9, 9, 22] : List TypeId), Try.prog.readableRec t = true ∧ t < Try.prog.types.size := by
  intro t ht
  simp only [List.mem_cons, List.not_mem_nil, or_false] at ht
  rcases ht with rfl | rfl | rfl
  · exact ⟨by kernel_rfl, of_decide_eq_true (by kernel_rfl)⟩
  · exact ⟨by kernel_rfl, of_decide_eq_true (by kernel_rfl)⟩
  · exact ⟨by kernel_rfl, of_decide_eq_true (by kernel_rfl)⟩
set_option maxRecDepth 100000 in
theorem safe_lifted (os : Os) (started : os.Started) (H : Type) (enc : TypeId × Value → H) :
    ReturnsInHanded {} Try.checked os 3 .any (Rows.diskSafeSpec.pre6 enc Try.prog Try.f3 Rows.diskSafeRow.domain false) (Rows.diskSafeSpec.post enc Try.prog Try.f3 false true false false) := by
  refine returnsInHanded_of_change (C := Try.checked) own started (by kernel_rfl) Try.func3
    (ChangeSpec.witness6 (enc := enc) (C := Try.checked) false ⟨#[], #[.string ⟨#[]⟩, .string ⟨#[]⟩, .slice none 0 0], []⟩ 8 (by kernel_rfl) (by kernel_rfl) (by kernel_rfl) (by kernel_rfl)) ?_
  intro W base args ds gs before hval0 hW hcnd _
  have hval : ∀ (j : Nat) t v, Try.f3.params[j]? = some t → args[j]? = some v → Value.okWide Try.prog W .any base t v := hval0
  have hW' := hW
  obtain ⟨p, q, hA0, hV, rfl, hfz, hnd⟩ := hW
  have hA : DataW.TrodAll enc Try.prog W 0 (fun _ => true) true Try.f3.params.toList args.toList ds p := hA0
  rw [Try.params3] at hA hval
  obtain ⟨rfl, rfl⟩ := trodVars_none hV
  have hA1 := hA
  obtain ⟨v0, vs0, d0, ds0, p0, q0, hargs, rfl, rfl, h0, r0⟩ := trodAll_cons hA
  obtain ⟨v1, vs1, d1, ds1, p1, q1, rfl, rfl, rfl, h1, r1⟩ := trodAll_cons r0
  obtain ⟨v2, vs2, d2, ds2, p2, q2, rfl, rfl, rfl, h2, r2⟩ := trodAll_cons r1
  obtain ⟨rfl, rfl, rfl⟩ := trodAll_nil r2
  obtain rfl : args = #[v0, v1, v2] := by cases args; simp_all
  obtain ⟨s0, rfl, rfl, rfl, hz0⟩ := open_string Try.underlying9 (hval 0 _ v0 rfl rfl) h0
  obtain ⟨s1, rfl, rfl, rfl, hz1⟩ := open_string Try.underlying9 (hval 1 _ v1 rfl rfl) h1
  obtain ⟨a2, len2, cap2, rfl⟩ := okWide_slice Try.underlying22 (hval 2 _ v2 rfl rfl)
  obtain ⟨fuel2, hf2⟩ := h2
  obtain ⟨l2, hl2⟩ := rSl_of (R := rInt) Try.underlying22 (n := 0) (by kernel_rfl) (fun fuel cs x h => rInt_of Try.underlying3 fuel cs x h) fuel2 _ _ hf2
  obtain ⟨rfl, sl2⟩ := hl2.slAt
  clear hA0 hval0
  refine (safe_any s0 s1 l2 a2 cap2 W (ints_of sl2) hz0 hz1).mono fun e W' hq => ?_
  obtain ⟨rfl, hk⟩ := hq
  have bel : Below W.heap.size W W' := K0.below hk
  exact ⟨_, rfl, _, _, _, [], _, [], hW', trodAll_mk1 (shut_bool Try.underlying4 _), by rw [Try.params3]; exact trodAll_below laidOut bel readArgs_safe hA1, rfl, bel.frame _, fun h => by cases h⟩

theorem safe_over : Rows.diskSafeRow.holds Try.pinned (OpenSpec.ofChange Rows.diskSafeSpec) :=
  OpenClaim.holds_of_wide 3 Try.f3 rfl rfl rfl rfl rfl rfl rfl ⟨rfl, rfl, rfl, rfl, rfl⟩ rfl rfl rfl rfl rfl (by kernel_rfl) Try.func3 (by kernel_rfl)
    (of_decide_eq_true (by kernel_rfl)) (by unfold Func.isWrapper; first | (rw [if_pos (by decide +kernel)]; kernel_rfl) | (rw [if_neg (by decide +kernel)]; exact ⟨rfl, rfl⟩))
    (fun os started H enc _ => safe_lifted os started H enc)

/-- THE STATEMENT. -/
theorem safe_proved : Rows.DiskSafeSaid := safe_over
end Go.Proofs.Ytjfblcmpdcbpgaa
