/-
  MemberSettles, the statement.
-/
import Derived.Test.YtlmajhkhlmkeiaaLc
import Derived.Test.YtlmajhkhlmkeiaaLf
import Derived.Lib.SmallJoins
namespace Go.Proofs.Ytlmajhkhlmkeiaa
open Go.ChangeShapes Go.WideShapes Go.ChangeAt Go.RowKit Fx
theorem cellsInt : Try.prog.cellsOf 3 = 1 := by kernel_rfl
theorem cellsBool : Try.prog.cellsOf 4 = 1 := by kernel_rfl
theorem cellsStr : Try.prog.cellsOf 9 = 1 := by kernel_rfl
theorem cellsTop : Try.prog.cellsOf 59 = 2 := by kernel_rfl
theorem cellsStrs : Try.prog.cellsOf 22 = 1 := by kernel_rfl
theorem cellsTops : Try.prog.cellsOf 23 = 1 := by kernel_rfl
theorem cellsMany : Try.prog.cellsOf 25 = 4 := by kernel_rfl
theorem two {α : Type} (l : List α) (h : l.length = 2) : ∃ a b, l = [a, b] := by
  match l, h with
  | [a, b], _ => exact ⟨a, b, rfl⟩
theorem four {α : Type} (l : List α) (h : l.length = 4) : ∃ a b c d, l = [a, b, c, d] := by
  match l, h with
  | [a, b, c, d], _ => exact ⟨a, b, c, d, rfl⟩
theorem top_of {H : Type} {enc : TypeId × Value → H} {w : World} {base : Nat} {spare : Nat → Bool} {held : Bool} (fuel : Nat) (cs : List Value) (x : DataW H × List MemPlace)
    (h : DataW.trod enc Try.prog w base spare held fuel 59 cs = some x) : ∃ y, rTop w cs y := by
  obtain ⟨y0, y1, n, _, hl, h0, h1⟩ := trod_struct2 Try.underlying59 h
  rw [cellsTop] at hl
  obtain ⟨v0, v1, rfl⟩ := two cs hl
  simp only [cellsInt, cellsStr] at h0 h1
  obtain ⟨s, e0, _⟩ := DataW.trod_string Try.underlying9 h0
  obtain ⟨a, e1, _, hwf⟩ := DataW.trod_int Try.underlying3 h1
  simp at e0 e1
  subst e0 e1
  exact ⟨⟨s, a⟩, rfl, hwf⟩
theorem many_of {H : Type} {enc : TypeId × Value → H} {w : World} {base : Nat} {spare : Nat → Bool} {held : Bool} (fuel : Nat) (cs : List Value) (x : DataW H × List MemPlace)
    (h : DataW.trod enc Try.prog w base spare held fuel 25 cs = some x) :
    ∃ (n : Int) (ta : Option Addr) (tc : Nat) (tp : List ByteArray) (pa : Option Addr) (pc : Nat) (tops : List TopC) (rd : Bool), cs = [.int .i64 n, .slice ta tp.length tc, .slice pa tops.length pc, .bool rd] ∧ SlAt 1 rStr w ta tc tp ∧ SlAt 2 rTop w pa pc tops := by
  obtain ⟨y0, y1, y2, y3, n, _, hl, h0, h1, h2, h3⟩ := Go.Joins.trod_struct4 Try.underlying25 h
  rw [cellsMany] at hl
  obtain ⟨v0, v1, v2, v3, rfl⟩ := four cs hl
  simp only [cellsInt, cellsStrs, cellsTops, cellsBool] at h0 h1 h2 h3
  obtain ⟨a, e0, _, _⟩ := DataW.trod_int Try.underlying3 h0
  obtain ⟨tp, ta, tc, e1, hs1⟩ := rSl_of (R := rStr) Try.underlying22 (n := 0) (by kernel_rfl) (fun fuel cs x h => rStr_of Try.underlying9 fuel cs x h) n _ _ h1
  obtain ⟨tops, pa, pc, e2, hs2⟩ := rSl_of (R := rTop) Try.underlying23 (n := 1) (by kernel_rfl) (fun fuel cs x h => top_of fuel cs x h) n _ _ h2
  obtain ⟨rd, e3, _⟩ := DataW.trod_bool Try.underlying4 h3
  simp at e0 e1 e2 e3
  subst e0 e1 e2 e3
  exact ⟨a, ta, tc, tp, pa, pc, tops, rd, rfl, hs1, hs2⟩
theorem out_of {α : Type} {n : Nat} {R : Rdr α} (hn : 0 < n) {w : World} {a : Option Addr} {c : Nat} {l : List α} (h : SlAt n R w a c l) : Out n R w (fun _ => True) (.slice a l.length c) l := by
  refine ⟨a, c, rfl, h, fun x e hne => ⟨?_, trivial⟩⟩
  obtain ⟨b, off, e2, hr⟩ := h.2.2 hne
  rw [e] at e2
  cases e2
  obtain ⟨cs, h1, h2, _⟩ := hr 0 (List.length_pos_iff.2 hne)
  have h3 := h2 0 hn
  rw [List.getElem?_eq_getElem (by omega)] at h3
  exact cell_block1 h3
theorem readMany : Try.prog.readableRec 25 = true ∧ 25 < Try.prog.types.size := ⟨by kernel_rfl, of_decide_eq_true (by kernel_rfl)⟩
set_option maxRecDepth 100000 in
theorem settles_lifted (os : Os) (started : os.Started) (H : Type) (enc : TypeId × Value → H) :
    ReturnsInHanded {} Try.checked os 3 .any (Rows.memberSettlesSpec.pre6 enc Try.prog Try.f3 Rows.memberSettlesRow.domain false) (Rows.memberSettlesSpec.post enc Try.prog Try.f3 false true false false) := by
  refine returnsInHanded_of_change (C := Try.checked) own started (by kernel_rfl) Try.func3
    (ChangeSpec.witness6 (enc := enc) (C := Try.checked) false ⟨#[], #[.agg #[.int .i64 0, .slice none 0 0, .slice none 0 0, .bool false]], []⟩ 8 (by kernel_rfl) (by kernel_rfl) (by kernel_rfl) (by kernel_rfl)) ?_
  intro W base args ds gs before hval0 hW hcnd _
  have hval : ∀ (j : Nat) t v, Try.f3.params[j]? = some t → args[j]? = some v → Value.okWide Try.prog W .any base t v := hval0
  have hW' := hW
  obtain ⟨p, q, hA0, hV, rfl, hfz, hnd⟩ := hW
  have hA : DataW.TrodAll enc Try.prog W 0 (fun _ => true) true Try.f3.params.toList args.toList ds p := hA0
  rw [Try.params3] at hA hval
  obtain ⟨rfl, rfl⟩ := trodVars_none hV
  have hA1 := hA
  obtain ⟨v0, vs0, d0, ds0, p0, q0, hargs, rfl, rfl, h0, r0⟩ := trodAll_cons hA
  obtain ⟨rfl, rfl, rfl⟩ := trodAll_nil r0
  obtain rfl : args = #[v0] := by cases args; simp_all
  obtain ⟨cs, rfl, _⟩ := okWide_struct Try.underlying25 (hval 0 _ v0 rfl rfl)
  obtain ⟨fuel0, hf0⟩ := h0
  obtain ⟨n, ta, tc, tp, pa, pc, tops, rd, ecs, s1, s2⟩ := many_of fuel0 _ _ hf0
  have ecs : cs = #[.int .i64 n, .slice ta tp.length tc, .slice pa tops.length pc, .bool rd] := by
    have e : cs.toList = [.int .i64 n, .slice ta tp.length tc, .slice pa tops.length pc, .bool rd] := ecs
    cases cs
    simp_all
  subst ecs
  clear hA0 hval0
  refine (settles_any W n ta tc tp pa pc tops rd (out_of (by omega) s1) (out_of (by omega) s2)).mono fun e W' hq => ?_
  obtain ⟨rfl, hk⟩ := hq
  have bel : Below W.heap.size W W' := K0.below hk
  exact ⟨_, rfl, _, _, _, [], _, [], hW', trodAll_mk1 (shut_bool Try.underlying4 _), by rw [Try.params3]; exact trodAll_below laidOut bel (fun t ht => by simp at ht; subst ht; exact readMany) hA1, rfl, bel.frame _, fun h => by cases h⟩

theorem settles_over : Rows.memberSettlesRow.holds Try.pinned (OpenSpec.ofChange Rows.memberSettlesSpec) :=
  OpenClaim.holds_of_wide 3 Try.f3 rfl rfl rfl rfl rfl rfl rfl ⟨rfl, rfl, rfl, rfl, rfl⟩ rfl rfl rfl rfl rfl (by kernel_rfl) Try.func3 (by kernel_rfl)
    (of_decide_eq_true (by kernel_rfl)) (by unfold Func.isWrapper; first | (rw [if_pos (by decide +kernel)]; kernel_rfl) | (rw [if_neg (by decide +kernel)]; exact ⟨rfl, rfl⟩))
    (fun os started H enc _ => settles_lifted os started H enc)

/-- THE STATEMENT. -/
theorem settles_proved : Rows.MemberSettlesSaid := settles_over
end Go.Proofs.Ytlmajhkhlmkeiaa
