/-
  How a walk of a law of this seat is lifted to its row; AssignOne, the statement.
-/
import Derived.Test.YtncblldhfmabbaaAs
import Derived.ProofKit
import Derived.OpenShut
import Derived.ShutString
import Derived.ChangeOld
namespace Go.Proofs.Ytncblldhfmabbaa
open Go.ChangeShapes Go.WideShapes Go.ChangeAt Go.RowKit Fx
open Go.ChangeMaps (open_string shut_string)
theorem own : ownKnob Try.prog.godebug = none := by kernel_rfl
theorem laidOut : laidOutB Try.prog = true := by kernel_rfl

/-- Arguments that were read read the same, where nothing of them has turned. -/
theorem trodAll_below {H : Type} {enc : TypeId × Value → H} {P : Program} (hl : laidOutB P = true) {W W' : World} (hb : Below W.heap.size W W') :
    ∀ {ts : List TypeId} {vs : List Value} {ds : List (DataW H)} {ps : List MemPlace}, (∀ t ∈ ts, P.readableRec t = true ∧ t < P.types.size) →
      DataW.TrodAll enc P W 0 (fun _ => true) true ts vs ds ps → DataW.TrodAll enc P W' 0 (fun b => decide (b < W.heap.size)) true ts vs ds ps
  | [], [], [], _, _, h => h
  | t :: ts, v :: vs, d :: ds, _, hr, ⟨p, q, h1, h2, e⟩ => by
    have lt0 : ∀ x ∈ p, x.block < W.heap.size := by obtain ⟨m, hm⟩ := h1; exact DataW.trod_lt m _ _ _ hm
    exact ⟨p, q, Below.trod hl (hr t (by simp)).1 (hr t (by simp)).2 h1 hb lt0, trodAll_below hl hb (fun t ht => hr t (by simp [ht])) h2, e⟩
  | [], [], _ :: _, _, _, h => h.elim
  | [], _ :: _, _, _, _, h => by cases h
  | _ :: _, [], _, _, _, h => by cases h
  | _ :: _, _ :: _, [], _, _, h => by cases h

theorem cells3 : Try.prog.cellsOf 3 = 1 := by kernel_rfl
theorem cells9 : Try.prog.cellsOf 9 = 1 := by kernel_rfl
theorem cells36 : Try.prog.cellsOf 36 = 2 := by kernel_rfl
theorem cells42 : Try.prog.cellsOf 42 = 1 := by kernel_rfl
theorem cells44 : Try.prog.cellsOf 44 = 2 := by kernel_rfl
theorem two {α : Type} (l : List α) (h : l.length = 2) : ∃ a b, l = [a, b] := by
  match l, h with
  | [a, b], _ => exact ⟨a, b, rfl⟩
theorem sub_of {H : Type} {enc : TypeId × Value → H} {w : World} {base : Nat} {spare : Nat → Bool} {held : Bool} (fuel : Nat) (cs : List Value) (x : DataW H × List MemPlace)
    (h : DataW.trod enc Try.prog w base spare held fuel 44 cs = some x) : ∃ y, rSub w cs y := by
  obtain ⟨y0, y1, n, _, hl, h0, h1⟩ := trod_struct2 Try.underlying44 h
  rw [cells44] at hl
  obtain ⟨v0, v1, rfl⟩ := two cs hl
  simp only [cells3, cells42] at h0 h1
  obtain ⟨a, e0, _, hwf⟩ := DataW.trod_int Try.underlying3 h0
  obtain ⟨l, a1, cap, e1, hs⟩ := rSl_of (R := rStr) Try.underlying42 (n := 0) (by kernel_rfl) (fun fuel cs x h => rStr_of Try.underlying9 fuel cs x h) n _ _ h1
  simp at e0 e1
  subst e0 e1
  exact ⟨⟨a, l⟩, a1, cap, rfl, hs, hwf⟩
theorem top_of {H : Type} {enc : TypeId × Value → H} {w : World} {base : Nat} {spare : Nat → Bool} {held : Bool} (fuel : Nat) (cs : List Value) (x : DataW H × List MemPlace)
    (h : DataW.trod enc Try.prog w base spare held fuel 36 cs = some x) : ∃ y, rTop w cs y := by
  obtain ⟨y0, y1, n, _, hl, h0, h1⟩ := trod_struct2 Try.underlying36 h
  rw [cells36] at hl
  obtain ⟨v0, v1, rfl⟩ := two cs hl
  simp only [cells3, cells9] at h0 h1
  obtain ⟨s, e0, _⟩ := DataW.trod_string Try.underlying9 h0
  obtain ⟨a, e1, _, hwf⟩ := DataW.trod_int Try.underlying3 h1
  simp at e0 e1
  subst e0 e1
  exact ⟨⟨s, a⟩, rfl, hwf⟩

theorem read22 : Try.prog.readableRec 22 = true ∧ 22 < Try.prog.types.size := ⟨by kernel_rfl, of_decide_eq_true (by kernel_rfl)⟩
theorem read23 : Try.prog.readableRec 23 = true ∧ 23 < Try.prog.types.size := ⟨by kernel_rfl, of_decide_eq_true (by kernel_rfl)⟩
/-- What the walk of a law shows. -/
def Law (F : Nat) : Prop := ∀ (w : World) (sa ta : Option Addr) (sc tc : Nat) (subs : List SubC) (tops : List TopC), SlAt 2 rSub w sa sc subs → SlAt 2 rTop w ta tc tops →
  Calls Try.prog F #[.slice sa subs.length sc, .slice ta tops.length tc] w fun e w' => Same w e (.bool true) w'
/-- What the lift of a law shows. -/
theorem read2 : ∀ t ∈ [22, 23], Try.prog.readableRec t = true ∧ t < Try.prog.types.size := by
  intro t ht
  simp at ht
  rcases ht with rfl | rfl
  · exact read22
  · exact read23
theorem law_reads {F : Nat} (hL : Law F) {H : Type} {enc : TypeId × Value → H} {W : World} {args : Array Value} {ds : List (DataW H)} {p : List MemPlace}
    (hA : DataW.TrodAll enc Try.prog W 0 (fun _ => true) true [22, 23] args.toList ds p)
    (hval : ∀ (j : Nat) t v, (#[22, 23] : Array TypeId)[j]? = some t → args[j]? = some v → Value.okWide Try.prog W .any 0 t v) :
    (∃ d1 d2, ds = [d1, d2]) ∧ Calls Try.prog F args W fun e W' => e = .returned (.bool true) ∧ Below W.heap.size W W' := by
  obtain ⟨v0, vs0, d0, ds0, p0, q0, hargs, rfl, rfl, h0, r0⟩ := trodAll_cons hA
  obtain ⟨v1, vs1, d1, ds1, p1, q1, rfl, rfl, rfl, h1, r1⟩ := trodAll_cons r0
  obtain ⟨rfl, rfl, rfl⟩ := trodAll_nil r1
  obtain rfl : args = #[v0, v1] := by cases args; simp_all
  obtain ⟨a0, len0, cap0, rfl⟩ := okWide_slice Try.underlying22 (hval 0 22 v0 rfl rfl)
  obtain ⟨a1, len1, cap1, rfl⟩ := okWide_slice Try.underlying23 (hval 1 23 v1 rfl rfl)
  obtain ⟨fuel0, hf0⟩ := h0
  obtain ⟨fuel1, hf1⟩ := h1
  obtain ⟨l0, hl0⟩ := Fx.rSl_of (R := rSub) Try.underlying22 (n := 1) (by kernel_rfl) sub_of fuel0 _ _ hf0
  obtain ⟨l1, hl1⟩ := Fx.rSl_of (R := rTop) Try.underlying23 (n := 1) (by kernel_rfl) top_of fuel1 _ _ hf1
  obtain ⟨rfl, s0⟩ := hl0.slAt
  obtain ⟨rfl, s1⟩ := hl1.slAt
  exact ⟨⟨_, _, rfl⟩, (hL W a0 a1 cap0 cap1 l0 l1 s0 s1).mono fun e w' ⟨h1, h2⟩ => ⟨h1, h2.below (Nat.le_refl _) (by simp)⟩⟩

theorem law3 : Law 3 := fun w sa ta sc tc subs tops hs ht => one_any w sa ta sc tc subs tops hs ht
set_option maxRecDepth 100000 in
theorem one_lifted (os : Os) (started : os.Started) (H : Type) (enc : TypeId × Value → H) :
    ReturnsInHanded {} Try.checked os 3 .any (Rows.assignOneSpec.pre6 enc Try.prog Try.f3 Rows.assignOneRow.domain false) (Rows.assignOneSpec.post enc Try.prog Try.f3 false true false false) := by
  refine returnsInHanded_of_change (C := Try.checked) own started (by kernel_rfl) Try.func3
    (ChangeSpec.witness6 (enc := enc) (C := Try.checked) false ⟨#[], #[.slice none 0 0, .slice none 0 0], []⟩ 8 (by kernel_rfl) (by kernel_rfl) (by kernel_rfl) (by kernel_rfl)) ?_
  intro W base args ds gs before hval0 hW hcnd _
  have hval : ∀ (j : Nat) t v, Try.f3.params[j]? = some t → args[j]? = some v → Value.okWide Try.prog W .any base t v := hval0
  have hW' := hW
  obtain ⟨p, q, hA0, hV, rfl, hfz, hnd⟩ := hW
  have hA : DataW.TrodAll enc Try.prog W 0 (fun _ => true) true Try.f3.params.toList args.toList ds p := hA0
  rw [Try.params3] at hA hval
  obtain ⟨rfl, rfl⟩ := trodVars_none hV
  obtain ⟨⟨d1, d2, rfl⟩, hC⟩ := law_reads law3 hA hval
  clear hA0 hval0
  refine hC.mono fun e W' ⟨he, bel⟩ => ?_
  subst he
  exact ⟨_, rfl, _, _, _, [], _, [], hW', trodAll_mk1 (shut_bool Try.underlying4 _), by rw [Try.params3]; exact trodAll_below laidOut bel read2 hA, rfl, bel.frame _, fun h => by cases h⟩

theorem one_over : Rows.assignOneRow.holds Try.pinned (OpenSpec.ofChange Rows.assignOneSpec) :=
  OpenClaim.holds_of_wide 3 Try.f3 rfl rfl rfl rfl rfl rfl rfl ⟨rfl, rfl, rfl, rfl, rfl⟩ rfl rfl rfl rfl rfl (by kernel_rfl) Try.func3 (by kernel_rfl)
    (of_decide_eq_true (by kernel_rfl)) (by unfold Func.isWrapper; first | (rw [if_pos (by decide +kernel)]; kernel_rfl) | (rw [if_neg (by decide +kernel)]; exact ⟨rfl, rfl⟩))
    (fun os started H enc _ => one_lifted os started H enc)

/-- THE STATEMENT. -/
theorem one_proved : Rows.AssignOneSaid := one_over
end Go.Proofs.Ytncblldhfmabbaa
