/-
  A coordinator's names in order: the iterator, for every body that turns at most its own box and that box's row.
-/
import Derived.RangeFuncNested
import Derived.RangeFuncBound
import Derived.RangeFuncCalls
import Derived.RangeFuncLeaves
import Derived.Shelf.Abstract
import Derived.Shelf.RegionOpen
import Derived.WalkKit
import Derived.OwnWalkIn
import Derived.TacticsInMore
import Derived.LoopNIn
import Derived.LoopIn
import Derived.Maps.OwnIn
import Derived.Maps.AppendAt
import Derived.Test.YtklhlffdpojkoaaPa
import Derived.Test.YtklhlffdpojkoaaCd
namespace Go.Proofs.Ytklhlffdpojkoaa
open Go.RowKit Go.Shelf Fx
attribute [local go_sem] Oper.semAt_some

/-- A round keeps all cells but the box and the box's row; what lies below n0 it keeps whole. -/
def Kq (n0 Bx : Nat) (W W' : World) : Prop :=
  Below n0 W W' ∧ ∀ v, W.cell? ⟨Bx, 0, none⟩ = some v → ∃ v', W'.cell? ⟨Bx, 0, none⟩ = some v' ∧
    (∀ k cs t f, W.heap[k]? = some (.cells cs t f) → k ≠ Bx → some k ≠ v.ownBlock → W'.heap[k]? = W.heap[k]?) ∧ (∀ k, v'.ownBlock = some k → v.ownBlock = some k ∨ W.heap.size ≤ k)
theorem Kq.t {n0 Bx : Nat} {A B C : World} (h : Kq n0 Bx A B) (g : Kq n0 Bx B C) : Kq n0 Bx A C := by
  refine ⟨h.1.trans g.1, fun v hv => ?_⟩
  obtain ⟨v1, c1, k1, r1⟩ := h.2 v hv
  obtain ⟨v2, c2, k2, r2⟩ := g.2 v1 c1
  refine ⟨v2, c2, fun k cs t f hk hne hno => ?_, fun k hk => ?_⟩
  · have e1 := k1 k cs t f hk hne hno
    refine (k2 k cs t f (e1.trans hk) hne (fun e => ?_)).trans e1
    rcases r1 k e.symm with e2 | e2
    · exact hno e2.symm
    · have := (Array.getElem?_eq_some_iff.1 hk).1; omega
  · rcases r2 k hk with e | e
    · exact r1 k e
    · exact .inr (Nat.le_trans h.1.size e)
theorem putObj_other (W : World) {l k : Nat} (o : Obj) (h : k ≠ l) : (W.putObj l o).heap[k]? = W.heap[k]? := by
  simp [World.putObj, Array.getElem?_setIfInBounds, Ne.symm h]
theorem Kq.b {n0 Bx : Nat} {w : World} (hn : n0 ≤ w.heap.size) (W : World) (l : Nat) (o o' : Obj) (hl : w.heap.size ≤ l) (h : W.heap[l]? = some o) (hc : o.isCells = false) (hw : o.isWalk = false) : Kq n0 Bx W (W.putObj l o') := by
  refine ⟨belowK_b hn W l o o' hl h hc hw, fun v hv => ⟨v, ?_, fun k cs t f hk hne hno => ?_, fun k hk => .inl hk⟩⟩
  · have : Bx ≠ l := fun e => by
      subst e
      simp only [World.cell?, h] at hv
      cases o <;> simp [Obj.isCells] at hc hv
    simp only [World.cell?, putObj_other W o' this] at hv ⊢
    exact hv
  · refine putObj_other W o' (fun e => ?_)
    subst e
    rw [h] at hk
    cases hk
    simp [Obj.isCells] at hc
/-- What is left of a world while rounds go by. -/
def KN (n0 Bx : Nat) (A W : World) : Prop :=
  Below n0 A W ∧ ∃ v, W.cell? ⟨Bx, 0, none⟩ = some v ∧ (∀ k cs t f, A.heap[k]? = some (.cells cs t f) → k ≠ Bx → W.heap[k]? = A.heap[k]?) ∧ ∀ k, v.ownBlock = some k → A.heap.size ≤ k
theorem KN.step {n0 Bx : Nat} {A W W' : World} (h : KN n0 Bx A W) (g : Kq n0 Bx W W') : KN n0 Bx A W' := by
  obtain ⟨hb, v, c, k, r⟩ := h
  obtain ⟨v1, c1, k1, r1⟩ := g.2 v c
  refine ⟨hb.trans g.1, v1, c1, fun j cs t f hj hne => ?_, fun j hj => ?_⟩
  · have e1 := k j cs t f hj hne
    refine (k1 j cs t f (e1.trans hj) hne (fun e => ?_)).trans e1
    have := r j e.symm
    have := (Array.getElem?_eq_some_iff.1 hj).1
    omega
  · rcases r1 j hj with e | e
    · exact r j e
    · exact Nat.le_trans hb.size e
theorem KN.start {n0 Bx : Nat} {A : World} (h : A.cell? ⟨Bx, 0, none⟩ = some (.slice none 0 0)) : KN n0 Bx A A :=
  ⟨Below.refl _ _, _, h, fun _ _ _ _ _ _ => rfl, fun k e => by simp [Value.ownBlock] at e⟩
theorem KN.cell {n0 Bx : Nat} {A W : World} (h : KN n0 Bx A W) {b i : Nat} {v : Value} (hc : A.cell? ⟨b, i, none⟩ = some v) (hne : b ≠ Bx) : W.cell? ⟨b, i, none⟩ = some v := by
  obtain ⟨_, _, _, k, _⟩ := h
  cases hb : A.heap[b]? with
  | none => simp [World.cell?, hb] at hc
  | some o =>
    cases o with
    | cells cs t f =>
      have := k b cs t f hb hne
      simp only [World.cell?, this] at hc ⊢
      exact hc
    | _ => simp [World.cell?, hb] at hc

section
variable {F : Fence} {nF : Nat} {P : Program} {kt : TypeId} {κ : Type} [DecidableEq κ]
variable (E : KeyEnc P kt κ) {w : World} {b : Nat} {L : List (κ × Value)} {ops : Array Oper} {rest : List Oper} {o : Oper} {a : Act} {Q : Exit → Act → World → Prop}
/-- A look-up in the fenced walk. -/
theorem wpListIn_look (hg : o.guard = none) {m x : Operand} {t : TypeId} {c : Bool} (hop : o.op = Op.lookup t m x c)
    {et : TypeId} (ht : P.underlying t = some (.map kt et)) {z : Value} (hz : ∀ w, (zeroValue et).run P w = .ok z w) (hm : a.eval m = .map (some b)) (k : κ) (hx : a.eval x = E.enc k) (h : MapAt E.enc w b L) (v : Option Value) (hv : aget L k = v)
    (hK : wpListIn F nF P ops Q rest (a.put o.dst (if c then .tuple #[v.getD z, .bool v.isSome] else v.getD z)) w) :
    wpListIn F nF P ops Q (o :: rest) a w := by
  refine wpListIn_plain hg fun K' hK' => ?_
  have hrun := h.look E ht (hz w) k c
  subst hv
  unfold Oper.wpIn
  refine ⟨by simp [Oper.about, hop], ?_⟩
  rw [Oper.semAt_plain F _ _ (by rw [hop]; intro c hc'; cases hc')]
  simp [execOp, hop, hm, hx, hrun, Result.andThen]
  exact hK' _ _ hK
end

set_option maxRecDepth 100000 in
set_option maxHeartbeats 1000000 in
theorem all_box (cb : Nat) (w : World) : Calls Try.prog 21 #[.pointer (some ⟨cb, 0, none⟩)] w fun e w' => e = .returned (.func (.func 36) #[] #[.pointer (some ⟨w.heap.size, 0, none⟩)]) ∧ w' = w.alloc (.cells #[.pointer (some ⟨cb, 0, none⟩)] 23) := by
  go_enter Try.func21, Try.ntmps21
  go_wp2
  go_ret
  exact ⟨rfl, rfl⟩
end Go.Proofs.Ytklhlffdpojkoaa
