/-
  A coordinator that is none: its names.
-/
import Derived.RangeFuncNested
import Derived.RangeFuncBound
import Derived.RangeFuncCalls
import Derived.RangeFuncLeaves
import Derived.Shelf.Abstract
import Derived.Shelf.RegionOpen
import Derived.WalkKit
import Derived.OwnWalkIn
import Derived.TacticsInMore
import Derived.LoopNIn
import Derived.LoopIn
import Derived.Test.YtklhlffdpojkoaaGreatCd
namespace Go.Proofs.YtklhlffdpojkoaaGreat
open Go.RowKit Go.Shelf Fx
attribute [local go_sem] Oper.semAt_some
set_option maxRecDepth 100000 in
set_option maxHeartbeats 1000000 in
theorem all_nil (w : World) : Calls Tryz.prog 44 #[.pointer none] w fun e w' => e = .returned (.func (.func 73) #[] #[.pointer (some ⟨w.heap.size, 0, none⟩)]) ∧ w' = w.alloc (.cells #[.pointer none] 23) := by
  go_enter Tryz.func44, Tryz.ntmps44
  go_wp2
  go_ret
  exact ⟨rfl, rfl⟩
set_option maxRecDepth 100000 in
set_option maxHeartbeats 1000000 in
theorem all_nil_stops (F : Fence) (n : Nat) (hF : F.fn 73) (hro : F.round = none) (w : World) (Kp : World → World → Prop) (B : Nat) (hB : w.cell? ⟨B, 0, none⟩ = some (.pointer none)) (hlt : B < w.heap.size) :
    SeqStopsK F n Tryz.prog 73 #[.pointer (some ⟨B, 0, none⟩)] (fun (_ : Unit) => #[.string ⟨#[]⟩, .pointer none]) Kp (fun xs => xs = []) (fun _ => False) 0 w := fun l J Jx W hb _ _ _ h0 => by
  have hk := K0.of_below hb
  have hc : W.cell? ⟨B, 0, none⟩ = some (.pointer none) := hk.cell' hB (fun e => e)
  have hltW : B < W.heap.size := Nat.lt_of_lt_of_le hlt hk.size
  refine callsIn_of_wp Tryz.func73 rfl hF ?_ hro
  simp only [Tryz.ntmps73, List.size_toArray, List.length_cons, List.length_nil, Nat.reduceAdd, Nat.reduceSub, Array.replicate_succ, Array.replicate_zero, List.push_toArray, List.append_toArray, List.nil_append, List.cons_append]
  gi_wp2
  refine bodyPost_ret (results_none rfl _ _ _) rfl ?_
  first | exact ⟨⟨_, rfl⟩, h0⟩ | exact ⟨⟨_, rfl⟩, Or.inl ⟨_, rfl, h0⟩⟩
set_option maxRecDepth 100000 in
set_option maxHeartbeats 2000000 in
theorem names_nil (w : World) : Calls Tryz.prog 21 #[.pointer none] w fun e w' => Same w e (.slice none 0 0) w' := by
  refine (callsIn_wide (n := 6)).1 ?_
  have h1 : 1 ≤ 6 := by omega
  have hA : Fence.wide.fn 44 := trivial
  refine callsIn_of_wp_marks Tryz.func21 rfl trivial ?_ rfl
  simp only [Tryz.ntmps21, List.size_toArray, List.length_cons, List.length_nil, Nat.reduceAdd, Nat.reduceSub, Array.replicate_succ, Array.replicate_zero, List.push_toArray, List.append_toArray, List.nil_append, List.cons_append]
  gi_wp2_with (gi_at_call 44; refine (callsIn_wide.2 (all_nil _)).mono ?_; rintro e w' ⟨rfl, rfl⟩)
  refine wpIn_rangeFunc_ownF rfl h1 (gf := 73) (lb := #[.pointer (some ⟨w.heap.size + 1, 0, none⟩)]) rfl trivial (enters_of Tryz.func73 (by kernel_rfl) rfl) (all_nil_stops Fence.wide _ trivial rfl _ (Below w.heap.size) (w.heap.size + 1) (by simp) (by simp)) belowK_t (belowK_b (by simp; omega)) (Below.refl _ _) (fun _ => rfl)
    (fun _ W => W.cell? ⟨w.heap.size, 0, none⟩ = some (.slice none 0 0) ∧ Below w.heap.size w W) (fun _ _ _ => False)
    (OwnFrom.and (Own.from (fun s A B row hs hg hr => cell_kept hs hg hr) _) (ownFrom_below (Nat.le_refl _) (by simp; omega)))
    (fun _ _ _ _ _ hs _ _ => hs) ⟨by simp, ((Below.refl _ _).alloc (Nat.le_refl _) _).alloc (by simp) _⟩
    (fun _ => { tmps := #[.pointer none, undef, .slice none 0 0, .pointer (some ⟨w.heap.size, 0, none⟩), .string ⟨#[]⟩, .pointer none, .func (.func 73) #[] #[.pointer (some ⟨w.heap.size + 1, 0, none⟩)], .string ⟨#[]⟩, .pointer none, undef, undef, undef, undef, undef], defers := [] }) ?assign ?body ?done ?stop
  case assign =>
    intro l x W K hK
    gi_wp2
    exact hK
  case body =>
    intro l pre x W _ hlt
    exact absurd hlt (Nat.not_lt_zero _)
  case done =>
    rintro D xs W hD rfl ⟨hc, hB⟩ hK
    gi_wp2
    refine ⟨by simp, Or.inl ⟨_, _, rfl, run_takeDeferred hK, ?_⟩⟩
    exact ⟨_, results_tmp rfl _ _ _, rfl, K0.of_below (hB.trans (belowK_b (w := w) (Nat.le_refl _) W D _ _ (by simp at hD; omega) hK rfl rfl))⟩
  case stop =>
    rintro D c pre W _ h _ _
    exact h.elim
end Go.Proofs.YtklhlffdpojkoaaGreat
