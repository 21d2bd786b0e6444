/-
  A coordinator's names: how many.
-/
import Derived.Test.YtklhlffdpojkoaaPc
namespace Go.Proofs.Ytklhlffdpojkoaa
open Go.RowKit Go.Shelf Fx
attribute [local go_sem] Oper.semAt_some

theorem infoStrN : (Try.prog.info? 9).map (fun i => (i.zero, i.size, i.bytes)) = some (some (.string ⟨#[]⟩), 1, 16) := by kernel_rfl
theorem kq_body {n0 Bx : Nat} {W w1 : World} {v v' : Value} {tmp : Obj} (hv : W.cell? ⟨Bx, 0, none⟩ = some v) (hv2 : (w1.setCell ⟨Bx, 0, none⟩ v').cell? ⟨Bx, 0, none⟩ = some v') (hg : (W.alloc tmp).grownBy w1 v.ownBlock) (hb : v'.ownBlock = v.ownBlock ∨ v'.ownBlock = some (W.alloc tmp).heap.size)
    (hB : Below n0 W (w1.setCell ⟨Bx, 0, none⟩ v')) : Kq n0 Bx W (w1.setCell ⟨Bx, 0, none⟩ v') := by
  refine ⟨hB, fun u hu => ?_⟩
  obtain rfl : v = u := by rw [hv] at hu; exact Option.some.inj hu
  refine ⟨v', hv2, fun k cs t f hk hne hno => ?_, fun k hk => ?_⟩
  · have hlt := (Array.getElem?_eq_some_iff.1 hk).1
    have e1 := hg.block k (by simp; omega) hno
    have e2 : (W.alloc tmp).heap[k]? = W.heap[k]? := Below.heap_alloc _ _ _ hlt
    exact ((Below.heap_setCell _ _ _ k (by exact hne)).trans e1).trans e2
  · rcases hb with e | e
    · exact .inl (e.symm.trans hk)
    · right
      rw [e] at hk
      simp at hk
      omega
set_option maxRecDepth 100000 in
set_option maxHeartbeats 4000000 in
theorem names_any {w0 w : World} {cb : Nat} {C : CoordC} {Y : CLay} (h : CAt w0 w cb C Y) (hl : Y.L.length ≤ 100000) (hks : ∀ p ∈ avals gptr Y.L, p.1.size ≤ 100000) :
    Calls Try.prog 11 #[.pointer (some ⟨cb, 0, none⟩)] w fun e w' => ∃ a c, e = .returned (.slice a Y.L.length c) ∧ K0 w w' := by
  refine (callsIn_wide (n := 6)).1 ?_
  have h1 : 1 ≤ 6 := by omega
  have hA : Fence.wide.fn 21 := trivial
  obtain ⟨i0, hi, hz0, hz1, hz2⟩ := info_parts infoStrN
  have hcb := block_lt h.blk
  have hgb := h.map.lt
  have HH := Lib.hid h
  clear h
  refine callsIn_of_wp_marks Try.func11 rfl trivial ?_ rfl
  simp only [Try.ntmps11, List.size_toArray, List.length_cons, List.length_nil, Nat.reduceAdd, Nat.reduceSub, Array.replicate_succ, Array.replicate_zero, List.push_toArray, List.append_toArray, List.nil_append, List.cons_append]
  gi_wp2_with (gi_at_call 21; refine (callsIn_wide.2 (all_box cb _)).mono ?_; rintro e w' ⟨rfl, rfl⟩)
  have bO := Boxed.new w 38 (.slice none 0 0)
  have bN := Boxed.new (w.alloc (.cells #[.slice none 0 0] 38)) 23 (.pointer (some ⟨cb, 0, none⟩))
  rw [World.size_alloc] at bN
  have hB0 : Below w.heap.size w ((w.alloc (.cells #[.slice none 0 0] 38)).alloc (.cells #[.pointer (some ⟨cb, 0, none⟩)] 23)) := ((Below.refl _ w).alloc (Nat.le_refl _) _).alloc (by simp) _
  have hst := all_stops (B := w.heap.size + 1) (Bx := w.heap.size) (n0 := w.heap.size) (HH.out.keep (K0.of_below hB0)) hl hks hcb hgb bN.cell (by simp) (by omega) (bO.alloc _).cell (by simp; omega) (Nat.le_refl _) (6 - 1) (by omega)
  refine wpIn_rangeFunc_ownF rfl h1 (gf := 36) (lb := #[.pointer (some ⟨w.heap.size + 1, 0, none⟩)]) rfl trivial (enters_of Try.func36 (by kernel_rfl) rfl) hst Kq.t (Kq.b (by simp; omega)) (Below.refl _ _) (fun _ => rfl)
    (fun pre W => (∃ v, Boxed W w.heap.size 38 v ∧ W.ownsRow w.heap.size 9 1 v pre.length (pre.map fun x => .string x.1) ∧ True) ∧ Below w.heap.size w W) (fun _ _ _ => False)
    (OwnFrom.and (Own.from (holdsRow_own w.heap.size w.heap.size 38 9 1 (fun pre : List (ByteArray × Value) => pre.length) (fun pre => pre.map fun x => .string x.1) (fun _ _ => True)) _) (ownFrom_below (Nat.le_refl _) (by simp; omega)))
    (fun _ _ _ _ _ hs _ _ => hs) ⟨⟨_, bO.alloc _, World.ownsRow_nil _ _ _ _, trivial⟩, hB0⟩
    (fun x => { tmps := #[.pointer (some ⟨cb, 0, none⟩), undef, .slice none 0 0, .pointer (some ⟨w.heap.size, 0, none⟩), .string x.1, .pointer (some ⟨cb, 0, none⟩), .func (.func 36) #[] #[.pointer (some ⟨w.heap.size + 1, 0, none⟩)], .string x.1, x.2, undef, undef, undef, undef, undef], defers := [] }) ?assign ?body ?done ?stop
  case assign =>
    intro l x W K hK
    gi_wp2
    exact hK
  case body =>
    rintro l pre x W ⟨⟨v, hv, hrow, _⟩, hB⟩ hlt
    have hc := hv.cell
    clear hst
    gi_wp2_with (gi_at_builtin; refine wpListIn_append_own_at _ rfl _ _ 38 rfl w.heap.size 9 i0 (.string ⟨#[]⟩) 1 16 Try.underlying38 hi hz0 hz1 hz2 rfl (by decide) _ _ _ rfl (hrow.alloc _) ⟨W.heap.size, 0, none⟩ 1 1 [.string x.1] rfl rfl (cell_one_new _ _ _) (by simp [Value.oneCell']) (by unfold maxLen; omega) (by omega) (by have := hB.size; simp; omega) ?_; intro v' w1 hown' hgrow _ hfr; obtain ⟨g', cap', rfl⟩ := ownsRow_succ hown'; obtain ⟨hv1, hv2, hr2, hk2, hb2⟩ := hv.appended (by decide) hrow hB.size (Nat.le_refl _) hown' hgrow; have hc1 := hv1.cell; have hf1 := hv1.frozen)
    exact ⟨hk2, kq_body hv.cell hv2.cell hgrow hfr hb2, ⟨_, hv2, by simpa using hr2, trivial⟩, hB.trans hb2⟩
  case done =>
    rintro D xs W hD hxs ⟨⟨v, hv, hrow, _⟩, hB⟩ hK
    obtain ⟨a, c, rfl⟩ : ∃ a c, v = .slice a xs.length c := by
      rcases hrow.2 with ⟨e1, e2⟩ | ⟨r, cp, cur, e1, _⟩
      · rw [e1, e2]; exact ⟨_, _, rfl⟩
      · exact ⟨_, _, e1⟩
    have hc := hv.cell
    clear hst
    gi_wp2
    refine ⟨by simp, Or.inl ⟨_, _, rfl, run_takeDeferred hK, ?_⟩⟩
    exact ⟨_, results_tmp rfl _ _ _, a, c, rfl, K0.of_below (hB.trans (belowK_b (w := w) (Nat.le_refl _) W D _ _ (by simp at hD; omega) hK rfl rfl))⟩
  case stop =>
    rintro D c pre W _ _ h _
    exact h.elim
end Go.Proofs.Ytklhlffdpojkoaa
