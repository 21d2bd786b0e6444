/-
  The few answers that each law of the package assign asks for itself.
-/
import Derived.Test.YtncblldhfmabbaaAl
namespace Go.Proofs.Ytncblldhfmabbaa
open Go.RowKit Fx

def sT : ByteArray := ⟨#[116]⟩
def subsX : List SubC := [⟨1, [sT]⟩, ⟨2, [sT]⟩]
def topsX : List TopC := [⟨sT, 3⟩]
theorem liveA : chk subsX topsX = 0 := by kernel_rfl
theorem liveB : rangeL subsX topsX = [⟨1, [⟨sT, 0⟩, ⟨sT, 1⟩]⟩, ⟨2, [⟨sT, 2⟩]⟩] := by kernel_rfl
theorem liveC : roundL subsX topsX = [⟨1, [⟨sT, 0⟩, ⟨sT, 2⟩]⟩, ⟨2, [⟨sT, 1⟩]⟩] := by kernel_rfl
theorem liveD : chk [] [⟨⟨#[]⟩, 0⟩] = 1 := by kernel_rfl

def lw (w : World) : World := ((((w.alloc (.cells #[.string ⟨#[116]⟩] 9)).alloc (.cells #[.string ⟨#[116]⟩] 9)).alloc
  (.cells #[.int .i64 1, .slice (some ⟨w.heap.size, 0, none⟩) 1 1, .int .i64 2, .slice (some ⟨w.heap.size + 1, 0, none⟩) 1 1] 44)).alloc (.cells #[.string ⟨#[116]⟩, .int .i64 3] 36))
theorem lw_blocks (w : World) : (lw w).heap[w.heap.size]? = some (.cells #[.string ⟨#[116]⟩] 9) ∧ (lw w).heap[w.heap.size + 1]? = some (.cells #[.string ⟨#[116]⟩] 9) ∧
    (lw w).heap[w.heap.size + 1 + 1]? = some (.cells #[.int .i64 1, .slice (some ⟨w.heap.size, 0, none⟩) 1 1, .int .i64 2, .slice (some ⟨w.heap.size + 1, 0, none⟩) 1 1] 44) ∧
    (lw w).heap[w.heap.size + 1 + 1 + 1]? = some (.cells #[.string ⟨#[116]⟩, .int .i64 3] 36) := by
  unfold lw
  exact ⟨block_alloc (block_alloc (block_alloc (heap_new _ _ _ rfl) _) _) _, block_alloc (block_alloc (heap_new _ _ _ (by simp)) _) _, block_alloc (heap_new _ _ _ (by simp)) _, heap_new _ _ _ (by simp)⟩
theorem sT_le : sT.size ≤ maxLen := by unfold maxLen; decide
theorem wf1 : (Lit.int .i64 1).wf = true := by decide
theorem wf2 : (Lit.int .i64 2).wf = true := by decide
theorem one_text {w : World} {b : Nat} (h : w.heap[b]? = some (.cells #[.string sT] 9)) : SlAt 1 rStr w (some ⟨b, 0, none⟩) 1 [sT] := by
  refine ⟨Nat.le_refl _, by unfold maxLen; omega, fun _ => ⟨b, 0, rfl, fun i hi => ?_⟩⟩
  obtain rfl : i = 0 := by simpa using hi
  refine ⟨[.string sT], rfl, fun j hj => ?_, rfl, sT_le⟩
  obtain rfl : j = 0 := by omega
  exact block_cell h 0
theorem lw_subs (w : World) : SlAt 2 rSub (lw w) (some ⟨w.heap.size + 1 + 1, 0, none⟩) 2 subsX := by
  obtain ⟨h1, h2, h3, _⟩ := lw_blocks w
  refine ⟨Nat.le_refl _, by unfold maxLen; omega, fun _ => ⟨_, 0, rfl, fun i hi => ?_⟩⟩
  have hi' : i < 2 := hi
  match i, hi' with
  | 0, _ =>
    refine ⟨[.int .i64 1, .slice (some ⟨w.heap.size, 0, none⟩) 1 1], rfl, fun j hj => ?_, _, _, rfl, one_text h1, wf1⟩
    match j, hj with
    | 0, _ => exact block_cell h3 0
    | 1, _ => exact block_cell h3 1
  | 1, _ =>
    refine ⟨[.int .i64 2, .slice (some ⟨w.heap.size + 1, 0, none⟩) 1 1], rfl, fun j hj => ?_, _, _, rfl, one_text h2, wf2⟩
    match j, hj with
    | 0, _ => exact block_cell h3 2
    | 1, _ => exact block_cell h3 3
theorem one_top {w : World} {b : Nat} {s : ByteArray} {i : Int} (h : w.heap[b]? = some (.cells #[.string s, .int .i64 i] 36)) (hi : (Lit.int .i64 i).wf = true) : SlAt 2 rTop w (some ⟨b, 0, none⟩) 1 [⟨s, i⟩] := by
  refine ⟨Nat.le_refl _, by unfold maxLen; omega, fun _ => ⟨b, 0, rfl, fun k hk => ?_⟩⟩
  obtain rfl : k = 0 := by simpa using hk
  refine ⟨[.string s, .int .i64 i], rfl, fun j hj => ?_, rfl, hi⟩
  match j, hj with
  | 0, _ => exact block_cell h 0
  | 1, _ => exact block_cell h 1

/-- What the few answers look at. -/
def Got (i : Int) (w : World) (e : Ending) (w' : World) : Prop :=
  ∃ b off cap b1 o1 c1, e = .returned (.tuple #[.slice (some ⟨b, off, none⟩) 2 cap, .int .i64 0]) ∧ w'.cell? ⟨b, off + 1, none⟩ = some (.slice (some ⟨b1, o1, none⟩) 2 c1) ∧ w'.cell? ⟨b1, o1 + 2 + 1, none⟩ = some (.int .i64 i) ∧ K0 w w'
theorem got_of {w w' : World} {e : Ending} {l : List ShareC} {p0 p1 : PartC} {m : Int} {s1 : ShareC} (hl : l = [⟨m, [p0, p1]⟩, s1]) (h : ListPost w 0 (orNil 0 l) e w') : Got p1.index w e w' := by
  obtain ⟨a, cap, he, hs, hk⟩ := h
  subst hl
  simp only [orNil, if_true] at he hs
  obtain ⟨b, off, rfl, hr⟩ := hs.row (k := 0) (by simp)
  obtain ⟨a1, c1, _, h2, _, h3⟩ := share_cells hr (Below.refl _ _) 0 (by simp)
  obtain ⟨b1, o1, rfl, hr1⟩ := h3.row (k := 1) (by simp)
  obtain ⟨_, h5, _⟩ := part_cells hr1 (Below.refl _ _) 1 (by simp)
  exact ⟨b, off, cap, b1, o1, c1, he, by simpa using h2, by simpa using h5, hk⟩
theorem got9 (w : World) : Calls Try.prog 9 #[.slice (some ⟨w.heap.size + 1 + 1, 0, none⟩) 2 2, .slice (some ⟨w.heap.size + 1 + 1 + 1, 0, none⟩) 1 1] (lw w) (Got 1 (lw w)) := by
  refine (range9 (lw w) (lw w) _ _ 2 1 subsX topsX (lw_subs w) (one_top (lw_blocks w).2.2.2 (by decide)) (Below.refl _ _)).mono fun e w' h => ?_
  rw [liveA, liveB] at h
  exact got_of rfl h.list
theorem got11 (w w1 : World) (hk : K0 (lw w) w1) : Calls Try.prog 11 #[.slice (some ⟨w.heap.size + 1 + 1, 0, none⟩) 2 2, .slice (some ⟨w.heap.size + 1 + 1 + 1, 0, none⟩) 1 1] w1 (Got 2 w1) := by
  refine (round11 (lw w) w1 _ _ 2 1 subsX topsX (lw_subs w) (one_top (lw_blocks w).2.2.2 (by decide)) hk.below).mono fun e w' h => ?_
  rw [liveA, liveC] at h
  exact got_of rfl h.list

set_option maxRecDepth 100000 in
set_option maxHeartbeats 1000000 in
theorem live8 (w : World) : Calls Try.prog 8 #[] w fun e w' => Same w e (.bool true) w' := by
  go_enter Try.func8, Try.ntmps8
  go_wp2_with fail
  have k0 : K0 w (lw w) := ((((Keeps.refl _ _).alloc _).alloc _).alloc _).alloc _
  refine (got9 w).mono ?_
  rintro e w1 ⟨b, off, cap, b1, o1, c1, rfl, x1, x2, k1⟩
  have hb := World.block_lt_of_cell? _ _ x1
  have hb1 := World.block_lt_of_cell? _ _ x2
  have HG := Lib.hid (got11 w w1 k1)
  have K1 := Lib.hid (K0.tr k0 k1)
  clear k0 k1
  go_wp2_with fail
  refine HG.out.mono ?_
  rintro e w2 ⟨b', off', cap', b1', o1', c1', rfl, y1, y2, k2⟩
  have x1' := k2.cell' x1 (fun e => e)
  have x2' := k2.cell' x2 (fun e => e)
  have hb2 := World.block_lt_of_cell? _ _ y1
  have hb3 := World.block_lt_of_cell? _ _ y2
  have K2 := Lib.hid (K0.tr K1.out k2)
  clear k2 x1 x2
  go_wp2_with fail
  have hc := check14 (w2.alloc (.cells #[.string ⟨#[]⟩, .int .i64 0] 36)) (w2.alloc (.cells #[.string ⟨#[]⟩, .int .i64 0] 36)) none (some ⟨w2.heap.size, 0, none⟩) 0 1 [] [⟨⟨#[]⟩, 0⟩]
    ⟨Nat.le_refl _, by unfold maxLen; omega, fun h => absurd rfl h⟩ (one_top (heap_new _ _ _ rfl) (by decide)) (Below.refl _ _)
  rw [liveD] at hc
  refine hc.mono ?_
  rintro e w3 ⟨rfl, k3⟩
  go_wp2
  go_ret
  exact ⟨rfl, K0.tr K2.out (K0.tr ((Keeps.refl _ _).alloc _) k3)⟩
end Go.Proofs.Ytncblldhfmabbaa
