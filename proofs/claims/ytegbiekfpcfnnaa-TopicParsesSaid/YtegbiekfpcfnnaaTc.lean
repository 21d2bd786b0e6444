/-
  The few answers that the laws of the package topic ask for themselves; ids.
-/
import Derived.Test.YtegbiekfpcfnnaaTa
import Derived.Deep.RegionWith
namespace Go.Proofs.Ytegbiekfpcfnnaa
open Go.RowKit Fx

set_option maxRecDepth 100000 in
set_option maxHeartbeats 400000 in
theorem get1 (w : World) :
    Calls Try.prog 35 #[.string ⟨#[1]⟩, .int .i64 0] w fun e w' => e = .returned (.tuple #[.int .i64 (-1), .int .i64 1, .int .i64 0]) ∧ w = w' := by
  go_enter Try.func35, Try.ntmps35
  go_wp2
  refine wp_loop_once ?_
  go_wp2
  go_ret3
  exact ⟨by kernel_rfl, rfl⟩

/-- The reader's record in block b. -/
structure RdrAt (w : World) (b : Nat) (s : ByteArray) (i e : Int) : Prop where
  rcd : w.heap[b]? = some (.cells #[.string s, .int .i64 i, .int .i64 e] 65 (0, 0))
theorem RdrAt.lt {w : World} {b : Nat} {s : ByteArray} {i e : Int} (h : RdrAt w b s i e) : b < w.heap.size := (Array.getElem?_eq_some_iff.1 h.rcd).1
theorem RdrAt.cell0 {w : World} {b : Nat} {s : ByteArray} {i e : Int} (h : RdrAt w b s i e) : w.cell? ⟨b, 0, none⟩ = some (.string s) := by simp [World.cell?, h.rcd]
theorem RdrAt.cell1 {w : World} {b : Nat} {s : ByteArray} {i e : Int} (h : RdrAt w b s i e) : w.cell? ⟨b, 1, none⟩ = some (.int .i64 i) := by simp [World.cell?, h.rcd]
theorem RdrAt.cell2 {w : World} {b : Nat} {s : ByteArray} {i e : Int} (h : RdrAt w b s i e) : w.cell? ⟨b, 2, none⟩ = some (.int .i64 e) := by simp [World.cell?, h.rcd]
theorem RdrAt.free {w : World} {b : Nat} {s : ByteArray} {i e : Int} (h : RdrAt w b s i e) (j : Nat) : w.frozen? ⟨b, j, none⟩ = false := by simp [World.frozen?, h.rcd]
theorem RdrAt.keep {w w' : World} {b : Nat} {s : ByteArray} {i e : Int} {S : Nat → Prop} (h : RdrAt w b s i e) (hk : Keeps S w w') (hb : ¬ S b) : RdrAt w' b s i e := ⟨(hk.block b h.lt hb).trans h.rcd⟩
def RdrPost (w : World) (b : Nat) (s : ByteArray) (v : Value) (i e : Int) (en : Ending) (w' : World) : Prop :=
  en = .returned v ∧ RdrAt w' b s i e ∧ Keeps (fun k => k = b) w w'

set_option maxHeartbeats 400000 in
theorem want_bad (b : Nat) (s : ByteArray) (i : Int) (w : World) (h : RdrAt w b s i 0) :
    Calls Try.prog 26 #[.pointer (some ⟨b, 0, none⟩), .bool false] w (RdrPost w b s (.tuple #[]) i 3) := by
  have h2 := h.cell2
  have f2 := h.free 2
  go_enter Try.func26, Try.ntmps26
  go_wp2
  go_end0
  exact ⟨rfl, ⟨setCell_block h.rcd 2 _⟩, (Keeps.refl (fun k => k = b) w).setCell (p := ⟨b, 2, none⟩) (fun _ => rfl) _⟩
set_option maxHeartbeats 400000 in
theorem want_err (b : Nat) (s : ByteArray) (i e : Int) (is : Bool) (w : World) (h : RdrAt w b s i e) (he : (e == 0) = false) :
    Calls Try.prog 26 #[.pointer (some ⟨b, 0, none⟩), .bool is] w fun en w' => en = .returned (.tuple #[]) ∧ w = w' := by
  have h2 := h.cell2
  go_enter Try.func26, Try.ntmps26
  go_wp2
  go_end0
  exact ⟨rfl, rfl⟩

set_option maxHeartbeats 400000 in
theorem number_err (b : Nat) (s : ByteArray) (i e lo hi : Int) (w : World) (h : RdrAt w b s i e) (he : (e == 0) = false) :
    Calls Try.prog 24 #[.pointer (some ⟨b, 0, none⟩), .int .i64 lo, .int .i64 hi] w fun e w' => e = .returned (.int .i64 0) ∧ w = w' := by
  have h2 := h.cell2
  go_enter Try.func24, Try.ntmps24
  go_wp2
  go_ret
  exact ⟨rfl, rfl⟩

set_option maxHeartbeats 1000000 in
theorem number1 (b : Nat) (w : World) (lo hi : Int) (hlo : 0 ≤ lo) (h : RdrAt w b ⟨#[1]⟩ 0 0) :
    Calls Try.prog 24 #[.pointer (some ⟨b, 0, none⟩), .int .i64 lo, .int .i64 hi] w (RdrPost w b ⟨#[1]⟩ (.int .i64 (-1)) 1 3) := by
  have h0 := h.cell0
  have h1 := h.cell1
  have h2 := h.cell2
  have f1 := h.free 1
  have f2 := h.free 2
  go_enter Try.func24, Try.ntmps24
  go_wp2
  go_region_with (go_at_call 35; refine (get1 _).mono ?_; rintro e w' ⟨rfl, rfl⟩)
  all_goals
    have h4 : RdrAt ((w.setCell ⟨b, 1, none⟩ (.int .i64 1)).setCell ⟨b, 2, none⟩ (.int .i64 0)).drew b ⟨#[1]⟩ 1 0 := ⟨setCell_block (setCell_block h.rcd 1 _) 2 _⟩
    have h3 : ¬ lo ≤ -1 := by omega
    have HW := Lib.hid (want_bad b ⟨#[1]⟩ 1 _ h4)
    go_wp2_with (go_at_call 26; refine HW.out.mono ?_; rintro e w' ⟨rfl, h5, hk⟩)
    go_ret
    exact ⟨rfl, h5, (((Keeps.refl (fun k => k = b) w).setCell (p := ⟨b, 1, none⟩) (fun _ => rfl) _).setCell (p := ⟨b, 2, none⟩) (fun _ => rfl) _).drew.trans hk (fun _ _ h => h)⟩
end Go.Proofs.Ytegbiekfpcfnnaa
