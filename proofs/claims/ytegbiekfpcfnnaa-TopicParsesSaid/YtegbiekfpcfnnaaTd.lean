/-
  Parse at a text of one byte; the few answers that each law of the package topic asks for; then the ids.
-/
import Derived.Test.YtegbiekfpcfnnaaTc
namespace Go.Proofs.Ytegbiekfpcfnnaa
open Go.RowKit Fx
theorem len67 {w : World} {b : Nat} (h : MapAt (Value.int .i64) w b []) : (Builtin.len_ #[67] 3 #[.map (some b)]).run Try.prog w = .ok (.int .i64 0) w := h.len Try.underlying67 3
theorem bne3 : ((3 : Int) == 0) = false := rfl
set_option maxRecDepth 100000 in
set_option maxHeartbeats 1000000 in
theorem parse1 (w : World) :
    Calls Try.prog 18 #[.string ⟨#[1]⟩] w fun e w' => Same w e (.tuple #[.pointer none, .int .i64 3]) w' := by
  have hmm := @run_makeMap Try.prog
  have r0 : RdrAt (w.alloc (.cells #[.string ⟨#[1]⟩, .int .i64 0, .int .i64 0] 65)) w.heap.size ⟨#[1]⟩ 0 0 := ⟨(MapKept.heap_alloc _ _).1⟩
  have k0 : Keeps (fun k => k = w.heap.size) w (w.alloc (.cells #[.string ⟨#[1]⟩, .int .i64 0, .int .i64 0] 65)) := (Keeps.refl _ _).alloc _
  have R0 := Lib.hid r0
  have K0 := Lib.hid k0
  clear r0 k0
  go_enter Try.func18, Try.ntmps18
  go_wp2_with (go_at_call 8; refine (new_calls _).mono ?_; rintro e w1 ⟨rfl, ht, hk, hz⟩)
  simp only [World.size_alloc] at ht hz
  have r1 := R0.out.keep hk (by simp)
  have k1 := K0.out.trans hk (by simp)
  refine (number1 w.heap.size w1 0 1073741824 (by omega) r1).mono ?_
  rintro e w2 ⟨rfl, r2, hk2⟩
  have t2 := ht.keep hk2 (by omega) (by omega)
  have k2 := k1.trans hk2 (fun _ _ h => h)
  have c0 := t2.cell0
  have f0 := t2.free 0
  have R2 := Lib.hid r2
  clear hk hk2 ht r1 r2 k1 hz R0 K0 t2
  go_wp2_with fail
  have k3 : Keeps (fun k => k = w.heap.size ∨ w.heap.size ≤ k) w ((w2.setCell ⟨w.heap.size + 1 + 1, 0, none⟩ (.int .i64 (-1))).alloc (.map #[] 0)) :=
    ((k2.mono (fun _ _ h => .inl h)).setC 0 _ (fun _ => .inr (by omega))).alloc _
  have r3 : RdrAt ((w2.setCell ⟨w.heap.size + 1 + 1, 0, none⟩ (.int .i64 (-1))).alloc (.map #[] 0)) w.heap.size ⟨#[1]⟩ 1 3 :=
    R2.out.keep (((Keeps.refl (fun k => k = w.heap.size + 1 + 1) w2).setCell (p := ⟨w.heap.size + 1 + 1, 0, none⟩) (fun _ => rfl) _).alloc _) (by omega)
  have m3 : MapAt (Value.int .i64) ((w2.setCell ⟨w.heap.size + 1 + 1, 0, none⟩ (.int .i64 (-1))).alloc (.map #[] 0)) w2.heap.size [] := by
    have := mapAt_new (e := Value.int .i64) (w2.setCell ⟨w.heap.size + 1 + 1, 0, none⟩ (.int .i64 (-1)))
    simpa using this
  generalize (w2.setCell ⟨w.heap.size + 1 + 1, 0, none⟩ (.int .i64 (-1))).alloc (.map #[] 0) = w3 at k3 r3 m3 ⊢
  have R3 := Lib.hid r3
  have hl := len67 m3
  have c1 := r3.cell1
  have c2 := r3.cell2
  clear r3 R2 c0 f0 k2
  go_wp2_with (go_at_call 24; refine (number_err _ _ _ _ _ _ _ R3.out bne3).mono ?_; rintro e w4 ⟨rfl, rfl⟩)
  refine wp_loop_once ?_
  go_wp2_with (go_at_call 26; refine (want_err _ _ _ _ _ _ R3.out bne3).mono ?_; rintro e w4 ⟨rfl, rfl⟩)
  go_quiet (fail)
  go_wp2
  go_ret2
  exact ⟨rfl, (k3.drewN _).none (fun k hk => by omega)⟩

def sA : ByteArray := ⟨#[97]⟩
def tA : Tbl := ⟨1, [(sA, (0, 3))]⟩
def tB : Tbl := ⟨1, []⟩
def tC : Tbl := ⟨2, [(sA, (1, 2))]⟩
theorem live1 : Tbl.create ⟨0, []⟩ ⟨#[97]⟩ 3 = (0, 0, tA) := by kernel_rfl
theorem live2 : Tbl.create tA ⟨#[97]⟩ 3 = (0, 14, tA) := by kernel_rfl
theorem live3 : tA.find ⟨#[97]⟩ = (0, 3, 0) := by kernel_rfl
theorem live4 : (⟨tA.next, adel tA.all ⟨#[97]⟩⟩ : Tbl) = tB := by kernel_rfl
theorem live5 : Tbl.create tB ⟨#[97]⟩ 2 = (1, 0, tC) := by kernel_rfl
theorem live6 : tC.find ⟨#[97]⟩ = (1, 2, 0) := by kernel_rfl

set_option maxRecDepth 100000 in
set_option maxHeartbeats 1000000 in
theorem live_any (w : World) : Calls Try.prog 12 #[] w fun e w' => Same w e (.bool true) w' := by
  have L1 := fun b m w h => create_at b m ⟨0, []⟩ ⟨#[97]⟩ 3 w h (by decide)
  have L2 := fun b m w h => create_at b m tA ⟨#[97]⟩ 3 w h (by decide)
  have L3 := fun b m w h => delete_any b m tA ⟨#[97]⟩ w h
  have L4 := fun b m w h => create_at b m tB ⟨#[97]⟩ 2 w h (by decide)
  have L5 := fun b m w h => find_at b m tC ⟨#[97]⟩ w h
  simp only [live1] at L1
  simp only [live2] at L2
  simp only [live3, live4] at L3
  simp only [live5] at L4
  simp only [live6] at L5
  have H1 := Lib.hid L1
  have H2 := Lib.hid L2
  have H3 := Lib.hid L3
  have H4 := Lib.hid L4
  have H5 := Lib.hid L5
  clear L1 L2 L3 L4 L5
  go_enter Try.func12, Try.ntmps12
  go_wp2_with (go_at_call 8; refine (new_calls _).mono ?_; rintro e w1 ⟨rfl, t1, k1, hz⟩)
  clear hz
  refine (H1.out _ _ _ t1).mono ?_
  rintro e w2 ⟨rfl, t2, k2⟩
  have k2' := (k1.mono (S1 := TblS (w.heap.size + 1) w.heap.size) (by simp)).trans k2 (fun _ _ h => h)
  clear t1 k1 k2
  go_wp2_with fail
  refine (H2.out _ _ _ t2).mono ?_
  rintro e w3 ⟨rfl, t3, k3⟩
  have k3' := k2'.trans k3 (fun _ _ h => h)
  clear t2 k3 k2'
  go_wp2_with fail
  refine (H3.out _ _ _ t3).mono ?_
  rintro e w4 ⟨rfl, t4, k4⟩
  have k4' := k3'.trans k4 (fun _ _ h => h)
  clear t3 k4 k3'
  go_wp2_with fail
  refine (H4.out _ _ _ t4).mono ?_
  rintro e w5 ⟨rfl, t5, k5⟩
  have k5' := k4'.trans k5 (fun _ _ h => h)
  clear t4 k5 k4'
  go_wp2_with fail
  refine (H5.out _ _ _ t5).mono ?_
  rintro e w6 ⟨rfl, k6⟩
  have k6' := k5'.trans k6 (by simp)
  clear t5 k6 k5'
  go_wp2_with fail
  refine (parse1 _).mono ?_
  rintro e w7 ⟨rfl, k7⟩
  have k7' := k6'.trans k7 (by simp)
  clear k7 k6'
  go_wp2
  go_ret
  exact ⟨rfl, k7'.none (fun k hk => by unfold TblS; omega)⟩
end Go.Proofs.Ytegbiekfpcfnnaa
