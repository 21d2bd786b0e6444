/-
  reader.number at the places of live's text.
-/
import Derived.Test.YtbjpifipjcfhkaaIj0
import Derived.Deep.RegionWith
namespace Go.Proofs.Ytbjpifipjcfhkaa
open Go.RowKit Fx

set_option maxRecDepth 100000 in
set_option maxHeartbeats 2000000 in
theorem num_0 {w : World} {rb : Nat} (h : RdAt w rb 0) : Calls Try.prog 31 #[.pointer (some ⟨rb, 0, none⟩), .int .i64 0, .int .i64 10000] w fun e w' => NumPost w rb 1 1 e w' := by
  have c0 : w.cell? ⟨rb, 0, none⟩ = some (.string liveS) := block_cell h 0
  have c1 : w.cell? ⟨rb, 1, none⟩ = some (.int .i64 0) := block_cell h 1
  have c2 : w.cell? ⟨rb, 2, none⟩ = some (.int .i64 0) := block_cell h 2
  have hlt := block_lt h
  have HH := Lib.hid h
  have HW : Hid (∀ wx, Calls Try.prog 37 #[.int .i64 1, .int .i64 0, .int .i64 10000] wx fun e w' => Same wx e (.bool true) w') := fun wx => within_any 1 0 10000 wx
  have hdd : w.drew.cell? ⟨rb, 0, none⟩ = some (.string liveS) := c0
  have hde : w.drew.cell? ⟨rb, 1, none⟩ = some (.int .i64 0) := c1
  have hdf : rb < w.drew.heap.size := hlt
  have HD : Hid (RdAt w.drew rb 0) := h
  clear h
  go_enter Try.func31, Try.ntmps31
  go_upto_region 3 with fail
  go_cut [6] (fun v wr => v = .int .i64 1 ∧ RdAt wr rb 1 ∧ Keeps (fun b => b = rb) w wr)
  case first =>
    go_region_with (go_at_call 38; refine (get_0 _).mono ?_; rintro e w1 ⟨rfl, k1⟩; have hb1 := (k1.block _ (block_lt HD.out) (fun e => e)).trans HD.out; have y1 := block_cell hb1 1; have y2 := block_cell hb1 2; have z1 := block_free hb1 1; have z2 := block_free hb1 2; have ly := block_lt hb1; clear hb1)
    all_goals (go_wp2; go_meet; exact ⟨rfl, setCell_block (setCell_block ((k1.block _ (block_lt HD.out) (fun e => e)).trans HD.out) 1 _) 2 _, ((Keeps.refl (fun b => b = rb) w).drew.trans (((k1.mono (S1 := fun b => b = rb) (fun _ _ e => e.elim)).setC _ _ (fun _ => rfl)).setC _ _ (fun _ => rfl)) (fun _ _ e => e))⟩)
  case rest =>
    obtain ⟨rfl, h1, k1⟩ := hcut
    have y2 : wc.cell? ⟨rb, 2, none⟩ = some (.int .i64 0) := block_cell h1 2
    have ly := block_lt h1
    have H1 := Lib.hid h1
    have K1 := Lib.hid k1
    clear h1 k1 c0 c1 c2 hlt hdd hde hdf
    go_wp2_with fail
    refine (HW.out _).mono ?_
    rintro e w2 ⟨rfl, k2⟩
    go_wp2
    go_ret
    exact ⟨rfl, (k2.block _ (block_lt H1.out) (fun e => e)).trans H1.out, K1.out.trans k2 (fun _ _ e => e.elim)⟩
set_option maxRecDepth 100000 in
set_option maxHeartbeats 2000000 in
theorem num_1 {w : World} {rb : Nat} (h : RdAt w rb 1) : Calls Try.prog 31 #[.pointer (some ⟨rb, 0, none⟩), .int .i64 0, .int .i64 1073741824] w fun e w' => NumPost w rb 7 2 e w' := by
  have c0 : w.cell? ⟨rb, 0, none⟩ = some (.string liveS) := block_cell h 0
  have c1 : w.cell? ⟨rb, 1, none⟩ = some (.int .i64 1) := block_cell h 1
  have c2 : w.cell? ⟨rb, 2, none⟩ = some (.int .i64 0) := block_cell h 2
  have hlt := block_lt h
  have HH := Lib.hid h
  have HW : Hid (∀ wx, Calls Try.prog 37 #[.int .i64 7, .int .i64 0, .int .i64 1073741824] wx fun e w' => Same wx e (.bool true) w') := fun wx => within_any 7 0 1073741824 wx
  have hdd : w.drew.cell? ⟨rb, 0, none⟩ = some (.string liveS) := c0
  have hde : w.drew.cell? ⟨rb, 1, none⟩ = some (.int .i64 1) := c1
  have hdf : rb < w.drew.heap.size := hlt
  have HD : Hid (RdAt w.drew rb 1) := h
  clear h
  go_enter Try.func31, Try.ntmps31
  go_upto_region 3 with fail
  go_cut [6] (fun v wr => v = .int .i64 7 ∧ RdAt wr rb 2 ∧ Keeps (fun b => b = rb) w wr)
  case first =>
    go_region_with (go_at_call 38; refine (get_1 _).mono ?_; rintro e w1 ⟨rfl, k1⟩; have hb1 := (k1.block _ (block_lt HD.out) (fun e => e)).trans HD.out; have y1 := block_cell hb1 1; have y2 := block_cell hb1 2; have z1 := block_free hb1 1; have z2 := block_free hb1 2; have ly := block_lt hb1; clear hb1)
    all_goals (go_wp2; go_meet; exact ⟨rfl, setCell_block (setCell_block ((k1.block _ (block_lt HD.out) (fun e => e)).trans HD.out) 1 _) 2 _, ((Keeps.refl (fun b => b = rb) w).drew.trans (((k1.mono (S1 := fun b => b = rb) (fun _ _ e => e.elim)).setC _ _ (fun _ => rfl)).setC _ _ (fun _ => rfl)) (fun _ _ e => e))⟩)
  case rest =>
    obtain ⟨rfl, h1, k1⟩ := hcut
    have y2 : wc.cell? ⟨rb, 2, none⟩ = some (.int .i64 0) := block_cell h1 2
    have ly := block_lt h1
    have H1 := Lib.hid h1
    have K1 := Lib.hid k1
    clear h1 k1 c0 c1 c2 hlt hdd hde hdf
    go_wp2_with fail
    refine (HW.out _).mono ?_
    rintro e w2 ⟨rfl, k2⟩
    go_wp2
    go_ret
    exact ⟨rfl, (k2.block _ (block_lt H1.out) (fun e => e)).trans H1.out, K1.out.trans k2 (fun _ _ e => e.elim)⟩
set_option maxRecDepth 100000 in
set_option maxHeartbeats 2000000 in
theorem num_2 {w : World} {rb : Nat} (h : RdAt w rb 2) : Calls Try.prog 31 #[.pointer (some ⟨rb, 0, none⟩), .int .i64 0, .int .i64 32768] w fun e w' => NumPost w rb 0 3 e w' := by
  have c0 : w.cell? ⟨rb, 0, none⟩ = some (.string liveS) := block_cell h 0
  have c1 : w.cell? ⟨rb, 1, none⟩ = some (.int .i64 2) := block_cell h 1
  have c2 : w.cell? ⟨rb, 2, none⟩ = some (.int .i64 0) := block_cell h 2
  have hlt := block_lt h
  have HH := Lib.hid h
  have HW : Hid (∀ wx, Calls Try.prog 37 #[.int .i64 0, .int .i64 0, .int .i64 32768] wx fun e w' => Same wx e (.bool true) w') := fun wx => within_any 0 0 32768 wx
  have hdd : w.drew.cell? ⟨rb, 0, none⟩ = some (.string liveS) := c0
  have hde : w.drew.cell? ⟨rb, 1, none⟩ = some (.int .i64 2) := c1
  have hdf : rb < w.drew.heap.size := hlt
  have HD : Hid (RdAt w.drew rb 2) := h
  clear h
  go_enter Try.func31, Try.ntmps31
  go_upto_region 3 with fail
  go_cut [6] (fun v wr => v = .int .i64 0 ∧ RdAt wr rb 3 ∧ Keeps (fun b => b = rb) w wr)
  case first =>
    go_region_with (go_at_call 38; refine (get_2 _).mono ?_; rintro e w1 ⟨rfl, k1⟩; have hb1 := (k1.block _ (block_lt HD.out) (fun e => e)).trans HD.out; have y1 := block_cell hb1 1; have y2 := block_cell hb1 2; have z1 := block_free hb1 1; have z2 := block_free hb1 2; have ly := block_lt hb1; clear hb1)
    all_goals (go_wp2; go_meet; exact ⟨rfl, setCell_block (setCell_block ((k1.block _ (block_lt HD.out) (fun e => e)).trans HD.out) 1 _) 2 _, ((Keeps.refl (fun b => b = rb) w).drew.trans (((k1.mono (S1 := fun b => b = rb) (fun _ _ e => e.elim)).setC _ _ (fun _ => rfl)).setC _ _ (fun _ => rfl)) (fun _ _ e => e))⟩)
  case rest =>
    obtain ⟨rfl, h1, k1⟩ := hcut
    have y2 : wc.cell? ⟨rb, 2, none⟩ = some (.int .i64 0) := block_cell h1 2
    have ly := block_lt h1
    have H1 := Lib.hid h1
    have K1 := Lib.hid k1
    clear h1 k1 c0 c1 c2 hlt hdd hde hdf
    go_wp2_with fail
    refine (HW.out _).mono ?_
    rintro e w2 ⟨rfl, k2⟩
    go_wp2
    go_ret
    exact ⟨rfl, (k2.block _ (block_lt H1.out) (fun e => e)).trans H1.out, K1.out.trans k2 (fun _ _ e => e.elim)⟩
set_option maxRecDepth 100000 in
set_option maxHeartbeats 2000000 in
theorem num_3 {w : World} {rb : Nat} (h : RdAt w rb 3) : Calls Try.prog 31 #[.pointer (some ⟨rb, 0, none⟩), .int .i64 1, .int .i64 5] w fun e w' => NumPost w rb 2 4 e w' := by
  have c0 : w.cell? ⟨rb, 0, none⟩ = some (.string liveS) := block_cell h 0
  have c1 : w.cell? ⟨rb, 1, none⟩ = some (.int .i64 3) := block_cell h 1
  have c2 : w.cell? ⟨rb, 2, none⟩ = some (.int .i64 0) := block_cell h 2
  have hlt := block_lt h
  have HH := Lib.hid h
  have HW : Hid (∀ wx, Calls Try.prog 37 #[.int .i64 2, .int .i64 1, .int .i64 5] wx fun e w' => Same wx e (.bool true) w') := fun wx => within_any 2 1 5 wx
  have hdd : w.drew.cell? ⟨rb, 0, none⟩ = some (.string liveS) := c0
  have hde : w.drew.cell? ⟨rb, 1, none⟩ = some (.int .i64 3) := c1
  have hdf : rb < w.drew.heap.size := hlt
  have HD : Hid (RdAt w.drew rb 3) := h
  clear h
  go_enter Try.func31, Try.ntmps31
  go_upto_region 3 with fail
  go_cut [6] (fun v wr => v = .int .i64 2 ∧ RdAt wr rb 4 ∧ Keeps (fun b => b = rb) w wr)
  case first =>
    go_region_with (go_at_call 38; refine (get_3 _).mono ?_; rintro e w1 ⟨rfl, k1⟩; have hb1 := (k1.block _ (block_lt HD.out) (fun e => e)).trans HD.out; have y1 := block_cell hb1 1; have y2 := block_cell hb1 2; have z1 := block_free hb1 1; have z2 := block_free hb1 2; have ly := block_lt hb1; clear hb1)
    all_goals (go_wp2; go_meet; exact ⟨rfl, setCell_block (setCell_block ((k1.block _ (block_lt HD.out) (fun e => e)).trans HD.out) 1 _) 2 _, ((Keeps.refl (fun b => b = rb) w).drew.trans (((k1.mono (S1 := fun b => b = rb) (fun _ _ e => e.elim)).setC _ _ (fun _ => rfl)).setC _ _ (fun _ => rfl)) (fun _ _ e => e))⟩)
  case rest =>
    obtain ⟨rfl, h1, k1⟩ := hcut
    have y2 : wc.cell? ⟨rb, 2, none⟩ = some (.int .i64 0) := block_cell h1 2
    have ly := block_lt h1
    have H1 := Lib.hid h1
    have K1 := Lib.hid k1
    clear h1 k1 c0 c1 c2 hlt hdd hde hdf
    go_wp2_with fail
    refine (HW.out _).mono ?_
    rintro e w2 ⟨rfl, k2⟩
    go_wp2
    go_ret
    exact ⟨rfl, (k2.block _ (block_lt H1.out) (fun e => e)).trans H1.out, K1.out.trans k2 (fun _ _ e => e.elim)⟩
set_option maxRecDepth 100000 in
set_option maxHeartbeats 2000000 in
theorem num_4 {w : World} {rb : Nat} (h : RdAt w rb 4) : Calls Try.prog 31 #[.pointer (some ⟨rb, 0, none⟩), .int .i64 0, .int .i64 1073741824] w fun e w' => NumPost w rb 0 5 e w' := by
  have c0 : w.cell? ⟨rb, 0, none⟩ = some (.string liveS) := block_cell h 0
  have c1 : w.cell? ⟨rb, 1, none⟩ = some (.int .i64 4) := block_cell h 1
  have c2 : w.cell? ⟨rb, 2, none⟩ = some (.int .i64 0) := block_cell h 2
  have hlt := block_lt h
  have HH := Lib.hid h
  have HW : Hid (∀ wx, Calls Try.prog 37 #[.int .i64 0, .int .i64 0, .int .i64 1073741824] wx fun e w' => Same wx e (.bool true) w') := fun wx => within_any 0 0 1073741824 wx
  have hdd : w.drew.cell? ⟨rb, 0, none⟩ = some (.string liveS) := c0
  have hde : w.drew.cell? ⟨rb, 1, none⟩ = some (.int .i64 4) := c1
  have hdf : rb < w.drew.heap.size := hlt
  have HD : Hid (RdAt w.drew rb 4) := h
  clear h
  go_enter Try.func31, Try.ntmps31
  go_upto_region 3 with fail
  go_cut [6] (fun v wr => v = .int .i64 0 ∧ RdAt wr rb 5 ∧ Keeps (fun b => b = rb) w wr)
  case first =>
    go_region_with (go_at_call 38; refine (get_4 _).mono ?_; rintro e w1 ⟨rfl, k1⟩; have hb1 := (k1.block _ (block_lt HD.out) (fun e => e)).trans HD.out; have y1 := block_cell hb1 1; have y2 := block_cell hb1 2; have z1 := block_free hb1 1; have z2 := block_free hb1 2; have ly := block_lt hb1; clear hb1)
    all_goals (go_wp2; go_meet; exact ⟨rfl, setCell_block (setCell_block ((k1.block _ (block_lt HD.out) (fun e => e)).trans HD.out) 1 _) 2 _, ((Keeps.refl (fun b => b = rb) w).drew.trans (((k1.mono (S1 := fun b => b = rb) (fun _ _ e => e.elim)).setC _ _ (fun _ => rfl)).setC _ _ (fun _ => rfl)) (fun _ _ e => e))⟩)
  case rest =>
    obtain ⟨rfl, h1, k1⟩ := hcut
    have y2 : wc.cell? ⟨rb, 2, none⟩ = some (.int .i64 0) := block_cell h1 2
    have ly := block_lt h1
    have H1 := Lib.hid h1
    have K1 := Lib.hid k1
    clear h1 k1 c0 c1 c2 hlt hdd hde hdf
    go_wp2_with fail
    refine (HW.out _).mono ?_
    rintro e w2 ⟨rfl, k2⟩
    go_wp2
    go_ret
    exact ⟨rfl, (k2.block _ (block_lt H1.out) (fun e => e)).trans H1.out, K1.out.trans k2 (fun _ _ e => e.elim)⟩
end Go.Proofs.Ytbjpifipjcfhkaa
