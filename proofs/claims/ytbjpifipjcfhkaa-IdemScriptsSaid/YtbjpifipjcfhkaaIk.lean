/-
  reader.number at the places of live's text.
-/
import Derived.Test.YtbjpifipjcfhkaaIj0
import Derived.Deep.RegionWith
namespace Go.Proofs.Ytbjpifipjcfhkaa
open Go.RowKit Fx

set_option maxRecDepth 100000 in
set_option maxHeartbeats 2000000 in
theorem num_5 {w : World} {rb : Nat} (h : RdAt w rb 5) : Calls Try.prog 31 #[.pointer (some ⟨rb, 0, none⟩), .int .i64 0, .int .i64 1099511627776] w fun e w' => NumPost w rb 40 6 e w' := by
  have c0 : w.cell? ⟨rb, 0, none⟩ = some (.string liveS) := block_cell h 0
  have c1 : w.cell? ⟨rb, 1, none⟩ = some (.int .i64 5) := block_cell h 1
  have c2 : w.cell? ⟨rb, 2, none⟩ = some (.int .i64 0) := block_cell h 2
  have hlt := block_lt h
  have HH := Lib.hid h
  have HW : Hid (∀ wx, Calls Try.prog 37 #[.int .i64 40, .int .i64 0, .int .i64 1099511627776] wx fun e w' => Same wx e (.bool true) w') := fun wx => within_any 40 0 1099511627776 wx
  have hdd : w.drew.cell? ⟨rb, 0, none⟩ = some (.string liveS) := c0
  have hde : w.drew.cell? ⟨rb, 1, none⟩ = some (.int .i64 5) := c1
  have hdf : rb < w.drew.heap.size := hlt
  have HD : Hid (RdAt w.drew rb 5) := h
  clear h
  go_enter Try.func31, Try.ntmps31
  go_upto_region 3 with fail
  go_cut [6] (fun v wr => v = .int .i64 40 ∧ RdAt wr rb 6 ∧ Keeps (fun b => b = rb) w wr)
  case first =>
    go_region_with (go_at_call 38; refine (get_5 _).mono ?_; rintro e w1 ⟨rfl, k1⟩; have hb1 := (k1.block _ (block_lt HD.out) (fun e => e)).trans HD.out; have y1 := block_cell hb1 1; have y2 := block_cell hb1 2; have z1 := block_free hb1 1; have z2 := block_free hb1 2; have ly := block_lt hb1; clear hb1)
    all_goals (go_wp2; go_meet; exact ⟨rfl, setCell_block (setCell_block ((k1.block _ (block_lt HD.out) (fun e => e)).trans HD.out) 1 _) 2 _, ((Keeps.refl (fun b => b = rb) w).drew.trans (((k1.mono (S1 := fun b => b = rb) (fun _ _ e => e.elim)).setC _ _ (fun _ => rfl)).setC _ _ (fun _ => rfl)) (fun _ _ e => e))⟩)
  case rest =>
    obtain ⟨rfl, h1, k1⟩ := hcut
    have y2 : wc.cell? ⟨rb, 2, none⟩ = some (.int .i64 0) := block_cell h1 2
    have ly := block_lt h1
    have H1 := Lib.hid h1
    have K1 := Lib.hid k1
    clear h1 k1 c0 c1 c2 hlt hdd hde hdf
    go_wp2_with fail
    refine (HW.out _).mono ?_
    rintro e w2 ⟨rfl, k2⟩
    go_wp2
    go_ret
    exact ⟨rfl, (k2.block _ (block_lt H1.out) (fun e => e)).trans H1.out, K1.out.trans k2 (fun _ _ e => e.elim)⟩
set_option maxRecDepth 100000 in
set_option maxHeartbeats 2000000 in
theorem num_6 {w : World} {rb : Nat} (h : RdAt w rb 6) : Calls Try.prog 31 #[.pointer (some ⟨rb, 0, none⟩), .int .i64 1, .int .i64 50] w fun e w' => NumPost w rb 2 7 e w' := by
  have c0 : w.cell? ⟨rb, 0, none⟩ = some (.string liveS) := block_cell h 0
  have c1 : w.cell? ⟨rb, 1, none⟩ = some (.int .i64 6) := block_cell h 1
  have c2 : w.cell? ⟨rb, 2, none⟩ = some (.int .i64 0) := block_cell h 2
  have hlt := block_lt h
  have HH := Lib.hid h
  have HW : Hid (∀ wx, Calls Try.prog 37 #[.int .i64 2, .int .i64 1, .int .i64 50] wx fun e w' => Same wx e (.bool true) w') := fun wx => within_any 2 1 50 wx
  have hdd : w.drew.cell? ⟨rb, 0, none⟩ = some (.string liveS) := c0
  have hde : w.drew.cell? ⟨rb, 1, none⟩ = some (.int .i64 6) := c1
  have hdf : rb < w.drew.heap.size := hlt
  have HD : Hid (RdAt w.drew rb 6) := h
  clear h
  go_enter Try.func31, Try.ntmps31
  go_upto_region 3 with fail
  go_cut [6] (fun v wr => v = .int .i64 2 ∧ RdAt wr rb 7 ∧ Keeps (fun b => b = rb) w wr)
  case first =>
    go_region_with (go_at_call 38; refine (get_6 _).mono ?_; rintro e w1 ⟨rfl, k1⟩; have hb1 := (k1.block _ (block_lt HD.out) (fun e => e)).trans HD.out; have y1 := block_cell hb1 1; have y2 := block_cell hb1 2; have z1 := block_free hb1 1; have z2 := block_free hb1 2; have ly := block_lt hb1; clear hb1)
    all_goals (go_wp2; go_meet; exact ⟨rfl, setCell_block (setCell_block ((k1.block _ (block_lt HD.out) (fun e => e)).trans HD.out) 1 _) 2 _, ((Keeps.refl (fun b => b = rb) w).drew.trans (((k1.mono (S1 := fun b => b = rb) (fun _ _ e => e.elim)).setC _ _ (fun _ => rfl)).setC _ _ (fun _ => rfl)) (fun _ _ e => e))⟩)
  case rest =>
    obtain ⟨rfl, h1, k1⟩ := hcut
    have y2 : wc.cell? ⟨rb, 2, none⟩ = some (.int .i64 0) := block_cell h1 2
    have ly := block_lt h1
    have H1 := Lib.hid h1
    have K1 := Lib.hid k1
    clear h1 k1 c0 c1 c2 hlt hdd hde hdf
    go_wp2_with fail
    refine (HW.out _).mono ?_
    rintro e w2 ⟨rfl, k2⟩
    go_wp2
    go_ret
    exact ⟨rfl, (k2.block _ (block_lt H1.out) (fun e => e)).trans H1.out, K1.out.trans k2 (fun _ _ e => e.elim)⟩
set_option maxRecDepth 100000 in
set_option maxHeartbeats 2000000 in
theorem num_7 {w : World} {rb : Nat} (h : RdAt w rb 7) : Calls Try.prog 31 #[.pointer (some ⟨rb, 0, none⟩), .int .i64 0, .int .i64 1073741824] w fun e w' => NumPost w rb 2 8 e w' := by
  have c0 : w.cell? ⟨rb, 0, none⟩ = some (.string liveS) := block_cell h 0
  have c1 : w.cell? ⟨rb, 1, none⟩ = some (.int .i64 7) := block_cell h 1
  have c2 : w.cell? ⟨rb, 2, none⟩ = some (.int .i64 0) := block_cell h 2
  have hlt := block_lt h
  have HH := Lib.hid h
  have HW : Hid (∀ wx, Calls Try.prog 37 #[.int .i64 2, .int .i64 0, .int .i64 1073741824] wx fun e w' => Same wx e (.bool true) w') := fun wx => within_any 2 0 1073741824 wx
  have hdd : w.drew.cell? ⟨rb, 0, none⟩ = some (.string liveS) := c0
  have hde : w.drew.cell? ⟨rb, 1, none⟩ = some (.int .i64 7) := c1
  have hdf : rb < w.drew.heap.size := hlt
  have HD : Hid (RdAt w.drew rb 7) := h
  clear h
  go_enter Try.func31, Try.ntmps31
  go_upto_region 3 with fail
  go_cut [6] (fun v wr => v = .int .i64 2 ∧ RdAt wr rb 8 ∧ Keeps (fun b => b = rb) w wr)
  case first =>
    go_region_with (go_at_call 38; refine (get_7 _).mono ?_; rintro e w1 ⟨rfl, k1⟩; have hb1 := (k1.block _ (block_lt HD.out) (fun e => e)).trans HD.out; have y1 := block_cell hb1 1; have y2 := block_cell hb1 2; have z1 := block_free hb1 1; have z2 := block_free hb1 2; have ly := block_lt hb1; clear hb1)
    all_goals (go_wp2; go_meet; exact ⟨rfl, setCell_block (setCell_block ((k1.block _ (block_lt HD.out) (fun e => e)).trans HD.out) 1 _) 2 _, ((Keeps.refl (fun b => b = rb) w).drew.trans (((k1.mono (S1 := fun b => b = rb) (fun _ _ e => e.elim)).setC _ _ (fun _ => rfl)).setC _ _ (fun _ => rfl)) (fun _ _ e => e))⟩)
  case rest =>
    obtain ⟨rfl, h1, k1⟩ := hcut
    have y2 : wc.cell? ⟨rb, 2, none⟩ = some (.int .i64 0) := block_cell h1 2
    have ly := block_lt h1
    have H1 := Lib.hid h1
    have K1 := Lib.hid k1
    clear h1 k1 c0 c1 c2 hlt hdd hde hdf
    go_wp2_with fail
    refine (HW.out _).mono ?_
    rintro e w2 ⟨rfl, k2⟩
    go_wp2
    go_ret
    exact ⟨rfl, (k2.block _ (block_lt H1.out) (fun e => e)).trans H1.out, K1.out.trans k2 (fun _ _ e => e.elim)⟩
set_option maxRecDepth 100000 in
set_option maxHeartbeats 2000000 in
theorem num_8 {w : World} {rb : Nat} (h : RdAt w rb 8) : Calls Try.prog 31 #[.pointer (some ⟨rb, 0, none⟩), .int .i64 0, .int .i64 1099511627776] w fun e w' => NumPost w rb 42 9 e w' := by
  have c0 : w.cell? ⟨rb, 0, none⟩ = some (.string liveS) := block_cell h 0
  have c1 : w.cell? ⟨rb, 1, none⟩ = some (.int .i64 8) := block_cell h 1
  have c2 : w.cell? ⟨rb, 2, none⟩ = some (.int .i64 0) := block_cell h 2
  have hlt := block_lt h
  have HH := Lib.hid h
  have HW : Hid (∀ wx, Calls Try.prog 37 #[.int .i64 42, .int .i64 0, .int .i64 1099511627776] wx fun e w' => Same wx e (.bool true) w') := fun wx => within_any 42 0 1099511627776 wx
  have hdd : w.drew.cell? ⟨rb, 0, none⟩ = some (.string liveS) := c0
  have hde : w.drew.cell? ⟨rb, 1, none⟩ = some (.int .i64 8) := c1
  have hdf : rb < w.drew.heap.size := hlt
  have HD : Hid (RdAt w.drew rb 8) := h
  clear h
  go_enter Try.func31, Try.ntmps31
  go_upto_region 3 with fail
  go_cut [6] (fun v wr => v = .int .i64 42 ∧ RdAt wr rb 9 ∧ Keeps (fun b => b = rb) w wr)
  case first =>
    go_region_with (go_at_call 38; refine (get_8 _).mono ?_; rintro e w1 ⟨rfl, k1⟩; have hb1 := (k1.block _ (block_lt HD.out) (fun e => e)).trans HD.out; have y1 := block_cell hb1 1; have y2 := block_cell hb1 2; have z1 := block_free hb1 1; have z2 := block_free hb1 2; have ly := block_lt hb1; clear hb1)
    all_goals (go_wp2; go_meet; exact ⟨rfl, setCell_block (setCell_block ((k1.block _ (block_lt HD.out) (fun e => e)).trans HD.out) 1 _) 2 _, ((Keeps.refl (fun b => b = rb) w).drew.trans (((k1.mono (S1 := fun b => b = rb) (fun _ _ e => e.elim)).setC _ _ (fun _ => rfl)).setC _ _ (fun _ => rfl)) (fun _ _ e => e))⟩)
  case rest =>
    obtain ⟨rfl, h1, k1⟩ := hcut
    have y2 : wc.cell? ⟨rb, 2, none⟩ = some (.int .i64 0) := block_cell h1 2
    have ly := block_lt h1
    have H1 := Lib.hid h1
    have K1 := Lib.hid k1
    clear h1 k1 c0 c1 c2 hlt hdd hde hdf
    go_wp2_with fail
    refine (HW.out _).mono ?_
    rintro e w2 ⟨rfl, k2⟩
    go_wp2
    go_ret
    exact ⟨rfl, (k2.block _ (block_lt H1.out) (fun e => e)).trans H1.out, K1.out.trans k2 (fun _ _ e => e.elim)⟩
set_option maxRecDepth 100000 in
set_option maxHeartbeats 2000000 in
theorem num_9 {w : World} {rb : Nat} (h : RdAt w rb 9) : Calls Try.prog 31 #[.pointer (some ⟨rb, 0, none⟩), .int .i64 1, .int .i64 50] w fun e w' => NumPost w rb 1 10 e w' := by
  have c0 : w.cell? ⟨rb, 0, none⟩ = some (.string liveS) := block_cell h 0
  have c1 : w.cell? ⟨rb, 1, none⟩ = some (.int .i64 9) := block_cell h 1
  have c2 : w.cell? ⟨rb, 2, none⟩ = some (.int .i64 0) := block_cell h 2
  have hlt := block_lt h
  have HH := Lib.hid h
  have HW : Hid (∀ wx, Calls Try.prog 37 #[.int .i64 1, .int .i64 1, .int .i64 50] wx fun e w' => Same wx e (.bool true) w') := fun wx => within_any 1 1 50 wx
  have hdd : w.drew.cell? ⟨rb, 0, none⟩ = some (.string liveS) := c0
  have hde : w.drew.cell? ⟨rb, 1, none⟩ = some (.int .i64 9) := c1
  have hdf : rb < w.drew.heap.size := hlt
  have HD : Hid (RdAt w.drew rb 9) := h
  clear h
  go_enter Try.func31, Try.ntmps31
  go_upto_region 3 with fail
  go_cut [6] (fun v wr => v = .int .i64 1 ∧ RdAt wr rb 10 ∧ Keeps (fun b => b = rb) w wr)
  case first =>
    go_region_with (go_at_call 38; refine (get_9 _).mono ?_; rintro e w1 ⟨rfl, k1⟩; have hb1 := (k1.block _ (block_lt HD.out) (fun e => e)).trans HD.out; have y1 := block_cell hb1 1; have y2 := block_cell hb1 2; have z1 := block_free hb1 1; have z2 := block_free hb1 2; have ly := block_lt hb1; clear hb1)
    all_goals (go_wp2; go_meet; exact ⟨rfl, setCell_block (setCell_block ((k1.block _ (block_lt HD.out) (fun e => e)).trans HD.out) 1 _) 2 _, ((Keeps.refl (fun b => b = rb) w).drew.trans (((k1.mono (S1 := fun b => b = rb) (fun _ _ e => e.elim)).setC _ _ (fun _ => rfl)).setC _ _ (fun _ => rfl)) (fun _ _ e => e))⟩)
  case rest =>
    obtain ⟨rfl, h1, k1⟩ := hcut
    have y2 : wc.cell? ⟨rb, 2, none⟩ = some (.int .i64 0) := block_cell h1 2
    have ly := block_lt h1
    have H1 := Lib.hid h1
    have K1 := Lib.hid k1
    clear h1 k1 c0 c1 c2 hlt hdd hde hdf
    go_wp2_with fail
    refine (HW.out _).mono ?_
    rintro e w2 ⟨rfl, k2⟩
    go_wp2
    go_ret
    exact ⟨rfl, (k2.block _ (block_lt H1.out) (fun e => e)).trans H1.out, K1.out.trans k2 (fun _ _ e => e.elim)⟩
end Go.Proofs.Ytbjpifipjcfhkaa
