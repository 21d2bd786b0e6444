/-
  step: one call on both disks.
-/
import Derived.Test.YtjfblcmpdcbpgaaEo
import Derived.Deep.RegionHeld3
namespace Go.Proofs.Ytjfblcmpdcbpgaa
open Go.RowKit Fx

def StepP (w0 : World) (n : Nat) (e : Ending) (w' : World) : Prop :=
  ∃ db D b R, e = .returned (.tuple #[.pointer (some ⟨db, 0, none⟩), .pointer (some ⟨b, 0, none⟩), .bool true]) ∧ JSt (fun _ => False) w0 w0 w' db D b R ∧ Good D R (n + 1)
section
variable {w0 w : World} {db b n : Nat} {D R : DiskC} {nm tx : ByteArray} {m : Int} {kp : List Int} {ka : Option Addr} {kc : Nat}
set_option maxRecDepth 100000 in
set_option maxHeartbeats 4000000 in
theorem step_0 (h : JSt (fun _ => False) w0 w0 w db D b R) (hg : Good D R n) (hn : n ≤ 900) (ht : tx.size ≤ 300) : Calls Try.prog 22 #[.pointer (some ⟨db, 0, none⟩), .pointer (some ⟨b, 0, none⟩), .agg #[.int .i64 0, .string nm, .string tx, .int .i64 m, .slice ka kp.length kc]] w (StepP w0 n) := by
  have HA : Hid ((w.alloc (.cells #[.int .i64 0, .string nm, .string tx, .int .i64 m, .slice ka kp.length kc] 50)).heap[w.heap.size]? = some (.cells #[.int .i64 0, .string nm, .string tx, .int .i64 m, .slice ka kp.length kc] 50 (0, 0))) := heap_new _ _ _ rfl
  have HJ := Lib.hid (h.base (w.alloc (.cells #[.int .i64 0, .string nm, .string tx, .int .i64 m, .slice ka kp.length kc] 50)) ((Keeps.refl _ _).alloc _) (Nat.le_refl _) (by simp))
  have HG := Lib.hid hg
  have HD := Lib.hid hg.wf
  have HR := Lib.hid hg.wfR
  have HL : Hid (R.files.length ≤ 1000) := by have := hg.lenR; show _ ≤ _; omega
  clear h hg
  go_enter Try.func22, Try.ntmps22
  go_wp2_with fail
  obtain ⟨bo, hbo⟩ : ∃ bo, bo = w.heap.size := ⟨_, rfl⟩
  rw [← hbo] at HA HJ ⊢
  clear hbo
  generalize w.alloc _ = wa at HA HJ ⊢
  have c1 : wa.cell? ⟨bo, 1, none⟩ = some (.string nm) := block_cell HA.out 1
  have c2 : wa.cell? ⟨bo, 2, none⟩ = some (.string tx) := block_cell HA.out 2
  have c3 : wa.cell? ⟨bo, 3, none⟩ = some (.int .i64 m) := block_cell HA.out 3
  have c4 : wa.cell? ⟨bo, 4, none⟩ = some (.slice ka kp.length kc) := block_cell HA.out 4
  have hbl := block_lt HA.out
  have HC : Hid (∀ wx db' D' b' R', JSt (fun k => k = bo) w0 wa wx db' D' b' R' → wx.cell? ⟨bo, 1, none⟩ = some (.string nm) ∧ wx.cell? ⟨bo, 2, none⟩ = some (.string tx) ∧ wx.cell? ⟨bo, 3, none⟩ = some (.int .i64 m) ∧ wx.cell? ⟨bo, 4, none⟩ = some (.slice ka kp.length kc) ∧ bo < wx.heap.size) := by
    show ∀ _ _ _ _ _, _ → _
    intro wx db' D' b' R' hj
    have hk := (hj.blk rfl).trans HA.out
    exact ⟨block_cell hk 1, block_cell hk 2, block_cell hk 3, block_cell hk 4, block_lt hk⟩
  obtain ⟨x, hx⟩ : ∃ x : Int, dappE D nm tx = x := ⟨_, rfl⟩
  have HP : Hid (∀ wx R', JSt (fun k => k = bo) w0 wa wx db D b R' → Calls Try.prog 11 #[.pointer (some ⟨db, 0, none⟩), .string nm, .string tx] wx fun e w' => e = .returned (.int .i64 x) ∧ JSt (fun k => k = bo) w0 wa w' db (dappC D nm tx) b R') := by
    show ∀ _ _, _ → _
    intro wx R' hj
    rw [← hx]
    exact jp_app hj HD.out nm tx (by omega)
  have H33 : Hid (∀ wx D', JSt (fun k => k = bo) w0 wa wx db D' b R → Calls Try.prog 33 #[.pointer (some ⟨b, 0, none⟩), .string nm, .string tx] wx fun e w' => e = .returned (.int .i64 x) ∧ JSt (fun k => k = bo) w0 wa w' db D' b (rappC R nm tx)) := by
    show ∀ _ _, _ → _
    intro wx D' hj
    rw [← hx, ← HG.out.sim.appE nm tx]
    exact jr_app hj HR.out HL.out nm tx (by omega)
  have hj0 := HJ.out.keep (Keeps.refl _ _).drew
  have HX := Lib.hid hx
  clear hx
  go_region_held3 (fun w' : World => w'.cell? ⟨bo, 1, none⟩ = some (.string nm) ∧ w'.cell? ⟨bo, 2, none⟩ = some (.string tx) ∧ w'.cell? ⟨bo, 3, none⟩ = some (.int .i64 m) ∧ w'.cell? ⟨bo, 4, none⟩ = some (.slice ka kp.length kc) ∧ bo < w'.heap.size)
    (first | go_keep | (refine ⟨?_, ?_, ?_, ?_, ?_⟩ <;> assumption))
    (first | (go_at_call 11; refine (HP.out _ _ (by assumption)).mono ?_; rintro e w' ⟨rfl, hs⟩; obtain ⟨d1, d2, d3, d4, d5⟩ := HC.out _ _ _ _ _ hs) | (go_at_call 33; refine (H33.out _ _ (by assumption)).mono ?_; rintro e w' ⟨rfl, hs⟩; obtain ⟨d1, d2, d3, d4, d5⟩ := HC.out _ _ _ _ _ hs))
  all_goals
    go_wp2
    go_ret3
    exact ⟨db, dappC D nm tx, b, rappC R nm tx, rfl, JSt.drop (E := fun k => k = bo) (wb := wa) (by assumption) w0, HG.out.app nm tx⟩
set_option maxRecDepth 100000 in
set_option maxHeartbeats 4000000 in
theorem step_1 (h : JSt (fun _ => False) w0 w0 w db D b R) (hg : Good D R n) (hn : n ≤ 900) : Calls Try.prog 22 #[.pointer (some ⟨db, 0, none⟩), .pointer (some ⟨b, 0, none⟩), .agg #[.int .i64 1, .string nm, .string tx, .int .i64 m, .slice ka kp.length kc]] w (StepP w0 n) := by
  have HA : Hid ((w.alloc (.cells #[.int .i64 1, .string nm, .string tx, .int .i64 m, .slice ka kp.length kc] 50)).heap[w.heap.size]? = some (.cells #[.int .i64 1, .string nm, .string tx, .int .i64 m, .slice ka kp.length kc] 50 (0, 0))) := heap_new _ _ _ rfl
  have HJ := Lib.hid (h.base (w.alloc (.cells #[.int .i64 1, .string nm, .string tx, .int .i64 m, .slice ka kp.length kc] 50)) ((Keeps.refl _ _).alloc _) (Nat.le_refl _) (by simp))
  have HG := Lib.hid hg
  have HD := Lib.hid hg.wf
  have HR := Lib.hid hg.wfR
  have HL : Hid (R.files.length ≤ 1000) := by have := hg.lenR; show _ ≤ _; omega
  clear h hg
  go_enter Try.func22, Try.ntmps22
  go_wp2_with fail
  obtain ⟨bo, hbo⟩ : ∃ bo, bo = w.heap.size := ⟨_, rfl⟩
  rw [← hbo] at HA HJ ⊢
  clear hbo
  generalize w.alloc _ = wa at HA HJ ⊢
  have c1 : wa.cell? ⟨bo, 1, none⟩ = some (.string nm) := block_cell HA.out 1
  have c2 : wa.cell? ⟨bo, 2, none⟩ = some (.string tx) := block_cell HA.out 2
  have c3 : wa.cell? ⟨bo, 3, none⟩ = some (.int .i64 m) := block_cell HA.out 3
  have c4 : wa.cell? ⟨bo, 4, none⟩ = some (.slice ka kp.length kc) := block_cell HA.out 4
  have hbl := block_lt HA.out
  have HC : Hid (∀ wx db' D' b' R', JSt (fun k => k = bo) w0 wa wx db' D' b' R' → wx.cell? ⟨bo, 1, none⟩ = some (.string nm) ∧ wx.cell? ⟨bo, 2, none⟩ = some (.string tx) ∧ wx.cell? ⟨bo, 3, none⟩ = some (.int .i64 m) ∧ wx.cell? ⟨bo, 4, none⟩ = some (.slice ka kp.length kc) ∧ bo < wx.heap.size) := by
    show ∀ _ _ _ _ _, _ → _
    intro wx db' D' b' R' hj
    have hk := (hj.blk rfl).trans HA.out
    exact ⟨block_cell hk 1, block_cell hk 2, block_cell hk 3, block_cell hk 4, block_lt hk⟩
  obtain ⟨x, hx⟩ : ∃ x : Int, fileE D nm = x := ⟨_, rfl⟩
  have HP : Hid (∀ wx R', JSt (fun k => k = bo) w0 wa wx db D b R' → Calls Try.prog 12 #[.pointer (some ⟨db, 0, none⟩), .string nm] wx fun e w' => e = .returned (.int .i64 x) ∧ JSt (fun k => k = bo) w0 wa w' db (dsyncC D nm) b R') := by
    show ∀ _ _, _ → _
    intro wx R' hj
    rw [← hx]
    exact jp_sync hj HD.out nm
  have H34 : Hid (∀ wx D', JSt (fun k => k = bo) w0 wa wx db D' b R → Calls Try.prog 34 #[.pointer (some ⟨b, 0, none⟩), .string nm] wx fun e w' => e = .returned (.int .i64 x) ∧ JSt (fun k => k = bo) w0 wa w' db D' b (dsyncC R nm)) := by
    show ∀ _ _, _ → _
    intro wx D' hj
    rw [← hx, ← HG.out.sim.fileE nm]
    exact jr_sync hj HR.out HL.out nm
  have hj0 := HJ.out.keep (Keeps.refl _ _).drew
  have HX := Lib.hid hx
  clear hx
  go_region_held3 (fun w' : World => w'.cell? ⟨bo, 1, none⟩ = some (.string nm) ∧ w'.cell? ⟨bo, 2, none⟩ = some (.string tx) ∧ w'.cell? ⟨bo, 3, none⟩ = some (.int .i64 m) ∧ w'.cell? ⟨bo, 4, none⟩ = some (.slice ka kp.length kc) ∧ bo < w'.heap.size)
    (first | go_keep | (refine ⟨?_, ?_, ?_, ?_, ?_⟩ <;> assumption))
    (first | (go_at_call 12; refine (HP.out _ _ (by assumption)).mono ?_; rintro e w' ⟨rfl, hs⟩; obtain ⟨d1, d2, d3, d4, d5⟩ := HC.out _ _ _ _ _ hs) | (go_at_call 34; refine (H34.out _ _ (by assumption)).mono ?_; rintro e w' ⟨rfl, hs⟩; obtain ⟨d1, d2, d3, d4, d5⟩ := HC.out _ _ _ _ _ hs))
  all_goals
    go_wp2
    go_ret3
    exact ⟨db, dsyncC D nm, b, dsyncC R nm, rfl, JSt.drop (E := fun k => k = bo) (wb := wa) (by assumption) w0, HG.out.sync nm⟩
set_option maxRecDepth 100000 in
set_option maxHeartbeats 4000000 in
theorem step_3 (h : JSt (fun _ => False) w0 w0 w db D b R) (hg : Good D R n) (hn : n ≤ 900) : Calls Try.prog 22 #[.pointer (some ⟨db, 0, none⟩), .pointer (some ⟨b, 0, none⟩), .agg #[.int .i64 3, .string nm, .string tx, .int .i64 m, .slice ka kp.length kc]] w (StepP w0 n) := by
  have HA : Hid ((w.alloc (.cells #[.int .i64 3, .string nm, .string tx, .int .i64 m, .slice ka kp.length kc] 50)).heap[w.heap.size]? = some (.cells #[.int .i64 3, .string nm, .string tx, .int .i64 m, .slice ka kp.length kc] 50 (0, 0))) := heap_new _ _ _ rfl
  have HJ := Lib.hid (h.base (w.alloc (.cells #[.int .i64 3, .string nm, .string tx, .int .i64 m, .slice ka kp.length kc] 50)) ((Keeps.refl _ _).alloc _) (Nat.le_refl _) (by simp))
  have HG := Lib.hid hg
  have HD := Lib.hid hg.wf
  have HR := Lib.hid hg.wfR
  have HL : Hid (R.files.length ≤ 1000) := by have := hg.lenR; show _ ≤ _; omega
  clear h hg
  go_enter Try.func22, Try.ntmps22
  go_wp2_with fail
  obtain ⟨bo, hbo⟩ : ∃ bo, bo = w.heap.size := ⟨_, rfl⟩
  rw [← hbo] at HA HJ ⊢
  clear hbo
  generalize w.alloc _ = wa at HA HJ ⊢
  have c1 : wa.cell? ⟨bo, 1, none⟩ = some (.string nm) := block_cell HA.out 1
  have c2 : wa.cell? ⟨bo, 2, none⟩ = some (.string tx) := block_cell HA.out 2
  have c3 : wa.cell? ⟨bo, 3, none⟩ = some (.int .i64 m) := block_cell HA.out 3
  have c4 : wa.cell? ⟨bo, 4, none⟩ = some (.slice ka kp.length kc) := block_cell HA.out 4
  have hbl := block_lt HA.out
  have HC : Hid (∀ wx db' D' b' R', JSt (fun k => k = bo) w0 wa wx db' D' b' R' → wx.cell? ⟨bo, 1, none⟩ = some (.string nm) ∧ wx.cell? ⟨bo, 2, none⟩ = some (.string tx) ∧ wx.cell? ⟨bo, 3, none⟩ = some (.int .i64 m) ∧ wx.cell? ⟨bo, 4, none⟩ = some (.slice ka kp.length kc) ∧ bo < wx.heap.size) := by
    show ∀ _ _ _ _ _, _ → _
    intro wx db' D' b' R' hj
    have hk := (hj.blk rfl).trans HA.out
    exact ⟨block_cell hk 1, block_cell hk 2, block_cell hk 3, block_cell hk 4, block_lt hk⟩
  obtain ⟨x, hx⟩ : ∃ x : Int, dcutE D nm m = x := ⟨_, rfl⟩
  have HP : Hid (∀ wx R', JSt (fun k => k = bo) w0 wa wx db D b R' → Calls Try.prog 20 #[.pointer (some ⟨db, 0, none⟩), .string nm, .int .i64 m] wx fun e w' => e = .returned (.int .i64 x) ∧ JSt (fun k => k = bo) w0 wa w' db (dcutC D nm m) b R') := by
    show ∀ _ _, _ → _
    intro wx R' hj
    rw [← hx]
    exact jp_cut hj HD.out nm m
  have H36 : Hid (∀ wx D', JSt (fun k => k = bo) w0 wa wx db D' b R → Calls Try.prog 36 #[.pointer (some ⟨b, 0, none⟩), .string nm, .int .i64 m] wx fun e w' => e = .returned (.int .i64 x) ∧ JSt (fun k => k = bo) w0 wa w' db D' b (dcutC R nm m)) := by
    show ∀ _ _, _ → _
    intro wx D' hj
    rw [← hx, ← HG.out.sim.cutE nm m]
    exact jr_cut hj HR.out HL.out nm m
  have hj0 := HJ.out.keep (Keeps.refl _ _).drew
  have HX := Lib.hid hx
  clear hx
  go_region_held3 (fun w' : World => w'.cell? ⟨bo, 1, none⟩ = some (.string nm) ∧ w'.cell? ⟨bo, 2, none⟩ = some (.string tx) ∧ w'.cell? ⟨bo, 3, none⟩ = some (.int .i64 m) ∧ w'.cell? ⟨bo, 4, none⟩ = some (.slice ka kp.length kc) ∧ bo < w'.heap.size)
    (first | go_keep | (refine ⟨?_, ?_, ?_, ?_, ?_⟩ <;> assumption))
    (first | (go_at_call 20; refine (HP.out _ _ (by assumption)).mono ?_; rintro e w' ⟨rfl, hs⟩; obtain ⟨d1, d2, d3, d4, d5⟩ := HC.out _ _ _ _ _ hs) | (go_at_call 36; refine (H36.out _ _ (by assumption)).mono ?_; rintro e w' ⟨rfl, hs⟩; obtain ⟨d1, d2, d3, d4, d5⟩ := HC.out _ _ _ _ _ hs))
  all_goals
    go_wp2
    go_ret3
    exact ⟨db, dcutC D nm m, b, dcutC R nm m, rfl, JSt.drop (E := fun k => k = bo) (wb := wa) (by assumption) w0, HG.out.cut nm m⟩
set_option maxRecDepth 100000 in
set_option maxHeartbeats 4000000 in
theorem step_4 (h : JSt (fun _ => False) w0 w0 w db D b R) (hg : Good D R n) (hn : n ≤ 900) : Calls Try.prog 22 #[.pointer (some ⟨db, 0, none⟩), .pointer (some ⟨b, 0, none⟩), .agg #[.int .i64 4, .string nm, .string tx, .int .i64 m, .slice ka kp.length kc]] w (StepP w0 n) := by
  have HA : Hid ((w.alloc (.cells #[.int .i64 4, .string nm, .string tx, .int .i64 m, .slice ka kp.length kc] 50)).heap[w.heap.size]? = some (.cells #[.int .i64 4, .string nm, .string tx, .int .i64 m, .slice ka kp.length kc] 50 (0, 0))) := heap_new _ _ _ rfl
  have HJ := Lib.hid (h.base (w.alloc (.cells #[.int .i64 4, .string nm, .string tx, .int .i64 m, .slice ka kp.length kc] 50)) ((Keeps.refl _ _).alloc _) (Nat.le_refl _) (by simp))
  have HG := Lib.hid hg
  have HD := Lib.hid hg.wf
  have HR := Lib.hid hg.wfR
  have HL : Hid (R.files.length ≤ 1000) := by have := hg.lenR; show _ ≤ _; omega
  clear h hg
  go_enter Try.func22, Try.ntmps22
  go_wp2_with fail
  obtain ⟨bo, hbo⟩ : ∃ bo, bo = w.heap.size := ⟨_, rfl⟩
  rw [← hbo] at HA HJ ⊢
  clear hbo
  generalize w.alloc _ = wa at HA HJ ⊢
  have c1 : wa.cell? ⟨bo, 1, none⟩ = some (.string nm) := block_cell HA.out 1
  have c2 : wa.cell? ⟨bo, 2, none⟩ = some (.string tx) := block_cell HA.out 2
  have c3 : wa.cell? ⟨bo, 3, none⟩ = some (.int .i64 m) := block_cell HA.out 3
  have c4 : wa.cell? ⟨bo, 4, none⟩ = some (.slice ka kp.length kc) := block_cell HA.out 4
  have hbl := block_lt HA.out
  have HC : Hid (∀ wx db' D' b' R', JSt (fun k => k = bo) w0 wa wx db' D' b' R' → wx.cell? ⟨bo, 1, none⟩ = some (.string nm) ∧ wx.cell? ⟨bo, 2, none⟩ = some (.string tx) ∧ wx.cell? ⟨bo, 3, none⟩ = some (.int .i64 m) ∧ wx.cell? ⟨bo, 4, none⟩ = some (.slice ka kp.length kc) ∧ bo < wx.heap.size) := by
    show ∀ _ _ _ _ _, _ → _
    intro wx db' D' b' R' hj
    have hk := (hj.blk rfl).trans HA.out
    exact ⟨block_cell hk 1, block_cell hk 2, block_cell hk 3, block_cell hk 4, block_lt hk⟩
  obtain ⟨x, hx⟩ : ∃ x : Int, drenE D nm tx = x := ⟨_, rfl⟩
  have HP : Hid (∀ wx R', JSt (fun k => k = bo) w0 wa wx db D b R' → Calls Try.prog 21 #[.pointer (some ⟨db, 0, none⟩), .string nm, .string tx] wx fun e w' => e = .returned (.int .i64 x) ∧ JSt (fun k => k = bo) w0 wa w' db (drenC D nm tx) b R') := by
    show ∀ _ _, _ → _
    intro wx R' hj
    rw [← hx]
    exact jp_ren hj HD.out nm tx
  have H37 : Hid (∀ wx D', JSt (fun k => k = bo) w0 wa wx db D' b R → Calls Try.prog 37 #[.pointer (some ⟨b, 0, none⟩), .string nm, .string tx] wx fun e w' => e = .returned (.int .i64 x) ∧ JSt (fun k => k = bo) w0 wa w' db D' b (rrenC R nm tx)) := by
    show ∀ _ _, _ → _
    intro wx D' hj
    rw [← hx, ← HG.out.sim.renE nm tx]
    exact jr_ren hj HR.out HL.out nm tx
  have hj0 := HJ.out.keep (Keeps.refl _ _).drew
  have HX := Lib.hid hx
  clear hx
  go_region_held3 (fun w' : World => w'.cell? ⟨bo, 1, none⟩ = some (.string nm) ∧ w'.cell? ⟨bo, 2, none⟩ = some (.string tx) ∧ w'.cell? ⟨bo, 3, none⟩ = some (.int .i64 m) ∧ w'.cell? ⟨bo, 4, none⟩ = some (.slice ka kp.length kc) ∧ bo < w'.heap.size)
    (first | go_keep | (refine ⟨?_, ?_, ?_, ?_, ?_⟩ <;> assumption))
    (first | (go_at_call 21; refine (HP.out _ _ (by assumption)).mono ?_; rintro e w' ⟨rfl, hs⟩; obtain ⟨d1, d2, d3, d4, d5⟩ := HC.out _ _ _ _ _ hs) | (go_at_call 37; refine (H37.out _ _ (by assumption)).mono ?_; rintro e w' ⟨rfl, hs⟩; obtain ⟨d1, d2, d3, d4, d5⟩ := HC.out _ _ _ _ _ hs))
  all_goals
    go_wp2
    go_ret3
    exact ⟨db, drenC D nm tx, b, rrenC R nm tx, rfl, JSt.drop (E := fun k => k = bo) (wb := wa) (by assumption) w0, HG.out.ren nm tx⟩
set_option maxRecDepth 100000 in
set_option maxHeartbeats 4000000 in
theorem step_5 (h : JSt (fun _ => False) w0 w0 w db D b R) (hg : Good D R n) (hn : n ≤ 900) : Calls Try.prog 22 #[.pointer (some ⟨db, 0, none⟩), .pointer (some ⟨b, 0, none⟩), .agg #[.int .i64 5, .string nm, .string tx, .int .i64 m, .slice ka kp.length kc]] w (StepP w0 n) := by
  have HA : Hid ((w.alloc (.cells #[.int .i64 5, .string nm, .string tx, .int .i64 m, .slice ka kp.length kc] 50)).heap[w.heap.size]? = some (.cells #[.int .i64 5, .string nm, .string tx, .int .i64 m, .slice ka kp.length kc] 50 (0, 0))) := heap_new _ _ _ rfl
  have HJ := Lib.hid (h.base (w.alloc (.cells #[.int .i64 5, .string nm, .string tx, .int .i64 m, .slice ka kp.length kc] 50)) ((Keeps.refl _ _).alloc _) (Nat.le_refl _) (by simp))
  have HG := Lib.hid hg
  have HD := Lib.hid hg.wf
  have HR := Lib.hid hg.wfR
  have HL : Hid (R.files.length ≤ 1000) := by have := hg.lenR; show _ ≤ _; omega
  clear h hg
  go_enter Try.func22, Try.ntmps22
  go_wp2_with fail
  obtain ⟨bo, hbo⟩ : ∃ bo, bo = w.heap.size := ⟨_, rfl⟩
  rw [← hbo] at HA HJ ⊢
  clear hbo
  generalize w.alloc _ = wa at HA HJ ⊢
  have c1 : wa.cell? ⟨bo, 1, none⟩ = some (.string nm) := block_cell HA.out 1
  have c2 : wa.cell? ⟨bo, 2, none⟩ = some (.string tx) := block_cell HA.out 2
  have c3 : wa.cell? ⟨bo, 3, none⟩ = some (.int .i64 m) := block_cell HA.out 3
  have c4 : wa.cell? ⟨bo, 4, none⟩ = some (.slice ka kp.length kc) := block_cell HA.out 4
  have hbl := block_lt HA.out
  have HC : Hid (∀ wx db' D' b' R', JSt (fun k => k = bo) w0 wa wx db' D' b' R' → wx.cell? ⟨bo, 1, none⟩ = some (.string nm) ∧ wx.cell? ⟨bo, 2, none⟩ = some (.string tx) ∧ wx.cell? ⟨bo, 3, none⟩ = some (.int .i64 m) ∧ wx.cell? ⟨bo, 4, none⟩ = some (.slice ka kp.length kc) ∧ bo < wx.heap.size) := by
    show ∀ _ _ _ _ _, _ → _
    intro wx db' D' b' R' hj
    have hk := (hj.blk rfl).trans HA.out
    exact ⟨block_cell hk 1, block_cell hk 2, block_cell hk 3, block_cell hk 4, block_lt hk⟩
  obtain ⟨x, hx⟩ : ∃ x : Int, fileE D nm = x := ⟨_, rfl⟩
  have HP : Hid (∀ wx R', JSt (fun k => k = bo) w0 wa wx db D b R' → Calls Try.prog 16 #[.pointer (some ⟨db, 0, none⟩), .string nm] wx fun e w' => e = .returned (.int .i64 x) ∧ JSt (fun k => k = bo) w0 wa w' db (ddropC D nm) b R') := by
    show ∀ _ _, _ → _
    intro wx R' hj
    rw [← hx]
    exact jp_drop hj HD.out nm
  have H38 : Hid (∀ wx D', JSt (fun k => k = bo) w0 wa wx db D' b R → Calls Try.prog 38 #[.pointer (some ⟨b, 0, none⟩), .string nm] wx fun e w' => e = .returned (.int .i64 x) ∧ JSt (fun k => k = bo) w0 wa w' db D' b (ddropC R nm)) := by
    show ∀ _ _, _ → _
    intro wx D' hj
    rw [← hx, ← HG.out.sim.fileE nm]
    exact jr_drop hj HR.out HL.out nm
  have hj0 := HJ.out.keep (Keeps.refl _ _).drew
  have HX := Lib.hid hx
  clear hx
  go_region_held3 (fun w' : World => w'.cell? ⟨bo, 1, none⟩ = some (.string nm) ∧ w'.cell? ⟨bo, 2, none⟩ = some (.string tx) ∧ w'.cell? ⟨bo, 3, none⟩ = some (.int .i64 m) ∧ w'.cell? ⟨bo, 4, none⟩ = some (.slice ka kp.length kc) ∧ bo < w'.heap.size)
    (first | go_keep | (refine ⟨?_, ?_, ?_, ?_, ?_⟩ <;> assumption))
    (first | (go_at_call 16; refine (HP.out _ _ (by assumption)).mono ?_; rintro e w' ⟨rfl, hs⟩; obtain ⟨d1, d2, d3, d4, d5⟩ := HC.out _ _ _ _ _ hs) | (go_at_call 38; refine (H38.out _ _ (by assumption)).mono ?_; rintro e w' ⟨rfl, hs⟩; obtain ⟨d1, d2, d3, d4, d5⟩ := HC.out _ _ _ _ _ hs))
  all_goals
    go_wp2
    go_ret3
    exact ⟨db, ddropC D nm, b, ddropC R nm, rfl, JSt.drop (E := fun k => k = bo) (wb := wa) (by assumption) w0, HG.out.drop nm⟩
theorem sort_le {l : List (ByteArray × FileC)} (h : SortF l) : ((keysF l).map fun s => s.data.toList).Pairwise fun x y => x ≤ y := by
  refine List.pairwise_map.2 (List.Pairwise.imp ?_ h)
  intro a b hab
  exact List.le_of_lt ((blt_iff a b).1 hab)
set_option maxRecDepth 100000 in
set_option maxHeartbeats 4000000 in
theorem step_7 (h : JSt (fun _ => False) w0 w0 w db D b R) (hg : Good D R n) (hn : n ≤ 900) (hI : Ints w0 (fun _ => True) ka kp) : Calls Try.prog 22 #[.pointer (some ⟨db, 0, none⟩), .pointer (some ⟨b, 0, none⟩), .agg #[.int .i64 7, .string nm, .string tx, .int .i64 m, .slice ka kp.length kc]] w (StepP w0 n) := by
  have HA : Hid ((w.alloc (.cells #[.int .i64 7, .string nm, .string tx, .int .i64 m, .slice ka kp.length kc] 50)).heap[w.heap.size]? = some (.cells #[.int .i64 7, .string nm, .string tx, .int .i64 m, .slice ka kp.length kc] 50 (0, 0))) := heap_new _ _ _ rfl
  have HJ := Lib.hid (h.base (w.alloc (.cells #[.int .i64 7, .string nm, .string tx, .int .i64 m, .slice ka kp.length kc] 50)) ((Keeps.refl _ _).alloc _) (Nat.le_refl _) (by simp))
  have HG := Lib.hid hg
  have HD := Lib.hid hg.wf
  have HR := Lib.hid hg.wfR
  have HL : Hid (R.files.length ≤ 1000) := by have := hg.lenR; show _ ≤ _; omega
  have HI := Lib.hid hI
  have HLD : Hid (D.files.length ≤ 1000) := by have := hg.len; show _ ≤ _; omega
  clear h hg hI
  go_enter Try.func22, Try.ntmps22
  go_wp2_with fail
  obtain ⟨bo, hbo⟩ : ∃ bo, bo = w.heap.size := ⟨_, rfl⟩
  rw [← hbo] at HA HJ ⊢
  clear hbo
  generalize w.alloc _ = wa at HA HJ ⊢
  have c1 : wa.cell? ⟨bo, 1, none⟩ = some (.string nm) := block_cell HA.out 1
  have c2 : wa.cell? ⟨bo, 2, none⟩ = some (.string tx) := block_cell HA.out 2
  have c3 : wa.cell? ⟨bo, 3, none⟩ = some (.int .i64 m) := block_cell HA.out 3
  have c4 : wa.cell? ⟨bo, 4, none⟩ = some (.slice ka kp.length kc) := block_cell HA.out 4
  have hbl := block_lt HA.out
  have HC : Hid (∀ wx db' D' b' R', JSt (fun k => k = bo) w0 wa wx db' D' b' R' → wx.cell? ⟨bo, 1, none⟩ = some (.string nm) ∧ wx.cell? ⟨bo, 2, none⟩ = some (.string tx) ∧ wx.cell? ⟨bo, 3, none⟩ = some (.int .i64 m) ∧ wx.cell? ⟨bo, 4, none⟩ = some (.slice ka kp.length kc) ∧ bo < wx.heap.size) := by
    show ∀ _ _ _ _ _, _ → _
    intro wx db' D' b' R' hj
    have hk := (hj.blk rfl).trans HA.out
    exact ⟨block_cell hk 1, block_cell hk 2, block_cell hk 3, block_cell hk 4, block_lt hk⟩
  have HCP : Hid (∀ wx R', JSt (fun k => k = bo) w0 wa wx db D b R' → Calls Try.prog 13 #[.pointer (some ⟨db, 0, none⟩), .slice ka kp.length kc] wx fun e w' => e = .returned (.int .i64 ((crashL kp R (keysF R.files)).2 : Int)) ∧ JSt (fun k => k = bo) w0 wa w' db (upD (crashL kp D (keysF R.files)).1) b R') := by
    show ∀ _ _, _ → _
    intro wx R' hj
    refine (jp_crash hj HD.out kp ka kc HI.out HLD.out).mono fun e w' hq => ?_
    obtain ⟨names, q1, q2, q3, q4⟩ := hq
    obtain ⟨e1, e2, _⟩ := HG.out.crash kp q1 q4
    rw [e2] at q2
    rw [e1] at q3
    exact ⟨q2, q3⟩
  obtain ⟨x, hx⟩ : ∃ x : Int, ((crashL kp R (keysF R.files)).2 : Int) = x := ⟨_, rfl⟩
  have HP : Hid (∀ wx R', JSt (fun k => k = bo) w0 wa wx db D b R' → Calls Try.prog 13 #[.pointer (some ⟨db, 0, none⟩), .slice ka kp.length kc] wx fun e w' => e = .returned (.int .i64 x) ∧ JSt (fun k => k = bo) w0 wa w' db (upD (crashL kp D (keysF R.files)).1) b R') := by
    show ∀ _ _, _ → _
    intro wx R' hj
    rw [← hx]
    exact (HCP.out _ _ hj)
  have H39 : Hid (∀ wx D', JSt (fun k => k = bo) w0 wa wx db D' b R → Calls Try.prog 39 #[.pointer (some ⟨b, 0, none⟩), .slice ka kp.length kc] wx fun e w' => e = .returned (.int .i64 x) ∧ JSt (fun k => k = bo) w0 wa w' db D' b (upD (crashL kp R (keysF R.files)).1)) := by
    show ∀ _ _, _ → _
    intro wx D' hj
    rw [← hx]
    exact jr_crash hj HR.out HL.out kp ka kc HI.out
  have HGC : Hid (Good (upD (crashL kp D (keysF R.files)).1) (upD (crashL kp R (keysF R.files)).1) (n + 1)) := (HG.out.crash kp (HG.out.sim.perm HG.out.wf |>.map _) (sort_le HG.out.sim.ord)).2.2
  have hj0 := HJ.out.keep (Keeps.refl _ _).drew
  have HX := Lib.hid hx
  clear hx
  go_region_held3 (fun w' : World => w'.cell? ⟨bo, 1, none⟩ = some (.string nm) ∧ w'.cell? ⟨bo, 2, none⟩ = some (.string tx) ∧ w'.cell? ⟨bo, 3, none⟩ = some (.int .i64 m) ∧ w'.cell? ⟨bo, 4, none⟩ = some (.slice ka kp.length kc) ∧ bo < w'.heap.size)
    (first | go_keep | (refine ⟨?_, ?_, ?_, ?_, ?_⟩ <;> assumption))
    (first | (go_at_call 13; refine (HP.out _ _ (by assumption)).mono ?_; rintro e w' ⟨rfl, hs⟩; obtain ⟨d1, d2, d3, d4, d5⟩ := HC.out _ _ _ _ _ hs) | (go_at_call 39; refine (H39.out _ _ (by assumption)).mono ?_; rintro e w' ⟨rfl, hs⟩; obtain ⟨d1, d2, d3, d4, d5⟩ := HC.out _ _ _ _ _ hs))
  all_goals
    go_wp2
    go_ret3
    exact ⟨db, upD (crashL kp D (keysF R.files)).1, b, upD (crashL kp R (keysF R.files)).1, rfl, JSt.drop (E := fun k => k = bo) (wb := wa) (by assumption) w0, HGC.out⟩
end
end Go.Proofs.Ytjfblcmpdcbpgaa
