/-
  IdemNil: Parse of one byte, Print of none, the reference's Check on nobody.
-/
import Derived.Test.YtbjpifipjcfhkaaIn
namespace Go.Proofs.Ytbjpifipjcfhkaa
open Go.RowKit Fx

def oneS : ByteArray := ⟨#[1]⟩
theorem oneS_size : oneS.size = 1 := by kernel_rfl
set_option maxRecDepth 100000 in
set_option maxHeartbeats 1000000 in
theorem get_one (w : World) : Calls Try.prog 38 #[.string oneS, .int .i64 0] w fun e w' => Same w e (.tuple #[.int .i64 (-1), .int .i64 1, .int .i64 0]) w' := by
  unfold oneS
  go_enter Try.func38, Try.ntmps38
  go_wp2
  refine wp_loop_once ?_
  go_wp2
  go_ret3
  exact ⟨by kernel_rfl, Keeps.refl _ _⟩
def OneAt (w : World) (rb : Nat) (k e : Int) : Prop := w.heap[rb]? = some (.cells #[.string oneS, .int .i64 k, .int .i64 e] 77 (0, 0))
set_option maxRecDepth 100000 in
set_option maxHeartbeats 2000000 in
theorem num_one {w : World} {rb : Nat} (h : OneAt w rb 0 0) : Calls Try.prog 31 #[.pointer (some ⟨rb, 0, none⟩), .int .i64 0, .int .i64 10000] w fun e w' => e = .returned (.int .i64 (-1)) ∧ OneAt w' rb 1 3 ∧ Keeps (fun b => b = rb) w w' := by
  have c0 : w.cell? ⟨rb, 0, none⟩ = some (.string oneS) := block_cell h 0
  have c1 : w.cell? ⟨rb, 1, none⟩ = some (.int .i64 0) := block_cell h 1
  have c2 : w.cell? ⟨rb, 2, none⟩ = some (.int .i64 0) := block_cell h 2
  have hlt := block_lt h
  have HH := Lib.hid h
  have HW : Hid (∀ wx, Calls Try.prog 37 #[.int .i64 (-1), .int .i64 0, .int .i64 10000] wx fun e w' => Same wx e (.bool false) w') := fun wx => within_any (-1) 0 10000 wx
  have hdd : w.drew.cell? ⟨rb, 0, none⟩ = some (.string oneS) := c0
  have hde : w.drew.cell? ⟨rb, 1, none⟩ = some (.int .i64 0) := c1
  have hdf : rb < w.drew.heap.size := hlt
  have HD : Hid (OneAt w.drew rb 0 0) := h
  clear h
  go_enter Try.func31, Try.ntmps31
  go_upto_region 3 with fail
  go_cut [6] (fun v wr => v = .int .i64 (-1) ∧ OneAt wr rb 1 0 ∧ Keeps (fun b => b = rb) w wr)
  case first =>
    go_region_with (go_at_call 38; refine (get_one _).mono ?_; rintro e w1 ⟨rfl, k1⟩; have hb1 := (k1.block _ (block_lt HD.out) (fun e => e)).trans HD.out; have y1 := block_cell hb1 1; have y2 := block_cell hb1 2; have z1 := block_free hb1 1; have z2 := block_free hb1 2; have ly := block_lt hb1; clear hb1)
    all_goals (go_wp2; go_meet; exact ⟨rfl, setCell_block (setCell_block ((k1.block _ (block_lt HD.out) (fun e => e)).trans HD.out) 1 _) 2 _, ((Keeps.refl (fun b => b = rb) w).drew.trans (((k1.mono (S1 := fun b => b = rb) (fun _ _ e => e.elim)).setC _ _ (fun _ => rfl)).setC _ _ (fun _ => rfl)) (fun _ _ e => e))⟩)
  case rest =>
    obtain ⟨rfl, h1, k1⟩ := hcut
    have y2 : wc.cell? ⟨rb, 2, none⟩ = some (.int .i64 0) := block_cell h1 2
    have ly := block_lt h1
    have H1 := Lib.hid h1
    have K1 := Lib.hid k1
    clear h1 k1 c0 c1 c2 hlt hdd hde hdf
    go_wp2_with fail
    refine (HW.out _).mono ?_
    rintro e w2 ⟨rfl, k2⟩
    have h2 := (k2.block _ (block_lt H1.out) (fun e => e)).trans H1.out
    have y3 : w2.cell? ⟨rb, 2, none⟩ = some (.int .i64 0) := block_cell h2 2
    have f3 := block_free h2 2
    have l3 := block_lt h2
    have H2 := Lib.hid h2
    have K2 := Lib.hid (K1.out.trans k2 (fun _ _ e => e.elim))
    clear h2 k2 y2
    go_wp2
    go_ret
    exact ⟨rfl, setCell_block H2.out 2 _, K2.out.setC _ _ (fun _ => rfl)⟩
set_option maxRecDepth 100000 in
set_option maxHeartbeats 4000000 in
theorem parse_one (w : World) : Calls Try.prog 16 #[.string oneS] w fun e w' => Same w e (.tuple #[.pointer none, .int .i64 3]) w' := by
  have HR : Hid (OneAt (w.alloc (.cells #[.string oneS, .int .i64 0, .int .i64 0] 77)) w.heap.size 0 0) := heap_new _ _ _ rfl
  have HKA : Hid (K0 w (w.alloc (.cells #[.string oneS, .int .i64 0, .int .i64 0] 77))) := (Keeps.refl _ _).alloc _
  have hsz := oneS_size
  go_enter Try.func16, Try.ntmps16
  go_wp2_with fail
  refine (pnew_any _).mono ?_
  rintro e w1 ⟨pb, rfl, hp⟩
  have hk := hp.k0
  have h1 := (hk.block _ (block_lt HR.out) (fun e => e)).trans HR.out
  have HK1 := Lib.hid (K0.tr HKA.out hk)
  have H1 := Lib.hid h1
  clear hp h1 hk
  go_wp2_with fail
  refine (num_one H1.out).mono ?_
  rintro e w2 ⟨rfl, h2, k2⟩
  have HK2 : Hid (K0 w w2) := HK1.out.trans k2 (fun k hk e => by subst e; exact absurd hk (Nat.lt_irrefl _))
  have c2 : w2.cell? ⟨w.heap.size, 2, none⟩ = some (.int .i64 3) := block_cell h2 2
  have l2 := block_lt h2
  clear k2 h2
  go_wp2
  refine wp_loop_once ?_
  go_wp2
  go_quiet (fail)
  go_wp2
  go_ret2
  exact ⟨rfl, HK2.out.drewN _⟩
set_option maxRecDepth 100000 in
set_option maxHeartbeats 1000000 in
theorem print_nil (w : World) : Calls Try.prog 17 #[.pointer none] w fun e w' => Same w e (.string ⟨#[0]⟩) w' := by
  go_enter Try.func17, Try.ntmps17
  go_wp2_with fail
  refine (put_of 0 (by decide) _).mono ?_
  rintro e w1 ⟨rfl, k1⟩
  rw [vb0]
  go_wp2
  go_ret
  exact ⟨rfl, k1⟩
set_option maxRecDepth 100000 in
set_option maxHeartbeats 4000000 in
theorem numbers_any (b : BatchC) (w : World) : Calls Try.prog 28 #[.agg #[.int .i64 b.base, .int .i64 b.span, .int .i64 b.prod, .int .i64 b.epoch, .int .i64 b.seq, .slice b.ra b.rn b.rc]] w fun e w' => Same w e (.bool (mayB b)) w' := by
  have hB : (w.alloc (.cells (bcells b) 31)).heap[w.heap.size]? = some (.cells (bcells b) 31 (0, 0)) := heap_new _ _ _ rfl
  have hK : K0 w (w.alloc (.cells (bcells b) 31)) := (Keeps.refl _ _).alloc _
  unfold bcells at hB hK
  generalize hwb : w.alloc (.cells #[.int .i64 b.base, .int .i64 b.span, .int .i64 b.prod, .int .i64 b.epoch, .int .i64 b.seq, .slice b.ra b.rn b.rc] 31) = wb at hB hK
  have HK := Lib.hid hK
  have c0 : wb.cell? ⟨w.heap.size, 0, none⟩ = some (.int .i64 b.base) := block_cell hB 0
  have c1 : wb.cell? ⟨w.heap.size, 1, none⟩ = some (.int .i64 b.span) := block_cell hB 1
  have c2 : wb.cell? ⟨w.heap.size, 2, none⟩ = some (.int .i64 b.prod) := block_cell hB 2
  have c3 : wb.cell? ⟨w.heap.size, 3, none⟩ = some (.int .i64 b.epoch) := block_cell hB 3
  have c4 : wb.cell? ⟨w.heap.size, 4, none⟩ = some (.int .i64 b.seq) := block_cell hB 4
  have hlt := block_lt hB
  unfold mayB win
  subst hwb
  clear hB hK
  by_cases h0 : 0 ≤ b.prod
  · by_cases h1 : b.prod ≤ 1073741824
    · by_cases h2 : 0 ≤ b.epoch
      · by_cases h3 : b.epoch ≤ 32768
        · by_cases h4 : 0 ≤ b.seq
          · by_cases h5 : b.seq ≤ 1073741824
            · by_cases h6 : 1 ≤ b.span
              · by_cases h7 : b.span ≤ 50
                · by_cases h8 : 0 ≤ b.base
                  · by_cases h9 : b.base ≤ 1099511627776
                    · go_enter Try.func28, Try.ntmps28
                      go_wp2
                      go_ret
                      exact ⟨by first | (simp [h0, h1, h2, h3, h4, h5, h6, h7, h8, h9]; done) | (simp [h0, h1, h2, h3, h4, h5, h6, h7, h8, h9]; intros; omega), HK.out⟩
                    · go_enter Try.func28, Try.ntmps28
                      go_wp2
                      go_ret
                      exact ⟨by first | (simp [h0, h1, h2, h3, h4, h5, h6, h7, h8, h9]; done) | (simp [h0, h1, h2, h3, h4, h5, h6, h7, h8, h9]; intros; omega), HK.out⟩
                  · go_enter Try.func28, Try.ntmps28
                    go_wp2
                    go_ret
                    exact ⟨by first | (simp [h0, h1, h2, h3, h4, h5, h6, h7, h8]; done) | (simp [h0, h1, h2, h3, h4, h5, h6, h7, h8]; intros; omega), HK.out⟩
                · go_enter Try.func28, Try.ntmps28
                  go_wp2
                  go_ret
                  exact ⟨by first | (simp [h0, h1, h2, h3, h4, h5, h6, h7]; done) | (simp [h0, h1, h2, h3, h4, h5, h6, h7]; intros; omega), HK.out⟩
              · go_enter Try.func28, Try.ntmps28
                go_wp2
                go_ret
                exact ⟨by first | (simp [h0, h1, h2, h3, h4, h5, h6]; done) | (simp [h0, h1, h2, h3, h4, h5, h6]; intros; omega), HK.out⟩
            · go_enter Try.func28, Try.ntmps28
              go_wp2
              go_ret
              exact ⟨by first | (simp [h0, h1, h2, h3, h4, h5]; done) | (simp [h0, h1, h2, h3, h4, h5]; intros; omega), HK.out⟩
          · go_enter Try.func28, Try.ntmps28
            go_wp2
            go_ret
            exact ⟨by first | (simp [h0, h1, h2, h3, h4]; done) | (simp [h0, h1, h2, h3, h4]; intros; omega), HK.out⟩
        · go_enter Try.func28, Try.ntmps28
          go_wp2
          go_ret
          exact ⟨by first | (simp [h0, h1, h2, h3]; done) | (simp [h0, h1, h2, h3]; intros; omega), HK.out⟩
      · go_enter Try.func28, Try.ntmps28
        go_wp2
        go_ret
        exact ⟨by first | (simp [h0, h1, h2]; done) | (simp [h0, h1, h2]; intros; omega), HK.out⟩
    · go_enter Try.func28, Try.ntmps28
      go_wp2
      go_ret
      exact ⟨by first | (simp [h0, h1]; done) | (simp [h0, h1]; intros; omega), HK.out⟩
  · go_enter Try.func28, Try.ntmps28
    go_wp2
    go_ret
    exact ⟨by first | (simp [h0]; done) | (simp [h0]; intros; omega), HK.out⟩
def NoneAt (w : World) (kb : Nat) : Prop := w.heap[kb]? = some (.cells #[.slice none 0 0] 28 (0, 0))
set_option maxRecDepth 100000 in
set_option maxHeartbeats 1000000 in
theorem find_none {w : World} {kb : Nat} (h : NoneAt w kb) (id : Int) : Calls Try.prog 29 #[.pointer (some ⟨kb, 0, none⟩), .int .i64 id] w fun e w' => Same w e (.int .i64 (-1)) w' := by
  have c0 : w.cell? ⟨kb, 0, none⟩ = some (.slice none 0 0) := block_cell h 0
  have hlt := block_lt h
  clear h
  go_enter Try.func29, Try.ntmps29
  go_wp2
  refine wp_loop_once ?_
  go_wp2
  go_ret
  exact ⟨rfl, Keeps.refl _ _⟩
set_option maxRecDepth 100000 in
set_option maxHeartbeats 4000000 in
theorem rcheck_none {kb : Nat} (b : BatchC) (hp : b.prod = -1) (w : World) : Calls Try.prog 11 #[.pointer (some ⟨kb, 0, none⟩), .agg #[.int .i64 b.base, .int .i64 b.span, .int .i64 b.prod, .int .i64 b.epoch, .int .i64 b.seq, .slice b.ra b.rn b.rc]] w fun e w' => Same w e (.tuple #[.int .i64 0, .bool false, .int .i64 0]) w' := by
  have hB : (w.alloc (.cells (bcells b) 31)).heap[w.heap.size]? = some (.cells (bcells b) 31 (0, 0)) := heap_new _ _ _ rfl
  have hK : K0 w (w.alloc (.cells (bcells b) 31)) := (Keeps.refl _ _).alloc _
  unfold bcells at hB hK
  have c2 := block_cell hB 2
  have hlt := block_lt hB
  have HK := Lib.hid hK
  rw [hp] at *
  have c2' : _ = some (Value.int .i64 (-1)) := c2
  clear hB hK c2
  go_enter Try.func11, Try.ntmps11
  go_wp2
  go_ret3
  exact ⟨rfl, HK.out⟩
set_option maxRecDepth 100000 in
set_option maxHeartbeats 4000000 in
theorem rcheck_bad {kb : Nat} (b : BatchC) (hp : ¬ b.prod = -1) (hb : mayB (bareB b) = false) (w : World) : Calls Try.prog 11 #[.pointer (some ⟨kb, 0, none⟩), .agg #[.int .i64 b.base, .int .i64 b.span, .int .i64 b.prod, .int .i64 b.epoch, .int .i64 b.seq, .slice b.ra b.rn b.rc]] w fun e w' => Same w e (.tuple #[.int .i64 0, .bool false, .int .i64 1]) w' := by
  have hB : (w.alloc (.cells (bcells (bareB b)) 31)).heap[w.heap.size]? = some (.cells (bcells (bareB b)) 31 (0, 0)) := heap_new _ _ _ rfl
  have hK : K0 w (w.alloc (.cells (bcells (bareB b)) 31)) := (Keeps.refl _ _).alloc _
  have hA : (w.alloc (.cells (bcells b) 31)).heap[w.heap.size]? = some (.cells (bcells b) 31 (0, 0)) := heap_new _ _ _ rfl
  have a2 := block_cell hA 2
  have fr := block_free hA 0
  have la := block_lt hA
  unfold bcells bareB at hB hK
  unfold bcells at a2 fr la
  have a2 : (w.alloc (.cells #[.int .i64 b.base, .int .i64 b.span, .int .i64 b.prod, .int .i64 b.epoch, .int .i64 b.seq, .slice b.ra b.rn b.rc] 31)).cell? ⟨w.heap.size, 2, none⟩ = some (.int .i64 b.prod) := a2
  clear hA
  have HB := Lib.hid hB
  have HK := Lib.hid hK
  clear hB hK
  have HM : Hid (∀ wx, Calls Try.prog 28 #[.agg #[.int .i64 0, .int .i64 b.span, .int .i64 b.prod, .int .i64 b.epoch, .int .i64 b.seq, .slice b.ra b.rn b.rc]] wx fun e w' => Same wx e (.bool false) w') := fun wx => by rw [← hb]; exact numbers_any (bareB b) wx
  go_enter Try.func11, Try.ntmps11
  go_wp2_with fail
  refine (HM.out _).mono ?_
  rintro e w1 ⟨rfl, k1⟩
  go_wp2
  go_ret3
  exact ⟨rfl, K0.tr HK.out k1⟩
set_option maxRecDepth 100000 in
set_option maxHeartbeats 4000000 in
theorem rcheck_later {kb : Nat} {w : World} (hN : NoneAt w kb) (b : BatchC) (hp : ¬ b.prod = -1) (hb : mayB (bareB b) = true) : Calls Try.prog 11 #[.pointer (some ⟨kb, 0, none⟩), .agg #[.int .i64 b.base, .int .i64 b.span, .int .i64 b.prod, .int .i64 b.epoch, .int .i64 b.seq, .slice b.ra b.rn b.rc]] w fun e w' => Same w e (.tuple #[.int .i64 0, .bool false, .int .i64 (if b.seq = 0 then 0 else 9)]) w' := by
  have HN := Lib.hid hN
  clear hN
  by_cases hs : b.seq = 0
  · rw [if_pos hs]
    have HSQ := Lib.hid hs
    clear hs
    have hB : (w.alloc (.cells (bcells (bareB b)) 31)).heap[w.heap.size]? = some (.cells (bcells (bareB b)) 31 (0, 0)) := heap_new _ _ _ rfl
    have hK : K0 w (w.alloc (.cells (bcells (bareB b)) 31)) := (Keeps.refl _ _).alloc _
    have hA : (w.alloc (.cells (bcells b) 31)).heap[w.heap.size]? = some (.cells (bcells b) 31 (0, 0)) := heap_new _ _ _ rfl
    have a2 := block_cell hA 2
    have fr := block_free hA 0
    have la := block_lt hA
    unfold bcells bareB at hB hK
    unfold bcells at a2 fr la
    have a2 : (w.alloc (.cells #[.int .i64 b.base, .int .i64 b.span, .int .i64 b.prod, .int .i64 b.epoch, .int .i64 b.seq, .slice b.ra b.rn b.rc] 31)).cell? ⟨w.heap.size, 2, none⟩ = some (.int .i64 b.prod) := a2
    clear hA
    have HB := Lib.hid hB
    have HK := Lib.hid hK
    clear hB hK
    have HM : Hid (∀ wx, Calls Try.prog 28 #[.agg #[.int .i64 0, .int .i64 b.span, .int .i64 b.prod, .int .i64 b.epoch, .int .i64 b.seq, .slice b.ra b.rn b.rc]] wx fun e w' => Same wx e (.bool true) w') := fun wx => by rw [← hb]; exact numbers_any (bareB b) wx
    clear hb
    go_enter Try.func11, Try.ntmps11
    go_wp2_with fail
    refine (HM.out _).mono ?_
    rintro e w1 ⟨rfl, k1⟩
    have HB1 := Lib.hid ((k1.block _ (block_lt HB.out) (fun e => e)).trans HB.out)
    have HK1 := Lib.hid (K0.tr HK.out k1)
    have HN1 := Lib.hid ((HK1.out.block _ (block_lt HN.out) (fun e => e)).trans HN.out)
    have c2 : w1.cell? ⟨w.heap.size, 2, none⟩ = some (.int .i64 b.prod) := block_cell HB1.out 2
    have hlt := block_lt HB1.out
    clear k1
    go_wp2_with fail
    refine (find_none HN1.out b.prod).mono ?_
    rintro e w2 ⟨rfl, k2⟩
    have hb2' := (k2.block _ (block_lt HB1.out) (fun e => e)).trans HB1.out
    have HK2 := Lib.hid (K0.tr HK1.out k2)
    have c4 : w2.cell? ⟨w.heap.size, 4, none⟩ = some (.int .i64 b.seq) := block_cell hb2' 4
    have hlt2 := block_lt hb2'
    clear k2 hb2'
    have hs := HSQ.out
    go_wp2
    go_ret3
    exact ⟨rfl, HK2.out⟩
  · rw [if_neg hs]
    have HSQ := Lib.hid hs
    clear hs
    have hB : (w.alloc (.cells (bcells (bareB b)) 31)).heap[w.heap.size]? = some (.cells (bcells (bareB b)) 31 (0, 0)) := heap_new _ _ _ rfl
    have hK : K0 w (w.alloc (.cells (bcells (bareB b)) 31)) := (Keeps.refl _ _).alloc _
    have hA : (w.alloc (.cells (bcells b) 31)).heap[w.heap.size]? = some (.cells (bcells b) 31 (0, 0)) := heap_new _ _ _ rfl
    have a2 := block_cell hA 2
    have fr := block_free hA 0
    have la := block_lt hA
    unfold bcells bareB at hB hK
    unfold bcells at a2 fr la
    have a2 : (w.alloc (.cells #[.int .i64 b.base, .int .i64 b.span, .int .i64 b.prod, .int .i64 b.epoch, .int .i64 b.seq, .slice b.ra b.rn b.rc] 31)).cell? ⟨w.heap.size, 2, none⟩ = some (.int .i64 b.prod) := a2
    clear hA
    have HB := Lib.hid hB
    have HK := Lib.hid hK
    clear hB hK
    have HM : Hid (∀ wx, Calls Try.prog 28 #[.agg #[.int .i64 0, .int .i64 b.span, .int .i64 b.prod, .int .i64 b.epoch, .int .i64 b.seq, .slice b.ra b.rn b.rc]] wx fun e w' => Same wx e (.bool true) w') := fun wx => by rw [← hb]; exact numbers_any (bareB b) wx
    clear hb
    go_enter Try.func11, Try.ntmps11
    go_wp2_with fail
    refine (HM.out _).mono ?_
    rintro e w1 ⟨rfl, k1⟩
    have HB1 := Lib.hid ((k1.block _ (block_lt HB.out) (fun e => e)).trans HB.out)
    have HK1 := Lib.hid (K0.tr HK.out k1)
    have HN1 := Lib.hid ((HK1.out.block _ (block_lt HN.out) (fun e => e)).trans HN.out)
    have c2 : w1.cell? ⟨w.heap.size, 2, none⟩ = some (.int .i64 b.prod) := block_cell HB1.out 2
    have hlt := block_lt HB1.out
    clear k1
    go_wp2_with fail
    refine (find_none HN1.out b.prod).mono ?_
    rintro e w2 ⟨rfl, k2⟩
    have hb2' := (k2.block _ (block_lt HB1.out) (fun e => e)).trans HB1.out
    have HK2 := Lib.hid (K0.tr HK1.out k2)
    have c4 : w2.cell? ⟨w.heap.size, 4, none⟩ = some (.int .i64 b.seq) := block_cell hb2' 4
    have hlt2 := block_lt hb2'
    clear k2 hb2'
    have hs := HSQ.out
    go_wp2
    go_ret3
    exact ⟨rfl, HK2.out⟩
theorem rcheck_any {kb : Nat} {w : World} (hN : NoneAt w kb) (b : BatchC) : Calls Try.prog 11 #[.pointer (some ⟨kb, 0, none⟩), .agg #[.int .i64 b.base, .int .i64 b.span, .int .i64 b.prod, .int .i64 b.epoch, .int .i64 b.seq, .slice b.ra b.rn b.rc]] w fun e w' => Same w e (resV (checkR [] b)) w' := by
  unfold checkR
  by_cases hp : b.prod = -1
  · rw [if_pos hp]; exact rcheck_none b hp w
  · rw [if_neg hp]
    cases hb : mayB (bareB b) with
    | false => rw [if_neg (by simp)]; exact rcheck_bad b hp hb w
    | true =>
      rw [if_pos rfl]
      have he := mayB_epoch hb
      have h1 : ¬ b.epoch < (oldH [] b.prod).epoch := by show ¬ b.epoch < -1; have := he.1; show ¬ b.epoch < -1; have h2 : 0 ≤ b.epoch := this; omega
      have h2 : ¬ b.epoch = (oldH [] b.prod).epoch := by show ¬ b.epoch = -1; have h2 : 0 ≤ b.epoch := he.1; omega
      unfold checkH tailR
      rw [if_neg h1, if_neg h2]
      have := rcheck_later hN b hp hb
      by_cases h3 : b.seq = 0
      · rw [if_pos h3] at this ⊢; exact this
      · rw [if_neg h3] at this ⊢; exact this
end Go.Proofs.Ytbjpifipjcfhkaa
