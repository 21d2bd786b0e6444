/-
  IdemNil: one that is none has heard nobody: the walk.
-/
import Derived.Test.YtbjpifipjcfhkaaIo
namespace Go.Proofs.Ytbjpifipjcfhkaa
open Go.RowKit Fx

theorem checkR_nil (b : BatchC) : ∃ x, checkR [] b = (0, false, x) := by
  unfold checkR
  split
  · exact ⟨_, rfl⟩
  · split
    · rename_i hb
      have he := mayB_epoch hb
      have h1 : ¬ b.epoch < (oldH [] b.prod).epoch := by show ¬ b.epoch < -1; have h2 : 0 ≤ b.epoch := he.1; omega
      have h2 : ¬ b.epoch = (oldH [] b.prod).epoch := by show ¬ b.epoch = -1; have h2 : 0 ≤ b.epoch := he.1; omega
      unfold checkH tailR
      rw [if_neg h1, if_neg h2]
      split
      · exact ⟨_, rfl⟩
      · exact ⟨_, rfl⟩
    · exact ⟨_, rfl⟩
set_option maxRecDepth 100000 in
set_option maxHeartbeats 4000000 in
theorem nil_any (b : BatchC) (w : World) : Calls Try.prog 5 #[.agg #[.int .i64 b.base, .int .i64 b.span, .int .i64 b.prod, .int .i64 b.epoch, .int .i64 b.seq, .slice b.ra b.rn b.rc]] w fun e w' => Same w e (.bool true) w' := by
  have hB : (w.alloc (.cells (bcells b) 31)).heap[w.heap.size]? = some (.cells (bcells b) 31 (0, 0)) := heap_new _ _ _ rfl
  have hK : K0 w (w.alloc (.cells (bcells b) 31)) := (Keeps.refl _ _).alloc _
  have HB := Lib.hid hB
  have HK := Lib.hid hK
  unfold bcells at HB HK
  clear hB hK
  obtain ⟨x, hx⟩ := checkR_nil b
  have HC : Hid (∀ wx, Calls Try.prog 10 #[.pointer none, .agg #[.int .i64 b.base, .int .i64 b.span, .int .i64 b.prod, .int .i64 b.epoch, .int .i64 b.seq, .slice b.ra b.rn b.rc]] wx fun e w' => Same wx e (.tuple #[.int .i64 0, .bool false, .int .i64 x]) w') := fun wx => by
    have := check_nil b wx
    rw [hx] at this
    exact this
  have HRC : Hid (∀ wx kb, NoneAt wx kb → Calls Try.prog 11 #[.pointer (some ⟨kb, 0, none⟩), .agg #[.int .i64 b.base, .int .i64 b.span, .int .i64 b.prod, .int .i64 b.epoch, .int .i64 b.seq, .slice b.ra b.rn b.rc]] wx fun e w' => Same wx e (.tuple #[.int .i64 0, .bool false, .int .i64 x]) w') := fun wx kb h => by
    have := rcheck_any h b
    rw [hx] at this
    exact this
  clear hx
  go_enter Try.func5, Try.ntmps5
  go_wp2_with fail
  refine (parse_one _).mono ?_
  rintro e w1 ⟨rfl, k1⟩
  have HB1 := Lib.hid ((k1.block _ (block_lt HB.out) (fun e => e)).trans HB.out)
  have HK1 := Lib.hid (K0.tr HK.out k1)
  clear k1
  have c0 : w1.cell? ⟨w.heap.size, 0, none⟩ = some (.int .i64 b.base) := block_cell HB1.out 0
  have c1 : w1.cell? ⟨w.heap.size, 1, none⟩ = some (.int .i64 b.span) := block_cell HB1.out 1
  have c2 : w1.cell? ⟨w.heap.size, 2, none⟩ = some (.int .i64 b.prod) := block_cell HB1.out 2
  have c3 : w1.cell? ⟨w.heap.size, 3, none⟩ = some (.int .i64 b.epoch) := block_cell HB1.out 3
  have c4 : w1.cell? ⟨w.heap.size, 4, none⟩ = some (.int .i64 b.seq) := block_cell HB1.out 4
  have c5 : w1.cell? ⟨w.heap.size, 5, none⟩ = some (.slice b.ra b.rn b.rc) := block_cell HB1.out 5
  have hlt := block_lt HB1.out
  go_wp2_with fail
  refine (note_nil b _).mono ?_
  rintro e w2 ⟨rfl, k2⟩
  have HB2 := Lib.hid ((k2.block _ (block_lt HB1.out) (fun e => e)).trans HB1.out)
  have HK2 := Lib.hid (K0.tr HK1.out k2)
  clear k2
  clear c0 c1 c2 c3 c4 c5 hlt
  have c0 : w2.cell? ⟨w.heap.size, 0, none⟩ = some (.int .i64 b.base) := block_cell HB2.out 0
  have c1 : w2.cell? ⟨w.heap.size, 1, none⟩ = some (.int .i64 b.span) := block_cell HB2.out 1
  have c2 : w2.cell? ⟨w.heap.size, 2, none⟩ = some (.int .i64 b.prod) := block_cell HB2.out 2
  have c3 : w2.cell? ⟨w.heap.size, 3, none⟩ = some (.int .i64 b.epoch) := block_cell HB2.out 3
  have c4 : w2.cell? ⟨w.heap.size, 4, none⟩ = some (.int .i64 b.seq) := block_cell HB2.out 4
  have c5 : w2.cell? ⟨w.heap.size, 5, none⟩ = some (.slice b.ra b.rn b.rc) := block_cell HB2.out 5
  have hlt := block_lt HB2.out
  go_wp2_with fail
  refine (HC.out _).mono ?_
  rintro e w3 ⟨rfl, k3⟩
  have HB3 := Lib.hid ((k3.block _ (block_lt HB2.out) (fun e => e)).trans HB2.out)
  have HK3 := Lib.hid (K0.tr HK2.out k3)
  clear k3
  clear c0 c1 c2 c3 c4 c5 hlt
  have HN3 : Hid (NoneAt (w3.alloc (.cells #[.slice none 0 0] 28)) w3.heap.size) := heap_new _ _ _ rfl
  have hk4 : K0 w3 (w3.alloc (.cells #[.slice none 0 0] 28)) := (Keeps.refl _ _).alloc _
  have HB4 := Lib.hid ((hk4.block _ (block_lt HB3.out) (fun e => e)).trans HB3.out)
  have HK4 := Lib.hid (K0.tr HK3.out hk4)
  clear hk4
  have c0 : (w3.alloc (.cells #[.slice none 0 0] 28)).cell? ⟨w.heap.size, 0, none⟩ = some (.int .i64 b.base) := block_cell HB4.out 0
  have c1 : (w3.alloc (.cells #[.slice none 0 0] 28)).cell? ⟨w.heap.size, 1, none⟩ = some (.int .i64 b.span) := block_cell HB4.out 1
  have c2 : (w3.alloc (.cells #[.slice none 0 0] 28)).cell? ⟨w.heap.size, 2, none⟩ = some (.int .i64 b.prod) := block_cell HB4.out 2
  have c3 : (w3.alloc (.cells #[.slice none 0 0] 28)).cell? ⟨w.heap.size, 3, none⟩ = some (.int .i64 b.epoch) := block_cell HB4.out 3
  have c4 : (w3.alloc (.cells #[.slice none 0 0] 28)).cell? ⟨w.heap.size, 4, none⟩ = some (.int .i64 b.seq) := block_cell HB4.out 4
  have c5 : (w3.alloc (.cells #[.slice none 0 0] 28)).cell? ⟨w.heap.size, 5, none⟩ = some (.slice b.ra b.rn b.rc) := block_cell HB4.out 5
  have hlt := block_lt HB4.out
  go_wp2_with fail
  refine (HRC.out _ _ HN3.out).mono ?_
  rintro e w5 ⟨rfl, k5⟩
  have HB5 := Lib.hid ((k5.block _ (block_lt HB4.out) (fun e => e)).trans HB4.out)
  have HK5 := Lib.hid (K0.tr HK4.out k5)
  clear k5
  clear c0 c1 c2 c3 c4 c5 hlt
  have c0 : w5.cell? ⟨w.heap.size, 0, none⟩ = some (.int .i64 b.base) := block_cell HB5.out 0
  have c1 : w5.cell? ⟨w.heap.size, 1, none⟩ = some (.int .i64 b.span) := block_cell HB5.out 1
  have c2 : w5.cell? ⟨w.heap.size, 2, none⟩ = some (.int .i64 b.prod) := block_cell HB5.out 2
  have c3 : w5.cell? ⟨w.heap.size, 3, none⟩ = some (.int .i64 b.epoch) := block_cell HB5.out 3
  have c4 : w5.cell? ⟨w.heap.size, 4, none⟩ = some (.int .i64 b.seq) := block_cell HB5.out 4
  have c5 : w5.cell? ⟨w.heap.size, 5, none⟩ = some (.slice b.ra b.rn b.rc) := block_cell HB5.out 5
  have hlt := block_lt HB5.out
  go_wp2_with fail
  refine (epoch_nil b.prod _).mono ?_
  rintro e w6 ⟨rfl, k6⟩
  have HK6 := Lib.hid (K0.tr HK5.out k6)
  clear k6
  go_wp2_with fail
  refine (print_nil _).mono ?_
  rintro e w7 ⟨rfl, k7⟩
  have HK7 := Lib.hid (K0.tr HK6.out k7)
  clear k7
  go_wp2_with fail
  refine (live_any _).mono ?_
  rintro e w8 ⟨rfl, k8⟩
  have HK8 := Lib.hid (K0.tr HK7.out k8)
  clear k8
  go_wp2
  go_ret
  exact ⟨rfl, HK8.out⟩
end Go.Proofs.Ytbjpifipjcfhkaa
