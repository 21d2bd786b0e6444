/-
  within, may, New, Epoch.
-/
import Derived.Test.YtbjpifipjcfhkaaIc
namespace Go.Proofs.Ytbjpifipjcfhkaa
open Go.RowKit Fx

def win (n l m : Int) : Bool := decide (l ≤ n) && decide (n ≤ m)
set_option maxRecDepth 100000 in
set_option maxHeartbeats 1000000 in
theorem within_any (n l m : Int) (w : World) : Calls Try.prog 37 #[.int .i64 n, .int .i64 l, .int .i64 m] w fun e w' => Same w e (.bool (win n l m)) w' := by
  unfold win
  by_cases h1 : l ≤ n
  · by_cases h2 : n ≤ m
    · rw [decide_eq_true h1, decide_eq_true h2]
      go_enter Try.func37, Try.ntmps37
      go_wp2
      go_ret
      exact ⟨rfl, Keeps.refl _ _⟩
    · rw [decide_eq_true h1, decide_eq_false h2]
      go_enter Try.func37, Try.ntmps37
      go_wp2
      go_ret
      exact ⟨rfl, Keeps.refl _ _⟩
  · rw [decide_eq_false h1]
    go_enter Try.func37, Try.ntmps37
    go_wp2
    go_ret
    exact ⟨rfl, Keeps.refl _ _⟩
structure BatchC where
  base : Int
  span : Int
  prod : Int
  epoch : Int
  seq : Int
  ra : Option Addr
  rn : Nat
  rc : Nat
def bcells (b : BatchC) : Array Value := #[.int .i64 b.base, .int .i64 b.span, .int .i64 b.prod, .int .i64 b.epoch, .int .i64 b.seq, .slice b.ra b.rn b.rc]
def mayB (b : BatchC) : Bool := win b.prod 0 1073741824 && win b.epoch 0 32768 && win b.seq 0 1073741824 && win b.span 1 50 && win b.base 0 1099511627776
set_option maxRecDepth 100000 in
set_option maxHeartbeats 4000000 in
theorem may_any (b : BatchC) (w : World) : Calls Try.prog 24 #[.agg #[.int .i64 b.base, .int .i64 b.span, .int .i64 b.prod, .int .i64 b.epoch, .int .i64 b.seq, .slice b.ra b.rn b.rc]] w fun e w' => Same w e (.bool (mayB b)) w' := by
  have hB : (w.alloc (.cells (bcells b) 31)).heap[w.heap.size]? = some (.cells (bcells b) 31 (0, 0)) := heap_new _ _ _ rfl
  have hK : K0 w (w.alloc (.cells (bcells b) 31)) := (Keeps.refl _ _).alloc _
  unfold bcells at hB hK
  generalize hwb : w.alloc (.cells #[.int .i64 b.base, .int .i64 b.span, .int .i64 b.prod, .int .i64 b.epoch, .int .i64 b.seq, .slice b.ra b.rn b.rc] 31) = wb at hB hK
  have HB := Lib.hid hB
  have HK := Lib.hid hK
  have c2 : wb.cell? ⟨w.heap.size, 2, none⟩ = some (.int .i64 b.prod) := block_cell hB 2
  have hlt := block_lt hB
  unfold mayB
  subst hwb
  clear hB hK
  cases h0 : win b.prod 0 1073741824 with
  | false =>
    have W0 : Hid (∀ wx, Calls Try.prog 37 #[.int .i64 b.prod, .int .i64 0, .int .i64 1073741824] wx fun e w' => Same wx e (.bool false) w') := fun wx => by rw [← h0]; exact within_any _ _ _ wx
    go_enter Try.func24, Try.ntmps24
    go_wp2_with fail
    refine (W0.out _).mono ?_
    rintro e w1 ⟨rfl, k1⟩
    have K1 := Lib.hid (K0.tr HK.out k1)
    clear k1
    go_wp2
    go_ret
    exact ⟨by simp, K1.out⟩
  | true =>
    have W0 : Hid (∀ wx, Calls Try.prog 37 #[.int .i64 b.prod, .int .i64 0, .int .i64 1073741824] wx fun e w' => Same wx e (.bool true) w') := fun wx => by rw [← h0]; exact within_any _ _ _ wx
    cases h1 : win b.epoch 0 32768 with
    | false =>
      have W1 : Hid (∀ wx, Calls Try.prog 37 #[.int .i64 b.epoch, .int .i64 0, .int .i64 32768] wx fun e w' => Same wx e (.bool false) w') := fun wx => by rw [← h1]; exact within_any _ _ _ wx
      go_enter Try.func24, Try.ntmps24
      go_wp2_with fail
      refine (W0.out _).mono ?_
      rintro e w1 ⟨rfl, k1⟩
      have K1 := Lib.hid (K0.tr HK.out k1)
      have q1 : w1.cell? ⟨w.heap.size, 3, none⟩ = some (.int .i64 b.epoch) := (k1.cell' (block_cell HB.out 3) (fun e => e))
      have B1 := Lib.hid ((k1.block _ (block_lt HB.out) (fun e => e)).trans HB.out)
      have l1 := block_lt B1.out
      clear k1
      go_wp2_with fail
      refine (W1.out _).mono ?_
      rintro e w2 ⟨rfl, k2⟩
      have K2 := Lib.hid (K0.tr K1.out k2)
      clear k2
      go_wp2
      go_ret
      exact ⟨by simp, K2.out⟩
    | true =>
      have W1 : Hid (∀ wx, Calls Try.prog 37 #[.int .i64 b.epoch, .int .i64 0, .int .i64 32768] wx fun e w' => Same wx e (.bool true) w') := fun wx => by rw [← h1]; exact within_any _ _ _ wx
      cases h2 : win b.seq 0 1073741824 with
      | false =>
        have W2 : Hid (∀ wx, Calls Try.prog 37 #[.int .i64 b.seq, .int .i64 0, .int .i64 1073741824] wx fun e w' => Same wx e (.bool false) w') := fun wx => by rw [← h2]; exact within_any _ _ _ wx
        go_enter Try.func24, Try.ntmps24
        go_wp2_with fail
        refine (W0.out _).mono ?_
        rintro e w1 ⟨rfl, k1⟩
        have K1 := Lib.hid (K0.tr HK.out k1)
        have q1 : w1.cell? ⟨w.heap.size, 3, none⟩ = some (.int .i64 b.epoch) := (k1.cell' (block_cell HB.out 3) (fun e => e))
        have B1 := Lib.hid ((k1.block _ (block_lt HB.out) (fun e => e)).trans HB.out)
        have l1 := block_lt B1.out
        clear k1
        go_wp2_with fail
        refine (W1.out _).mono ?_
        rintro e w2 ⟨rfl, k2⟩
        have K2 := Lib.hid (K0.tr K1.out k2)
        have q2 : w2.cell? ⟨w.heap.size, 4, none⟩ = some (.int .i64 b.seq) := (k2.cell' (block_cell B1.out 4) (fun e => e))
        have B2 := Lib.hid ((k2.block _ (block_lt B1.out) (fun e => e)).trans B1.out)
        have l2 := block_lt B2.out
        clear k2
        go_wp2_with fail
        refine (W2.out _).mono ?_
        rintro e w3 ⟨rfl, k3⟩
        have K3 := Lib.hid (K0.tr K2.out k3)
        clear k3
        go_wp2
        go_ret
        exact ⟨by simp, K3.out⟩
      | true =>
        have W2 : Hid (∀ wx, Calls Try.prog 37 #[.int .i64 b.seq, .int .i64 0, .int .i64 1073741824] wx fun e w' => Same wx e (.bool true) w') := fun wx => by rw [← h2]; exact within_any _ _ _ wx
        cases h3 : win b.span 1 50 with
        | false =>
          have W3 : Hid (∀ wx, Calls Try.prog 37 #[.int .i64 b.span, .int .i64 1, .int .i64 50] wx fun e w' => Same wx e (.bool false) w') := fun wx => by rw [← h3]; exact within_any _ _ _ wx
          go_enter Try.func24, Try.ntmps24
          go_wp2_with fail
          refine (W0.out _).mono ?_
          rintro e w1 ⟨rfl, k1⟩
          have K1 := Lib.hid (K0.tr HK.out k1)
          have q1 : w1.cell? ⟨w.heap.size, 3, none⟩ = some (.int .i64 b.epoch) := (k1.cell' (block_cell HB.out 3) (fun e => e))
          have B1 := Lib.hid ((k1.block _ (block_lt HB.out) (fun e => e)).trans HB.out)
          have l1 := block_lt B1.out
          clear k1
          go_wp2_with fail
          refine (W1.out _).mono ?_
          rintro e w2 ⟨rfl, k2⟩
          have K2 := Lib.hid (K0.tr K1.out k2)
          have q2 : w2.cell? ⟨w.heap.size, 4, none⟩ = some (.int .i64 b.seq) := (k2.cell' (block_cell B1.out 4) (fun e => e))
          have B2 := Lib.hid ((k2.block _ (block_lt B1.out) (fun e => e)).trans B1.out)
          have l2 := block_lt B2.out
          clear k2
          go_wp2_with fail
          refine (W2.out _).mono ?_
          rintro e w3 ⟨rfl, k3⟩
          have K3 := Lib.hid (K0.tr K2.out k3)
          have q3 : w3.cell? ⟨w.heap.size, 1, none⟩ = some (.int .i64 b.span) := (k3.cell' (block_cell B2.out 1) (fun e => e))
          have B3 := Lib.hid ((k3.block _ (block_lt B2.out) (fun e => e)).trans B2.out)
          have l3 := block_lt B3.out
          clear k3
          go_wp2_with fail
          refine (W3.out _).mono ?_
          rintro e w4 ⟨rfl, k4⟩
          have K4 := Lib.hid (K0.tr K3.out k4)
          clear k4
          go_wp2
          go_ret
          exact ⟨by simp, K4.out⟩
        | true =>
          have W3 : Hid (∀ wx, Calls Try.prog 37 #[.int .i64 b.span, .int .i64 1, .int .i64 50] wx fun e w' => Same wx e (.bool true) w') := fun wx => by rw [← h3]; exact within_any _ _ _ wx
          cases h4 : win b.base 0 1099511627776 with
          | false =>
            have W4 : Hid (∀ wx, Calls Try.prog 37 #[.int .i64 b.base, .int .i64 0, .int .i64 1099511627776] wx fun e w' => Same wx e (.bool false) w') := fun wx => by rw [← h4]; exact within_any _ _ _ wx
            go_enter Try.func24, Try.ntmps24
            go_wp2_with fail
            refine (W0.out _).mono ?_
            rintro e w1 ⟨rfl, k1⟩
            have K1 := Lib.hid (K0.tr HK.out k1)
            have q1 : w1.cell? ⟨w.heap.size, 3, none⟩ = some (.int .i64 b.epoch) := (k1.cell' (block_cell HB.out 3) (fun e => e))
            have B1 := Lib.hid ((k1.block _ (block_lt HB.out) (fun e => e)).trans HB.out)
            have l1 := block_lt B1.out
            clear k1
            go_wp2_with fail
            refine (W1.out _).mono ?_
            rintro e w2 ⟨rfl, k2⟩
            have K2 := Lib.hid (K0.tr K1.out k2)
            have q2 : w2.cell? ⟨w.heap.size, 4, none⟩ = some (.int .i64 b.seq) := (k2.cell' (block_cell B1.out 4) (fun e => e))
            have B2 := Lib.hid ((k2.block _ (block_lt B1.out) (fun e => e)).trans B1.out)
            have l2 := block_lt B2.out
            clear k2
            go_wp2_with fail
            refine (W2.out _).mono ?_
            rintro e w3 ⟨rfl, k3⟩
            have K3 := Lib.hid (K0.tr K2.out k3)
            have q3 : w3.cell? ⟨w.heap.size, 1, none⟩ = some (.int .i64 b.span) := (k3.cell' (block_cell B2.out 1) (fun e => e))
            have B3 := Lib.hid ((k3.block _ (block_lt B2.out) (fun e => e)).trans B2.out)
            have l3 := block_lt B3.out
            clear k3
            go_wp2_with fail
            refine (W3.out _).mono ?_
            rintro e w4 ⟨rfl, k4⟩
            have K4 := Lib.hid (K0.tr K3.out k4)
            have q4 : w4.cell? ⟨w.heap.size, 0, none⟩ = some (.int .i64 b.base) := (k4.cell' (block_cell B3.out 0) (fun e => e))
            have B4 := Lib.hid ((k4.block _ (block_lt B3.out) (fun e => e)).trans B3.out)
            have l4 := block_lt B4.out
            clear k4
            go_wp2_with fail
            refine (W4.out _).mono ?_
            rintro e w5 ⟨rfl, k5⟩
            have K5 := Lib.hid (K0.tr K4.out k5)
            clear k5
            go_wp2
            go_ret
            exact ⟨by simp, K5.out⟩
          | true =>
            have W4 : Hid (∀ wx, Calls Try.prog 37 #[.int .i64 b.base, .int .i64 0, .int .i64 1099511627776] wx fun e w' => Same wx e (.bool true) w') := fun wx => by rw [← h4]; exact within_any _ _ _ wx
            go_enter Try.func24, Try.ntmps24
            go_wp2_with fail
            refine (W0.out _).mono ?_
            rintro e w1 ⟨rfl, k1⟩
            have K1 := Lib.hid (K0.tr HK.out k1)
            have q1 : w1.cell? ⟨w.heap.size, 3, none⟩ = some (.int .i64 b.epoch) := (k1.cell' (block_cell HB.out 3) (fun e => e))
            have B1 := Lib.hid ((k1.block _ (block_lt HB.out) (fun e => e)).trans HB.out)
            have l1 := block_lt B1.out
            clear k1
            go_wp2_with fail
            refine (W1.out _).mono ?_
            rintro e w2 ⟨rfl, k2⟩
            have K2 := Lib.hid (K0.tr K1.out k2)
            have q2 : w2.cell? ⟨w.heap.size, 4, none⟩ = some (.int .i64 b.seq) := (k2.cell' (block_cell B1.out 4) (fun e => e))
            have B2 := Lib.hid ((k2.block _ (block_lt B1.out) (fun e => e)).trans B1.out)
            have l2 := block_lt B2.out
            clear k2
            go_wp2_with fail
            refine (W2.out _).mono ?_
            rintro e w3 ⟨rfl, k3⟩
            have K3 := Lib.hid (K0.tr K2.out k3)
            have q3 : w3.cell? ⟨w.heap.size, 1, none⟩ = some (.int .i64 b.span) := (k3.cell' (block_cell B2.out 1) (fun e => e))
            have B3 := Lib.hid ((k3.block _ (block_lt B2.out) (fun e => e)).trans B2.out)
            have l3 := block_lt B3.out
            clear k3
            go_wp2_with fail
            refine (W3.out _).mono ?_
            rintro e w4 ⟨rfl, k4⟩
            have K4 := Lib.hid (K0.tr K3.out k4)
            have q4 : w4.cell? ⟨w.heap.size, 0, none⟩ = some (.int .i64 b.base) := (k4.cell' (block_cell B3.out 0) (fun e => e))
            have B4 := Lib.hid ((k4.block _ (block_lt B3.out) (fun e => e)).trans B3.out)
            have l4 := block_lt B4.out
            clear k4
            go_wp2_with fail
            refine (W4.out _).mono ?_
            rintro e w5 ⟨rfl, k5⟩
            have K5 := Lib.hid (K0.tr K4.out k5)
            clear k5
            go_wp2
            go_ret
            exact ⟨by simp, K5.out⟩
set_option maxRecDepth 100000 in
set_option maxHeartbeats 1000000 in
theorem epoch_nil (id : Int) (w : World) : Calls Try.prog 14 #[.pointer none, .int .i64 id] w fun e w' => Same w e (.int .i64 (-1)) w' := by
  have HO := Lib.hid (of_nil id w)
  go_enter Try.func14, Try.ntmps14
  go_wp2_with fail
  refine HO.out.mono ?_
  rintro e w1 ⟨rfl, hh, k1⟩
  have c0 : w1.cell? ⟨w.heap.size, 0, none⟩ = some (.int .i64 (-1)) := block_cell hh 0
  have hlt := block_lt hh
  clear hh
  go_wp2
  go_ret
  exact ⟨rfl, k1⟩
section
variable {w0 w w' : World} {pb mb : Nat} {M : List (Int × HeardC)} {L : List (Int × (Nat × HeardC))}
set_option maxRecDepth 100000 in
set_option maxHeartbeats 1000000 in
theorem epoch_any (h : PAt w0 w pb M mb L) (id : Int) : Calls Try.prog 14 #[.pointer (some ⟨pb, 0, none⟩), .int .i64 id] w fun e w' => Same w e (.int .i64 (oldH M id).epoch) w' := by
  have HO := Lib.hid (of_any h id)
  clear h
  go_enter Try.func14, Try.ntmps14
  go_wp2_with fail
  refine HO.out.mono ?_
  rintro e w1 ⟨b, rfl, hh, k1, _⟩
  have c0 : w1.cell? ⟨b, 0, none⟩ = some (.int .i64 (oldH M id).epoch) := block_cell hh 0
  have hlt := block_lt hh
  clear hh
  go_wp2
  go_ret
  exact ⟨rfl, k1⟩
set_option maxRecDepth 100000 in
set_option maxHeartbeats 1000000 in
theorem pnew_any (w : World) : Calls Try.prog 9 #[] w fun e w' => ∃ pb, e = .returned (.pointer (some ⟨pb, 0, none⟩)) ∧ PSt w w' pb [] := by
  have hmm := @run_makeMap Try.prog
  go_enter Try.func9, Try.ntmps9
  go_wp2
  go_ret
  refine ⟨_, rfl, w.heap.size, [], ⟨((Keeps.refl _ _).alloc _).alloc _, heap_new _ _ _ (by simp), rfl, ?_, (fun _ _ e => by cases e), (fun _ _ _ _ e => by cases e), (by simp), ⟨by simp, Nat.le_refl _⟩, (fun _ _ e => by cases e), List.nodup_nil⟩⟩
  exact (mapAt_new w).of_block (Below.heap_alloc _ _ _ (by simp))
end
end Go.Proofs.Ytbjpifipjcfhkaa
