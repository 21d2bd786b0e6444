/-
  Check.
-/
import Derived.Test.YtbjpifipjcfhkaaIe
namespace Go.Proofs.Ytbjpifipjcfhkaa
open Go.RowKit Fx

/-- The last one of a window, up to the k-th, with these numbers. -/
def findW (H : HeardC) (seq span : Int) : Nat → Option SentC
  | 0 => none
  | k + 1 => if (nth H k).seq = seq ∧ (nth H k).span = span then some (nth H k) else findW H seq span k
def tailR (seq next : Int) : Int × Bool × Int := if seq = next then (0, false, 0) else (0, false, 9)
def bareB (b : BatchC) : BatchC := { b with base := 0 }
def checkH (H : HeardC) (b : BatchC) : Int × Bool × Int :=
  if b.epoch < H.epoch then (0, false, 8)
  else if b.epoch = H.epoch then (match findW H b.seq b.span H.count with | some s => (s.base, true, 0) | none => tailR b.seq (nextW H))
  else tailR b.seq 0
def checkR (M : List (Int × HeardC)) (b : BatchC) : Int × Bool × Int :=
  if b.prod = -1 then (0, false, 0) else if mayB (bareB b) = true then checkH (oldH M b.prod) b else (0, false, 1)
def resV (r : Int × Bool × Int) : Value := .tuple #[.int .i64 r.1, .bool r.2.1, .int .i64 r.2.2]
def nilM : List (Int × HeardC) := []
section
variable {w0 w w' : World}
set_option maxRecDepth 100000 in
set_option maxHeartbeats 4000000 in
theorem check_none (pv : Option Addr) (b : BatchC) (hp : b.prod = -1) (w : World) : Calls Try.prog 10 #[.pointer pv, .agg #[.int .i64 b.base, .int .i64 b.span, .int .i64 b.prod, .int .i64 b.epoch, .int .i64 b.seq, .slice b.ra b.rn b.rc]] w fun e w' => Same w e (.tuple #[.int .i64 0, .bool false, .int .i64 0]) w' := by
  have hB : (w.alloc (.cells (bcells b) 31)).heap[w.heap.size]? = some (.cells (bcells b) 31 (0, 0)) := heap_new _ _ _ rfl
  have hK : K0 w (w.alloc (.cells (bcells b) 31)) := (Keeps.refl _ _).alloc _
  unfold bcells at hB hK
  have c2 := block_cell hB 2
  have hlt := block_lt hB
  have HK := Lib.hid hK
  rw [hp] at *
  have c2' : _ = some (Value.int .i64 (-1)) := c2
  clear hB hK c2
  go_enter Try.func10, Try.ntmps10
  go_wp2
  go_ret3
  exact ⟨rfl, HK.out⟩
set_option maxRecDepth 100000 in
set_option maxHeartbeats 4000000 in
theorem check_bad (pv : Option Addr) (b : BatchC) (hp : ¬ b.prod = -1) (hb : mayB (bareB b) = false) (w : World) : Calls Try.prog 10 #[.pointer pv, .agg #[.int .i64 b.base, .int .i64 b.span, .int .i64 b.prod, .int .i64 b.epoch, .int .i64 b.seq, .slice b.ra b.rn b.rc]] w fun e w' => Same w e (.tuple #[.int .i64 0, .bool false, .int .i64 1]) w' := by
  have hB : (w.alloc (.cells (bcells (bareB b)) 31)).heap[w.heap.size]? = some (.cells (bcells (bareB b)) 31 (0, 0)) := heap_new _ _ _ rfl
  have hK : K0 w (w.alloc (.cells (bcells (bareB b)) 31)) := (Keeps.refl _ _).alloc _
  have hA : (w.alloc (.cells (bcells b) 31)).heap[w.heap.size]? = some (.cells (bcells b) 31 (0, 0)) := heap_new _ _ _ rfl
  have a2 := block_cell hA 2
  have fr := block_free hA 0
  have la := block_lt hA
  unfold bcells bareB at hB hK
  unfold bcells at a2 fr la
  have a2 : (w.alloc (.cells #[.int .i64 b.base, .int .i64 b.span, .int .i64 b.prod, .int .i64 b.epoch, .int .i64 b.seq, .slice b.ra b.rn b.rc] 31)).cell? ⟨w.heap.size, 2, none⟩ = some (.int .i64 b.prod) := a2
  clear hA
  have HB := Lib.hid hB
  have HK := Lib.hid hK
  clear hB hK
  have HM : Hid (∀ wx, Calls Try.prog 24 #[.agg #[.int .i64 0, .int .i64 b.span, .int .i64 b.prod, .int .i64 b.epoch, .int .i64 b.seq, .slice b.ra b.rn b.rc]] wx fun e w' => Same wx e (.bool false) w') := fun wx => by rw [← hb]; exact may_any (bareB b) wx
  go_enter Try.func10, Try.ntmps10
  go_wp2_with fail
  refine (HM.out _).mono ?_
  rintro e w1 ⟨rfl, k1⟩
  go_wp2
  go_ret3
  exact ⟨rfl, K0.tr HK.out k1⟩
set_option maxRecDepth 100000 in
set_option maxHeartbeats 4000000 in
theorem check_fenced (pv : Option Addr) (b : BatchC) (H : HeardC) (hp : ¬ b.prod = -1) (hb : mayB (bareB b) = true) (w : World) (hof : ∀ w1, K0 w w1 → Calls Try.prog 25 #[.pointer pv, .int .i64 b.prod] w1 fun e w' => ∃ hb, e = .returned (.pointer (some ⟨hb, 0, none⟩)) ∧ HAt w' hb H ∧ K0 w1 w')
    (hE : b.epoch < H.epoch) : Calls Try.prog 10 #[.pointer pv, .agg #[.int .i64 b.base, .int .i64 b.span, .int .i64 b.prod, .int .i64 b.epoch, .int .i64 b.seq, .slice b.ra b.rn b.rc]] w fun e w' => Same w e (.tuple #[.int .i64 0, .bool false, .int .i64 8]) w' := by
  have hB : (w.alloc (.cells (bcells (bareB b)) 31)).heap[w.heap.size]? = some (.cells (bcells (bareB b)) 31 (0, 0)) := heap_new _ _ _ rfl
  have hK : K0 w (w.alloc (.cells (bcells (bareB b)) 31)) := (Keeps.refl _ _).alloc _
  have hA : (w.alloc (.cells (bcells b) 31)).heap[w.heap.size]? = some (.cells (bcells b) 31 (0, 0)) := heap_new _ _ _ rfl
  have a2 := block_cell hA 2
  have fr := block_free hA 0
  have la := block_lt hA
  unfold bcells bareB at hB hK
  unfold bcells at a2 fr la
  have a2 : (w.alloc (.cells #[.int .i64 b.base, .int .i64 b.span, .int .i64 b.prod, .int .i64 b.epoch, .int .i64 b.seq, .slice b.ra b.rn b.rc] 31)).cell? ⟨w.heap.size, 2, none⟩ = some (.int .i64 b.prod) := a2
  clear hA
  have HB := Lib.hid hB
  have HK := Lib.hid hK
  clear hB hK
  have HM : Hid (∀ wx, Calls Try.prog 24 #[.agg #[.int .i64 0, .int .i64 b.span, .int .i64 b.prod, .int .i64 b.epoch, .int .i64 b.seq, .slice b.ra b.rn b.rc]] wx fun e w' => Same wx e (.bool true) w') := fun wx => by rw [← hb]; exact may_any (bareB b) wx
  have HF := Lib.hid hof
  clear hof hb
  go_enter Try.func10, Try.ntmps10
  go_wp2_with fail
  refine (HM.out _).mono ?_
  rintro e w1 ⟨rfl, k1⟩
  have HB1 := Lib.hid ((k1.block _ (block_lt HB.out) (fun e => e)).trans HB.out)
  have HK1 := Lib.hid (K0.tr HK.out k1)
  have c2 : w1.cell? ⟨w.heap.size, 2, none⟩ = some (.int .i64 b.prod) := block_cell HB1.out 2
  have hlt := block_lt HB1.out
  clear k1
  go_wp2_with fail
  refine (HF.out _ HK1.out).mono ?_
  rintro e w2 ⟨hb2, rfl, hh, k2⟩
  have hb2' := (k2.block _ (block_lt HB1.out) (fun e => e)).trans HB1.out
  have HK2 := Lib.hid (K0.tr HK1.out k2)
  have HB2 := Lib.hid hb2'
  have HO := Lib.hid hh
  have c1 : w2.cell? ⟨w.heap.size, 1, none⟩ = some (.int .i64 b.span) := block_cell hb2' 1
  have c2 : w2.cell? ⟨w.heap.size, 2, none⟩ = some (.int .i64 b.prod) := block_cell hb2' 2
  have c3 : w2.cell? ⟨w.heap.size, 3, none⟩ = some (.int .i64 b.epoch) := block_cell hb2' 3
  have c4 : w2.cell? ⟨w.heap.size, 4, none⟩ = some (.int .i64 b.seq) := block_cell hb2' 4
  have hlt := block_lt hb2'
  have e0 : w2.cell? ⟨hb2, 0, none⟩ = some (.int .i64 H.epoch) := block_cell hh 0
  have e17 : w2.cell? ⟨hb2, 17, none⟩ = some (.int .i64 H.count) := block_cell hh 17
  have hlt2 := block_lt hh
  clear k2 hb2' hh
  go_wp2
  go_quiet (fail)
  go_wp2
  go_ret3
  exact ⟨rfl, HK2.out.drewN _⟩
set_option maxRecDepth 100000 in
set_option maxHeartbeats 4000000 in
theorem check_later (pv : Option Addr) (b : BatchC) (H : HeardC) (hp : ¬ b.prod = -1) (hb : mayB (bareB b) = true) (w : World) (hof : ∀ w1, K0 w w1 → Calls Try.prog 25 #[.pointer pv, .int .i64 b.prod] w1 fun e w' => ∃ hb, e = .returned (.pointer (some ⟨hb, 0, none⟩)) ∧ HAt w' hb H ∧ K0 w1 w')
    (hE : ¬ b.epoch < H.epoch) (hE2 : ¬ b.epoch = H.epoch) : Calls Try.prog 10 #[.pointer pv, .agg #[.int .i64 b.base, .int .i64 b.span, .int .i64 b.prod, .int .i64 b.epoch, .int .i64 b.seq, .slice b.ra b.rn b.rc]] w fun e w' => Same w e (.tuple #[.int .i64 0, .bool false, .int .i64 (if b.seq = 0 then 0 else 9)]) w' := by
  by_cases hs : b.seq = 0
  · rw [if_pos hs]
    have HSQ := Lib.hid hs
    clear hs
    have hB : (w.alloc (.cells (bcells (bareB b)) 31)).heap[w.heap.size]? = some (.cells (bcells (bareB b)) 31 (0, 0)) := heap_new _ _ _ rfl
    have hK : K0 w (w.alloc (.cells (bcells (bareB b)) 31)) := (Keeps.refl _ _).alloc _
    have hA : (w.alloc (.cells (bcells b) 31)).heap[w.heap.size]? = some (.cells (bcells b) 31 (0, 0)) := heap_new _ _ _ rfl
    have a2 := block_cell hA 2
    have fr := block_free hA 0
    have la := block_lt hA
    unfold bcells bareB at hB hK
    unfold bcells at a2 fr la
    have a2 : (w.alloc (.cells #[.int .i64 b.base, .int .i64 b.span, .int .i64 b.prod, .int .i64 b.epoch, .int .i64 b.seq, .slice b.ra b.rn b.rc] 31)).cell? ⟨w.heap.size, 2, none⟩ = some (.int .i64 b.prod) := a2
    clear hA
    have HB := Lib.hid hB
    have HK := Lib.hid hK
    clear hB hK
    have HM : Hid (∀ wx, Calls Try.prog 24 #[.agg #[.int .i64 0, .int .i64 b.span, .int .i64 b.prod, .int .i64 b.epoch, .int .i64 b.seq, .slice b.ra b.rn b.rc]] wx fun e w' => Same wx e (.bool true) w') := fun wx => by rw [← hb]; exact may_any (bareB b) wx
    have HF := Lib.hid hof
    clear hof hb
    go_enter Try.func10, Try.ntmps10
    go_wp2_with fail
    refine (HM.out _).mono ?_
    rintro e w1 ⟨rfl, k1⟩
    have HB1 := Lib.hid ((k1.block _ (block_lt HB.out) (fun e => e)).trans HB.out)
    have HK1 := Lib.hid (K0.tr HK.out k1)
    have c2 : w1.cell? ⟨w.heap.size, 2, none⟩ = some (.int .i64 b.prod) := block_cell HB1.out 2
    have hlt := block_lt HB1.out
    clear k1
    go_wp2_with fail
    refine (HF.out _ HK1.out).mono ?_
    rintro e w2 ⟨hb2, rfl, hh, k2⟩
    have hb2' := (k2.block _ (block_lt HB1.out) (fun e => e)).trans HB1.out
    have HK2 := Lib.hid (K0.tr HK1.out k2)
    have HB2 := Lib.hid hb2'
    have HO := Lib.hid hh
    have c1 : w2.cell? ⟨w.heap.size, 1, none⟩ = some (.int .i64 b.span) := block_cell hb2' 1
    have c2 : w2.cell? ⟨w.heap.size, 2, none⟩ = some (.int .i64 b.prod) := block_cell hb2' 2
    have c3 : w2.cell? ⟨w.heap.size, 3, none⟩ = some (.int .i64 b.epoch) := block_cell hb2' 3
    have c4 : w2.cell? ⟨w.heap.size, 4, none⟩ = some (.int .i64 b.seq) := block_cell hb2' 4
    have hlt := block_lt hb2'
    have e0 : w2.cell? ⟨hb2, 0, none⟩ = some (.int .i64 H.epoch) := block_cell hh 0
    have e17 : w2.cell? ⟨hb2, 17, none⟩ = some (.int .i64 H.count) := block_cell hh 17
    have hlt2 := block_lt hh
    clear k2 hb2' hh
    go_wp2
    go_quiet (fail)
    go_wp2
    go_quiet (fail)
    have hs := HSQ.out
    go_wp2
    go_ret3
    exact ⟨rfl, HK2.out.drewN _⟩
  · rw [if_neg hs]
    have HSQ := Lib.hid hs
    clear hs
    have hB : (w.alloc (.cells (bcells (bareB b)) 31)).heap[w.heap.size]? = some (.cells (bcells (bareB b)) 31 (0, 0)) := heap_new _ _ _ rfl
    have hK : K0 w (w.alloc (.cells (bcells (bareB b)) 31)) := (Keeps.refl _ _).alloc _
    have hA : (w.alloc (.cells (bcells b) 31)).heap[w.heap.size]? = some (.cells (bcells b) 31 (0, 0)) := heap_new _ _ _ rfl
    have a2 := block_cell hA 2
    have fr := block_free hA 0
    have la := block_lt hA
    unfold bcells bareB at hB hK
    unfold bcells at a2 fr la
    have a2 : (w.alloc (.cells #[.int .i64 b.base, .int .i64 b.span, .int .i64 b.prod, .int .i64 b.epoch, .int .i64 b.seq, .slice b.ra b.rn b.rc] 31)).cell? ⟨w.heap.size, 2, none⟩ = some (.int .i64 b.prod) := a2
    clear hA
    have HB := Lib.hid hB
    have HK := Lib.hid hK
    clear hB hK
    have HM : Hid (∀ wx, Calls Try.prog 24 #[.agg #[.int .i64 0, .int .i64 b.span, .int .i64 b.prod, .int .i64 b.epoch, .int .i64 b.seq, .slice b.ra b.rn b.rc]] wx fun e w' => Same wx e (.bool true) w') := fun wx => by rw [← hb]; exact may_any (bareB b) wx
    have HF := Lib.hid hof
    clear hof hb
    go_enter Try.func10, Try.ntmps10
    go_wp2_with fail
    refine (HM.out _).mono ?_
    rintro e w1 ⟨rfl, k1⟩
    have HB1 := Lib.hid ((k1.block _ (block_lt HB.out) (fun e => e)).trans HB.out)
    have HK1 := Lib.hid (K0.tr HK.out k1)
    have c2 : w1.cell? ⟨w.heap.size, 2, none⟩ = some (.int .i64 b.prod) := block_cell HB1.out 2
    have hlt := block_lt HB1.out
    clear k1
    go_wp2_with fail
    refine (HF.out _ HK1.out).mono ?_
    rintro e w2 ⟨hb2, rfl, hh, k2⟩
    have hb2' := (k2.block _ (block_lt HB1.out) (fun e => e)).trans HB1.out
    have HK2 := Lib.hid (K0.tr HK1.out k2)
    have HB2 := Lib.hid hb2'
    have HO := Lib.hid hh
    have c1 : w2.cell? ⟨w.heap.size, 1, none⟩ = some (.int .i64 b.span) := block_cell hb2' 1
    have c2 : w2.cell? ⟨w.heap.size, 2, none⟩ = some (.int .i64 b.prod) := block_cell hb2' 2
    have c3 : w2.cell? ⟨w.heap.size, 3, none⟩ = some (.int .i64 b.epoch) := block_cell hb2' 3
    have c4 : w2.cell? ⟨w.heap.size, 4, none⟩ = some (.int .i64 b.seq) := block_cell hb2' 4
    have hlt := block_lt hb2'
    have e0 : w2.cell? ⟨hb2, 0, none⟩ = some (.int .i64 H.epoch) := block_cell hh 0
    have e17 : w2.cell? ⟨hb2, 17, none⟩ = some (.int .i64 H.count) := block_cell hh 17
    have hlt2 := block_lt hh
    clear k2 hb2' hh
    go_wp2
    go_quiet (fail)
    go_wp2
    go_quiet (fail)
    have hs := HSQ.out
    go_wp2
    go_ret3
    exact ⟨rfl, HK2.out.drewN _⟩
set_option maxRecDepth 100000 in
set_option maxHeartbeats 4000000 in
theorem check_loop (pv : Option Addr) (b : BatchC) (H : HeardC) (hp : ¬ b.prod = -1) (hb : mayB (bareB b) = true) (w : World) (hof : ∀ w1, K0 w w1 → Calls Try.prog 25 #[.pointer pv, .int .i64 b.prod] w1 fun e w' => ∃ hb, e = .returned (.pointer (some ⟨hb, 0, none⟩)) ∧ HAt w' hb H ∧ K0 w1 w')
    (ok : HOk H) (hE : ¬ b.epoch < H.epoch) (hE2 : b.epoch = H.epoch) (R : Value) (hR : R = match findW H b.seq b.span H.count with | some s => .tuple #[.int .i64 s.base, .bool true, .int .i64 0] | none => .tuple #[.int .i64 0, .bool false, .int .i64 (if b.seq = nextW H then 0 else 9)]) : Calls Try.prog 10 #[.pointer pv, .agg #[.int .i64 b.base, .int .i64 b.span, .int .i64 b.prod, .int .i64 b.epoch, .int .i64 b.seq, .slice b.ra b.rn b.rc]] w fun e w' => Same w e (R) w' := by
  have HR := Lib.hid hR
  clear hR
  have HE2 := Lib.hid hE2
  clear hE2
  have hB : (w.alloc (.cells (bcells (bareB b)) 31)).heap[w.heap.size]? = some (.cells (bcells (bareB b)) 31 (0, 0)) := heap_new _ _ _ rfl
  have hK : K0 w (w.alloc (.cells (bcells (bareB b)) 31)) := (Keeps.refl _ _).alloc _
  have hA : (w.alloc (.cells (bcells b) 31)).heap[w.heap.size]? = some (.cells (bcells b) 31 (0, 0)) := heap_new _ _ _ rfl
  have a2 := block_cell hA 2
  have fr := block_free hA 0
  have la := block_lt hA
  unfold bcells bareB at hB hK
  unfold bcells at a2 fr la
  have a2 : (w.alloc (.cells #[.int .i64 b.base, .int .i64 b.span, .int .i64 b.prod, .int .i64 b.epoch, .int .i64 b.seq, .slice b.ra b.rn b.rc] 31)).cell? ⟨w.heap.size, 2, none⟩ = some (.int .i64 b.prod) := a2
  clear hA
  have HB := Lib.hid hB
  have HK := Lib.hid hK
  clear hB hK
  have HM : Hid (∀ wx, Calls Try.prog 24 #[.agg #[.int .i64 0, .int .i64 b.span, .int .i64 b.prod, .int .i64 b.epoch, .int .i64 b.seq, .slice b.ra b.rn b.rc]] wx fun e w' => Same wx e (.bool true) w') := fun wx => by rw [← hb]; exact may_any (bareB b) wx
  have HF := Lib.hid hof
  clear hof hb
  go_enter Try.func10, Try.ntmps10
  go_wp2_with fail
  refine (HM.out _).mono ?_
  rintro e w1 ⟨rfl, k1⟩
  have HB1 := Lib.hid ((k1.block _ (block_lt HB.out) (fun e => e)).trans HB.out)
  have HK1 := Lib.hid (K0.tr HK.out k1)
  have c2 : w1.cell? ⟨w.heap.size, 2, none⟩ = some (.int .i64 b.prod) := block_cell HB1.out 2
  have hlt := block_lt HB1.out
  clear k1
  go_wp2_with fail
  refine (HF.out _ HK1.out).mono ?_
  rintro e w2 ⟨hb2, rfl, hh, k2⟩
  have hb2' := (k2.block _ (block_lt HB1.out) (fun e => e)).trans HB1.out
  have HK2 := Lib.hid (K0.tr HK1.out k2)
  have HB2 := Lib.hid hb2'
  have HO := Lib.hid hh
  have c1 : w2.cell? ⟨w.heap.size, 1, none⟩ = some (.int .i64 b.span) := block_cell hb2' 1
  have c2 : w2.cell? ⟨w.heap.size, 2, none⟩ = some (.int .i64 b.prod) := block_cell hb2' 2
  have c3 : w2.cell? ⟨w.heap.size, 3, none⟩ = some (.int .i64 b.epoch) := block_cell hb2' 3
  have c4 : w2.cell? ⟨w.heap.size, 4, none⟩ = some (.int .i64 b.seq) := block_cell hb2' 4
  have hlt := block_lt hb2'
  have e0 : w2.cell? ⟨hb2, 0, none⟩ = some (.int .i64 H.epoch) := block_cell hh 0
  have e17 : w2.cell? ⟨hb2, 17, none⟩ = some (.int .i64 H.count) := block_cell hh 17
  have hlt2 := block_lt hh
  clear k2 hb2' hh
  have hcn := ok.c
  have hE2 := HE2.out
  go_wp2
  go_quiet (fail)
  go_wp2
  go_quiet (fail)
  go_wp2
  go_loopw [9] (fun i wr => ∃ k : Nat, i = .int .i64 ((k : Int) - 1) ∧ k ≤ H.count ∧ findW H b.seq b.span k = findW H b.seq b.span H.count ∧ K0 w2 wr) (fun i _ => (intOf i + 1).toNat)
  case atStart => exact ⟨H.count, rfl, Nat.le_refl _, rfl, (Keeps.refl _ _).drewN _⟩
  case round =>
    obtain ⟨k, rfl, hk, hf, hkk⟩ := hrel
    have hh := (hkk.block _ (block_lt HO.out) (fun e => e)).trans HO.out
    have hbb := (hkk.block _ (block_lt HB2.out) (fun e => e)).trans HB2.out
    have HKR := Lib.hid (K0.tr HK2.out hkk)
    have HKK := Lib.hid hkk
    have HFF := Lib.hid hf
    clear hf hkk c1 c2 c3 c4 e0 e17 hlt hlt2
    cases k with
    | zero =>
      rw [show (((0 : Nat) : Int) - 1) = -1 from rfl]
      have HNX := Lib.hid (next_any hh ok)
      have HBB := Lib.hid hbb
      clear hh hbb
      go_wp2_with fail
      refine HNX.out.mono ?_
      rintro e w3 ⟨rfl, k3⟩
      have c4 : w3.cell? ⟨w.heap.size, 4, none⟩ = some (.int .i64 b.seq) := k3.cell' (block_cell HBB.out 4) (fun e => e)
      have hlt := Nat.lt_of_lt_of_le (block_lt HBB.out) k3.size
      have HK3 := Lib.hid (K0.tr HKR.out k3)
      clear k3
      by_cases hs : b.seq = nextW H
      · have hs2 : (b.seq != nextW H) = false := by simp [hs]
        have HSQ := Lib.hid hs
        clear hs
        go_wp2
        go_ret3
        refine ⟨?_, HK3.out⟩
        have e := HR.out
        rw [← HFF.out] at e
        simp only [findW] at e
        rw [if_pos HSQ.out] at e
        rw [e]
        rfl
      · have hs2 : (b.seq != nextW H) = true := by simpa using hs
        have HSQ := Lib.hid hs
        clear hs
        go_wp2
        go_ret3
        refine ⟨?_, HK3.out⟩
        have e := HR.out
        rw [← HFF.out] at e
        simp only [findW] at e
        rw [if_neg HSQ.out] at e
        rw [e]
        rfl
    | succ k =>
      rw [show (((k + 1 : Nat) : Int) - 1) = (k : Int) by omega]
      have A := Lib.hid (at_any hh ok k (by omega))
      have hs := slot_lt H k
      have cs := hcells_at H hs
      have d0 : wr.cell? ⟨hb2, 1 + slot H k * 3, none⟩ = some (.int .i64 (nth H k).seq) := (block_cell hh _).trans cs.1
      have d1 : wr.cell? ⟨hb2, 1 + slot H k * 3 + 1, none⟩ = some (.int .i64 (nth H k).base) := (block_cell hh _).trans cs.2.1
      have d2 : wr.cell? ⟨hb2, 1 + slot H k * 3 + 2, none⟩ = some (.int .i64 (nth H k).span) := (block_cell hh _).trans cs.2.2
      have b1 : wr.cell? ⟨w.heap.size, 1, none⟩ = some (.int .i64 b.span) := block_cell hbb 1
      have b4 : wr.cell? ⟨w.heap.size, 4, none⟩ = some (.int .i64 b.seq) := block_cell hbb 4
      have l1 := block_lt hh
      have l2 := block_lt hbb
      clear cs hh hbb
      go_wp2_with fail
      refine A.out.mono ?_
      rintro e w3 ⟨rfl, k3⟩
      have HK23 := Lib.hid (K0.tr HKK.out k3)
      have HK3 := Lib.hid (K0.tr HKR.out k3)
      have d0 := k3.cell' d0 (fun e => e)
      have d1 := k3.cell' d1 (fun e => e)
      have d2 := k3.cell' d2 (fun e => e)
      have b1 := k3.cell' b1 (fun e => e)
      have b4 := k3.cell' b4 (fun e => e)
      have l1 := Nat.lt_of_lt_of_le l1 k3.size
      have l2 := Nat.lt_of_lt_of_le l2 k3.size
      clear k3 A
      by_cases q1 : (nth H k).seq = b.seq
      · have p1 : ((nth H k).seq == b.seq) = true := by simpa using q1
        by_cases q2 : (nth H k).span = b.span
        · have p2 : ((nth H k).span == b.span) = true := by simpa using q2
          have HQ := Lib.hid (⟨q1, q2⟩ : (nth H k).seq = b.seq ∧ (nth H k).span = b.span)
          clear q1 q2
          go_wp2
          go_quiet (fail)
          go_wp2
          go_ret3
          refine ⟨?_, HK3.out.drewN _⟩
          have e := HR.out
          rw [← HFF.out] at e
          simp only [findW, if_pos HQ.out] at e
          rw [e]
          rfl
        · have p2 : ((nth H k).span == b.span) = false := by simpa using q2
          have HQ : Hid (¬ ((nth H k).seq = b.seq ∧ (nth H k).span = b.span)) := fun e => q2 e.2
          clear q1 q2
          go_wp2
          go_quiet (fail)
          go_wp2
          go_roundw
          case rel => exact ⟨k, rfl, by omega, by rw [← HFF.out]; simp only [findW, if_neg HQ.out], HK23.out.drewN _⟩
          case measure => first | (simp [intOf]; done) | (simp [intOf]; omega)
      · have p1 : ((nth H k).seq == b.seq) = false := by simpa using q1
        have HQ : Hid (¬ ((nth H k).seq = b.seq ∧ (nth H k).span = b.span)) := fun e => q1 e.1
        clear q1
        go_wp2
        go_quiet (fail)
        go_wp2
        go_roundw
        case rel => exact ⟨k, rfl, by omega, by rw [← HFF.out]; simp only [findW, if_neg HQ.out], HK23.out.drewN _⟩
        case measure => first | (simp [intOf]; done) | (simp [intOf]; omega)
theorem check_h (pv : Option Addr) (b : BatchC) (H : HeardC) (hp : ¬ b.prod = -1) (hb : mayB (bareB b) = true) (w : World) (hof : ∀ w1, K0 w w1 → Calls Try.prog 25 #[.pointer pv, .int .i64 b.prod] w1 fun e w' => ∃ hb, e = .returned (.pointer (some ⟨hb, 0, none⟩)) ∧ HAt w' hb H ∧ K0 w1 w')
    (ok : HOk H) : Calls Try.prog 10 #[.pointer pv, .agg #[.int .i64 b.base, .int .i64 b.span, .int .i64 b.prod, .int .i64 b.epoch, .int .i64 b.seq, .slice b.ra b.rn b.rc]] w fun e w' => Same w e (resV (checkH H b)) w' := by
  unfold checkH
  by_cases h1 : b.epoch < H.epoch
  · rw [if_pos h1]
    exact check_fenced pv b H hp hb w hof h1
  · rw [if_neg h1]
    by_cases h2 : b.epoch = H.epoch
    · rw [if_pos h2]
      refine check_loop pv b H hp hb w hof ok h1 h2 _ ?_
      cases findW H b.seq b.span H.count with
      | some s => rfl
      | none =>
        unfold tailR
        by_cases h3 : b.seq = nextW H
        · simp only [if_pos h3]; rfl
        · simp only [if_neg h3]; rfl
    · rw [if_neg h2]
      have := check_later pv b H hp hb w hof h1 h2
      unfold tailR
      by_cases h3 : b.seq = 0
      · rw [if_pos h3] at this ⊢; exact this
      · rw [if_neg h3] at this ⊢; exact this
theorem check_all (pv : Option Addr) (b : BatchC) (M : List (Int × HeardC)) (w : World) (ok : HOk (oldH M b.prod)) (hof : ∀ w1, K0 w w1 → Calls Try.prog 25 #[.pointer pv, .int .i64 b.prod] w1 fun e w' => ∃ hb, e = .returned (.pointer (some ⟨hb, 0, none⟩)) ∧ HAt w' hb (oldH M b.prod) ∧ K0 w1 w') :
    Calls Try.prog 10 #[.pointer pv, .agg #[.int .i64 b.base, .int .i64 b.span, .int .i64 b.prod, .int .i64 b.epoch, .int .i64 b.seq, .slice b.ra b.rn b.rc]] w fun e w' => Same w e (resV (checkR M b)) w' := by
  unfold checkR
  by_cases hp : b.prod = -1
  · rw [if_pos hp]; exact check_none pv b hp w
  · rw [if_neg hp]
    cases hb : mayB (bareB b) with
    | false => rw [if_neg (by simp)]; exact check_bad pv b hp hb w
    | true => rw [if_pos rfl]; exact check_h pv b _ hp hb w hof ok
theorem check_nil (b : BatchC) (w : World) : Calls Try.prog 10 #[.pointer none, .agg #[.int .i64 b.base, .int .i64 b.span, .int .i64 b.prod, .int .i64 b.epoch, .int .i64 b.seq, .slice b.ra b.rn b.rc]] w fun e w' => Same w e (resV (checkR [] b)) w' :=
  check_all none b [] w noneH_ok fun w1 _ => (of_nil b.prod w1).mono fun e w' hq => ⟨_, hq.1, hq.2.1, hq.2.2⟩
theorem check_any {pb : Nat} {M : List (Int × HeardC)} (h : PSt w0 w pb M) (wf : WfM M) (b : BatchC) : Calls Try.prog 10 #[.pointer (some ⟨pb, 0, none⟩), .agg #[.int .i64 b.base, .int .i64 b.span, .int .i64 b.prod, .int .i64 b.epoch, .int .i64 b.seq, .slice b.ra b.rn b.rc]] w fun e w' => Same w e (resV (checkR M b)) w' := by
  obtain ⟨mb, L, h⟩ := h
  refine check_all (some ⟨pb, 0, none⟩) b M w (wf.old b.prod).1 fun w1 k1 => (of_any (h.keep k1) b.prod).mono fun e w' hq => ?_
  obtain ⟨hb, h1, h2, h3, _⟩ := hq
  exact ⟨hb, h1, h2, h3⟩
end
end Go.Proofs.Ytbjpifipjcfhkaa
