/-
  The document's Check.
-/
import Derived.Test.YtbjpifipjcfhkaaJb
import Derived.IntWalk
namespace Go.Proofs.Ytbjpifipjcfhkaa
open Go.RowKit Fx

theorem winCell {w : World} {g off : Nat} {ws : List SentC} (h : ∀ q u, (ws.flatMap encS)[q]? = some u → w.cell? ⟨g, off + q, none⟩ = some u) (k : Nat) (hk : k < ws.length) :
    w.cell? ⟨g, off + k * 3, none⟩ = some (.int .i64 ws[k].seq) ∧ w.cell? ⟨g, off + k * 3 + 1, none⟩ = some (.int .i64 ws[k].base) ∧ w.cell? ⟨g, off + k * 3 + 2, none⟩ = some (.int .i64 ws[k].span) := by
  have hc : ∀ j u, j < 3 → (encS ws[k])[j]? = some u → w.cell? ⟨g, off + (k * 3 + j), none⟩ = some u := fun j u hj e => h _ _ ((flatMap_get encS 3 encS_len ws k j hk hj).trans e)
  exact ⟨hc 0 _ (by omega) rfl, by rw [Nat.add_assoc]; exact hc 1 _ (by omega) rfl, by rw [Nat.add_assoc]; exact hc 2 _ (by omega) rfl⟩
section
variable {w : World} {F : Nat → Prop} {bb : Nat} {R : List (Int × HeardC)}
set_option maxRecDepth 100000 in
set_option maxHeartbeats 4000000 in
theorem rcheck_none (b : BatchC) (hp : b.prod = -1) : Calls Try.prog 11 #[.pointer (some ⟨bb, 0, none⟩), .agg #[.int .i64 b.base, .int .i64 b.span, .int .i64 b.prod, .int .i64 b.epoch, .int .i64 b.seq, .slice b.ra b.rn b.rc]] w fun e w' => Same w e (.tuple #[.int .i64 0, .bool false, .int .i64 0]) w' := by
  have hB : (w.alloc (.cells (bcells b) 31)).heap[w.heap.size]? = some (.cells (bcells b) 31 (0, 0)) := heap_new _ _ _ rfl
  have hK : K0 w (w.alloc (.cells (bcells b) 31)) := (Keeps.refl _ _).alloc _
  unfold bcells at hB hK
  have c2 := block_cell hB 2
  have hlt := block_lt hB
  have HK := Lib.hid hK
  rw [hp] at *
  have c2' : _ = some (Value.int .i64 (-1)) := c2
  clear hB hK c2
  go_enter Try.func11, Try.ntmps11
  go_wp2
  go_ret3
  exact ⟨rfl, HK.out⟩
set_option maxRecDepth 100000 in
set_option maxHeartbeats 4000000 in
theorem rcheck_bad (b : BatchC) (hp : ¬ b.prod = -1) (hb : mayB (bareB b) = false) : Calls Try.prog 11 #[.pointer (some ⟨bb, 0, none⟩), .agg #[.int .i64 b.base, .int .i64 b.span, .int .i64 b.prod, .int .i64 b.epoch, .int .i64 b.seq, .slice b.ra b.rn b.rc]] w fun e w' => Same w e (.tuple #[.int .i64 0, .bool false, .int .i64 1]) w' := by
  have hB : (w.alloc (.cells (bcells (bareB b)) 31)).heap[w.heap.size]? = some (.cells (bcells (bareB b)) 31 (0, 0)) := heap_new _ _ _ rfl
  have hK : K0 w (w.alloc (.cells (bcells (bareB b)) 31)) := (Keeps.refl _ _).alloc _
  have hA : (w.alloc (.cells (bcells b) 31)).heap[w.heap.size]? = some (.cells (bcells b) 31 (0, 0)) := heap_new _ _ _ rfl
  have a2 := block_cell hA 2
  have fr := block_free hA 0
  have la := block_lt hA
  unfold bcells bareB at hB hK
  unfold bcells at a2 fr la
  have a2 : (w.alloc (.cells #[.int .i64 b.base, .int .i64 b.span, .int .i64 b.prod, .int .i64 b.epoch, .int .i64 b.seq, .slice b.ra b.rn b.rc] 31)).cell? ⟨w.heap.size, 2, none⟩ = some (.int .i64 b.prod) := a2
  clear hA
  have HB := Lib.hid hB
  have HK := Lib.hid hK
  clear hB hK
  have HM : Hid (∀ wx, Calls Try.prog 28 #[.agg #[.int .i64 0, .int .i64 b.span, .int .i64 b.prod, .int .i64 b.epoch, .int .i64 b.seq, .slice b.ra b.rn b.rc]] wx fun e w' => Same wx e (.bool false) w') := fun wx => by rw [← hb]; exact numbers_any (bareB b) wx
  go_enter Try.func11, Try.ntmps11
  go_wp2_with fail
  refine (HM.out _).mono ?_
  rintro e w1 ⟨rfl, k1⟩
  go_wp2
  go_ret3
  exact ⟨rfl, K0.tr HK.out k1⟩
set_option maxRecDepth 100000 in
set_option maxHeartbeats 4000000 in
theorem rcheck_new (b : BatchC) (hp : ¬ b.prod = -1) (hb : mayB (bareB b) = true) (h : RPst w F bb R) (ha : aget R b.prod = none) : Calls Try.prog 11 #[.pointer (some ⟨bb, 0, none⟩), .agg #[.int .i64 b.base, .int .i64 b.span, .int .i64 b.prod, .int .i64 b.epoch, .int .i64 b.seq, .slice b.ra b.rn b.rc]] w fun e w' => Same w e (resV (tailR b.seq 0)) w' := by
  unfold tailR
  by_cases h0 : b.seq = 0
  · rw [if_pos h0]
    have H0 := Lib.hid h0
    clear h0
    have hB : (w.alloc (.cells (bcells (bareB b)) 31)).heap[w.heap.size]? = some (.cells (bcells (bareB b)) 31 (0, 0)) := heap_new _ _ _ rfl
    have hK : K0 w (w.alloc (.cells (bcells (bareB b)) 31)) := (Keeps.refl _ _).alloc _
    have hA : (w.alloc (.cells (bcells b) 31)).heap[w.heap.size]? = some (.cells (bcells b) 31 (0, 0)) := heap_new _ _ _ rfl
    have a2 := block_cell hA 2
    have fr := block_free hA 0
    have la := block_lt hA
    unfold bcells bareB at hB hK
    unfold bcells at a2 fr la
    have a2 : (w.alloc (.cells #[.int .i64 b.base, .int .i64 b.span, .int .i64 b.prod, .int .i64 b.epoch, .int .i64 b.seq, .slice b.ra b.rn b.rc] 31)).cell? ⟨w.heap.size, 2, none⟩ = some (.int .i64 b.prod) := a2
    clear hA
    have HB := Lib.hid hB
    have HK := Lib.hid hK
    clear hB hK
    have HM : Hid (∀ wx, Calls Try.prog 28 #[.agg #[.int .i64 0, .int .i64 b.span, .int .i64 b.prod, .int .i64 b.epoch, .int .i64 b.seq, .slice b.ra b.rn b.rc]] wx fun e w' => Same wx e (.bool true) w') := fun wx => by rw [← hb]; exact numbers_any (bareB b) wx
    have HH := Lib.hid (h.keep HK.out (fun _ _ e => e))
    clear h
    go_enter Try.func11, Try.ntmps11
    go_wp2_with fail
    refine (HM.out _).mono ?_
    rintro e w1 ⟨rfl, k1⟩
    have h1 := HH.out.keep k1 (fun _ _ e => e)
    have hb1 := (k1.block _ (block_lt HB.out) (fun e => e)).trans HB.out
    have HK1 := Lib.hid (K0.tr HK.out k1)
    have HB1 := Lib.hid hb1
    have c2 : w1.cell? ⟨w.heap.size, 2, none⟩ = some (.int .i64 b.prod) := block_cell hb1 2
    have c3 : w1.cell? ⟨w.heap.size, 3, none⟩ = some (.int .i64 b.epoch) := block_cell hb1 3
    have c4 : w1.cell? ⟨w.heap.size, 4, none⟩ = some (.int .i64 b.seq) := block_cell hb1 4
    have c1 : w1.cell? ⟨w.heap.size, 1, none⟩ = some (.int .i64 b.span) := block_cell hb1 1
    have hlt := block_lt hb1
    obtain ⟨v, L, h2, hc⟩ := h1
    have x0 : w1.cell? ⟨bb, 0, none⟩ = some v := block_cell h2.blk 0
    have xl := block_lt h2.blk
    have HF := Lib.hid (rfind_none h2 hc ha)
    clear h2 hc k1 hb1
    go_wp2_with fail
    refine HF.out.mono ?_
    rintro e w2 ⟨rfl, rfl⟩
    have h0 := H0.out
    have h01 : (b.seq == 0) = true := by simp [h0]
    rw [h0] at c4
    clear h0
    go_wp2
    go_ret3
    exact ⟨rfl, HK1.out⟩
  · rw [if_neg h0]
    have H0 := Lib.hid h0
    clear h0
    have hB : (w.alloc (.cells (bcells (bareB b)) 31)).heap[w.heap.size]? = some (.cells (bcells (bareB b)) 31 (0, 0)) := heap_new _ _ _ rfl
    have hK : K0 w (w.alloc (.cells (bcells (bareB b)) 31)) := (Keeps.refl _ _).alloc _
    have hA : (w.alloc (.cells (bcells b) 31)).heap[w.heap.size]? = some (.cells (bcells b) 31 (0, 0)) := heap_new _ _ _ rfl
    have a2 := block_cell hA 2
    have fr := block_free hA 0
    have la := block_lt hA
    unfold bcells bareB at hB hK
    unfold bcells at a2 fr la
    have a2 : (w.alloc (.cells #[.int .i64 b.base, .int .i64 b.span, .int .i64 b.prod, .int .i64 b.epoch, .int .i64 b.seq, .slice b.ra b.rn b.rc] 31)).cell? ⟨w.heap.size, 2, none⟩ = some (.int .i64 b.prod) := a2
    clear hA
    have HB := Lib.hid hB
    have HK := Lib.hid hK
    clear hB hK
    have HM : Hid (∀ wx, Calls Try.prog 28 #[.agg #[.int .i64 0, .int .i64 b.span, .int .i64 b.prod, .int .i64 b.epoch, .int .i64 b.seq, .slice b.ra b.rn b.rc]] wx fun e w' => Same wx e (.bool true) w') := fun wx => by rw [← hb]; exact numbers_any (bareB b) wx
    have HH := Lib.hid (h.keep HK.out (fun _ _ e => e))
    clear h
    go_enter Try.func11, Try.ntmps11
    go_wp2_with fail
    refine (HM.out _).mono ?_
    rintro e w1 ⟨rfl, k1⟩
    have h1 := HH.out.keep k1 (fun _ _ e => e)
    have hb1 := (k1.block _ (block_lt HB.out) (fun e => e)).trans HB.out
    have HK1 := Lib.hid (K0.tr HK.out k1)
    have HB1 := Lib.hid hb1
    have c2 : w1.cell? ⟨w.heap.size, 2, none⟩ = some (.int .i64 b.prod) := block_cell hb1 2
    have c3 : w1.cell? ⟨w.heap.size, 3, none⟩ = some (.int .i64 b.epoch) := block_cell hb1 3
    have c4 : w1.cell? ⟨w.heap.size, 4, none⟩ = some (.int .i64 b.seq) := block_cell hb1 4
    have c1 : w1.cell? ⟨w.heap.size, 1, none⟩ = some (.int .i64 b.span) := block_cell hb1 1
    have hlt := block_lt hb1
    obtain ⟨v, L, h2, hc⟩ := h1
    have x0 : w1.cell? ⟨bb, 0, none⟩ = some v := block_cell h2.blk 0
    have xl := block_lt h2.blk
    have HF := Lib.hid (rfind_none h2 hc ha)
    clear h2 hc k1 hb1
    go_wp2_with fail
    refine HF.out.mono ?_
    rintro e w2 ⟨rfl, rfl⟩
    have h0 := H0.out
    have h01 : (b.seq == 0) = false := by rw [beq_eq_false_iff_ne]; exact h0
    clear h0
    go_wp2
    go_ret3
    exact ⟨rfl, HK1.out⟩
set_option maxRecDepth 100000 in
set_option maxHeartbeats 4000000 in
theorem rcheck_fenced (b : BatchC) (H : HeardC) (hp : ¬ b.prod = -1) (hb : mayB (bareB b) = true) (h : RPst w F bb R) (hd : KD R) (ha : aget R b.prod = some H) (hE : b.epoch < H.epoch) : Calls Try.prog 11 #[.pointer (some ⟨bb, 0, none⟩), .agg #[.int .i64 b.base, .int .i64 b.span, .int .i64 b.prod, .int .i64 b.epoch, .int .i64 b.seq, .slice b.ra b.rn b.rc]] w fun e w' => Same w e (resV (0, false, 8)) w' := by
  have hB : (w.alloc (.cells (bcells (bareB b)) 31)).heap[w.heap.size]? = some (.cells (bcells (bareB b)) 31 (0, 0)) := heap_new _ _ _ rfl
  have hK : K0 w (w.alloc (.cells (bcells (bareB b)) 31)) := (Keeps.refl _ _).alloc _
  have hA : (w.alloc (.cells (bcells b) 31)).heap[w.heap.size]? = some (.cells (bcells b) 31 (0, 0)) := heap_new _ _ _ rfl
  have a2 := block_cell hA 2
  have fr := block_free hA 0
  have la := block_lt hA
  unfold bcells bareB at hB hK
  unfold bcells at a2 fr la
  have a2 : (w.alloc (.cells #[.int .i64 b.base, .int .i64 b.span, .int .i64 b.prod, .int .i64 b.epoch, .int .i64 b.seq, .slice b.ra b.rn b.rc] 31)).cell? ⟨w.heap.size, 2, none⟩ = some (.int .i64 b.prod) := a2
  clear hA
  have HB := Lib.hid hB
  have HK := Lib.hid hK
  clear hB hK
  have HM : Hid (∀ wx, Calls Try.prog 28 #[.agg #[.int .i64 0, .int .i64 b.span, .int .i64 b.prod, .int .i64 b.epoch, .int .i64 b.seq, .slice b.ra b.rn b.rc]] wx fun e w' => Same wx e (.bool true) w') := fun wx => by rw [← hb]; exact numbers_any (bareB b) wx
  have HH := Lib.hid (h.keep HK.out (fun _ _ e => e))
  clear h
  go_enter Try.func11, Try.ntmps11
  go_wp2_with fail
  refine (HM.out _).mono ?_
  rintro e w1 ⟨rfl, k1⟩
  have h1 := HH.out.keep k1 (fun _ _ e => e)
  have hb1 := (k1.block _ (block_lt HB.out) (fun e => e)).trans HB.out
  have HK1 := Lib.hid (K0.tr HK.out k1)
  have HB1 := Lib.hid hb1
  have c2 : w1.cell? ⟨w.heap.size, 2, none⟩ = some (.int .i64 b.prod) := block_cell hb1 2
  have c3 : w1.cell? ⟨w.heap.size, 3, none⟩ = some (.int .i64 b.epoch) := block_cell hb1 3
  have c4 : w1.cell? ⟨w.heap.size, 4, none⟩ = some (.int .i64 b.seq) := block_cell hb1 4
  have c1 : w1.cell? ⟨w.heap.size, 1, none⟩ = some (.int .i64 b.span) := block_cell hb1 1
  have hlt := block_lt hb1
  obtain ⟨v, L, h2, hc⟩ := h1
  have x0 : w1.cell? ⟨bb, 0, none⟩ = some v := block_cell h2.blk 0
  have xl := block_lt h2.blk
  have HF := Lib.hid (rfind_some h2 hc ha)
  have HL := Lib.hid (core_len hc)
  have HC := Lib.hid hc
  have HE : Hid (∀ i (hi : i < R.length), R[i].1 = b.prod → R[i].2 = H) := by
    show ∀ i hi, _ → _
    intro i hi he
    have := agetI_at hd hi
    rw [he, ha] at this
    cases this
    rfl
  obtain ⟨r, cap, rfl, hcap⟩ : ∃ r cap, v = .slice (some ⟨r, 0, none⟩) L.length cap ∧ L.length ≤ cap := by
    rcases h2.form with ⟨hn, _⟩ | ⟨r, cap, h1, _, _, h2, _⟩
    · have h9 : R = [] := List.eq_nil_of_length_eq_zero (by rw [← HL.out, hn]; rfl)
      rw [h9] at ha; cases ha
    · exact ⟨r, cap, h1, h2⟩
  have H2 := Lib.hid h2
  clear h2 hc k1 hb1 ha hd
  go_wp2_with fail
  refine HF.out.mono ?_
  rintro e w2 ⟨i, hi, rfl, rfl, he⟩
  have hi' : i < L.length := by rw [HL.out]; exact hi
  obtain ⟨_, g1, g2⟩ := core_at HC.out hi' hi
  have hR := HE.out i hi he
  rw [hR] at g1 g2
  obtain ⟨y0, y1, y2⟩ := H2.out.cell rfl i hi'
  have hout := H2.out.out _ (List.getElem_mem hi')
  rw [g2] at hout
  rw [g1] at y1
  generalize L[i].lv = lv at y2 hout
  generalize L[i].id = idv at y0
  have HOUT := Lib.hid hout
  have i0 : (0 : Int) ≤ i := by omega
  have i1 : (i : Int) < L.length := by omega
  have i2 : ¬ (i : Int) < 0 := by omega
  clear g1 g2 hR he hout
  obtain ⟨la, ln, lc, rfl⟩ : ∃ la ln lc, lv = .slice la ln lc := by rcases HOUT.out with ⟨_, h⟩ | ⟨_, _, _, h, _⟩ <;> exact ⟨_, _, _, h⟩
  go_wp2
  go_ret3
  exact ⟨rfl, HK1.out.alloc _⟩
set_option maxRecDepth 100000 in
set_option maxHeartbeats 4000000 in
theorem rcheck_later (b : BatchC) (H : HeardC) (hp : ¬ b.prod = -1) (hb : mayB (bareB b) = true) (h : RPst w F bb R) (hd : KD R) (ha : aget R b.prod = some H) (hE : ¬ b.epoch < H.epoch) (hE2 : ¬ b.epoch = H.epoch) : Calls Try.prog 11 #[.pointer (some ⟨bb, 0, none⟩), .agg #[.int .i64 b.base, .int .i64 b.span, .int .i64 b.prod, .int .i64 b.epoch, .int .i64 b.seq, .slice b.ra b.rn b.rc]] w fun e w' => Same w e (resV (tailR b.seq 0)) w' := by
  unfold tailR
  by_cases h0 : b.seq = 0
  · rw [if_pos h0]
    have H0 := Lib.hid h0
    clear h0
    have hB : (w.alloc (.cells (bcells (bareB b)) 31)).heap[w.heap.size]? = some (.cells (bcells (bareB b)) 31 (0, 0)) := heap_new _ _ _ rfl
    have hK : K0 w (w.alloc (.cells (bcells (bareB b)) 31)) := (Keeps.refl _ _).alloc _
    have hA : (w.alloc (.cells (bcells b) 31)).heap[w.heap.size]? = some (.cells (bcells b) 31 (0, 0)) := heap_new _ _ _ rfl
    have a2 := block_cell hA 2
    have fr := block_free hA 0
    have la := block_lt hA
    unfold bcells bareB at hB hK
    unfold bcells at a2 fr la
    have a2 : (w.alloc (.cells #[.int .i64 b.base, .int .i64 b.span, .int .i64 b.prod, .int .i64 b.epoch, .int .i64 b.seq, .slice b.ra b.rn b.rc] 31)).cell? ⟨w.heap.size, 2, none⟩ = some (.int .i64 b.prod) := a2
    clear hA
    have HB := Lib.hid hB
    have HK := Lib.hid hK
    clear hB hK
    have HM : Hid (∀ wx, Calls Try.prog 28 #[.agg #[.int .i64 0, .int .i64 b.span, .int .i64 b.prod, .int .i64 b.epoch, .int .i64 b.seq, .slice b.ra b.rn b.rc]] wx fun e w' => Same wx e (.bool true) w') := fun wx => by rw [← hb]; exact numbers_any (bareB b) wx
    have HH := Lib.hid (h.keep HK.out (fun _ _ e => e))
    clear h
    go_enter Try.func11, Try.ntmps11
    go_wp2_with fail
    refine (HM.out _).mono ?_
    rintro e w1 ⟨rfl, k1⟩
    have h1 := HH.out.keep k1 (fun _ _ e => e)
    have hb1 := (k1.block _ (block_lt HB.out) (fun e => e)).trans HB.out
    have HK1 := Lib.hid (K0.tr HK.out k1)
    have HB1 := Lib.hid hb1
    have c2 : w1.cell? ⟨w.heap.size, 2, none⟩ = some (.int .i64 b.prod) := block_cell hb1 2
    have c3 : w1.cell? ⟨w.heap.size, 3, none⟩ = some (.int .i64 b.epoch) := block_cell hb1 3
    have c4 : w1.cell? ⟨w.heap.size, 4, none⟩ = some (.int .i64 b.seq) := block_cell hb1 4
    have c1 : w1.cell? ⟨w.heap.size, 1, none⟩ = some (.int .i64 b.span) := block_cell hb1 1
    have hlt := block_lt hb1
    obtain ⟨v, L, h2, hc⟩ := h1
    have x0 : w1.cell? ⟨bb, 0, none⟩ = some v := block_cell h2.blk 0
    have xl := block_lt h2.blk
    have HF := Lib.hid (rfind_some h2 hc ha)
    have HL := Lib.hid (core_len hc)
    have HC := Lib.hid hc
    have HE : Hid (∀ i (hi : i < R.length), R[i].1 = b.prod → R[i].2 = H) := by
      show ∀ i hi, _ → _
      intro i hi he
      have := agetI_at hd hi
      rw [he, ha] at this
      cases this
      rfl
    obtain ⟨r, cap, rfl, hcap⟩ : ∃ r cap, v = .slice (some ⟨r, 0, none⟩) L.length cap ∧ L.length ≤ cap := by
      rcases h2.form with ⟨hn, _⟩ | ⟨r, cap, h1, _, _, h2, _⟩
      · have h9 : R = [] := List.eq_nil_of_length_eq_zero (by rw [← HL.out, hn]; rfl)
        rw [h9] at ha; cases ha
      · exact ⟨r, cap, h1, h2⟩
    have H2 := Lib.hid h2
    clear h2 hc k1 hb1 ha hd
    go_wp2_with fail
    refine HF.out.mono ?_
    rintro e w2 ⟨i, hi, rfl, rfl, he⟩
    have hi' : i < L.length := by rw [HL.out]; exact hi
    obtain ⟨_, g1, g2⟩ := core_at HC.out hi' hi
    have hR := HE.out i hi he
    rw [hR] at g1 g2
    obtain ⟨y0, y1, y2⟩ := H2.out.cell rfl i hi'
    have hout := H2.out.out _ (List.getElem_mem hi')
    rw [g2] at hout
    rw [g1] at y1
    generalize L[i].lv = lv at y2 hout
    generalize L[i].id = idv at y0
    have HOUT := Lib.hid hout
    have i0 : (0 : Int) ≤ i := by omega
    have i1 : (i : Int) < L.length := by omega
    have i2 : ¬ (i : Int) < 0 := by omega
    clear g1 g2 hR he hout
    obtain ⟨la, ln, lc, rfl⟩ : ∃ la ln lc, lv = .slice la ln lc := by rcases HOUT.out with ⟨_, h⟩ | ⟨_, _, _, h, _⟩ <;> exact ⟨_, _, _, h⟩
    have e1 : (b.epoch == H.epoch) = false := by rw [beq_eq_false_iff_ne]; exact hE2
    clear hE2
    have h0 := H0.out
    have h01 : (b.seq == 0) = true := by simp [h0]
    rw [h0] at c4
    clear h0
    go_wp2
    go_ret3
    exact ⟨rfl, HK1.out.alloc _⟩
  · rw [if_neg h0]
    have H0 := Lib.hid h0
    clear h0
    have hB : (w.alloc (.cells (bcells (bareB b)) 31)).heap[w.heap.size]? = some (.cells (bcells (bareB b)) 31 (0, 0)) := heap_new _ _ _ rfl
    have hK : K0 w (w.alloc (.cells (bcells (bareB b)) 31)) := (Keeps.refl _ _).alloc _
    have hA : (w.alloc (.cells (bcells b) 31)).heap[w.heap.size]? = some (.cells (bcells b) 31 (0, 0)) := heap_new _ _ _ rfl
    have a2 := block_cell hA 2
    have fr := block_free hA 0
    have la := block_lt hA
    unfold bcells bareB at hB hK
    unfold bcells at a2 fr la
    have a2 : (w.alloc (.cells #[.int .i64 b.base, .int .i64 b.span, .int .i64 b.prod, .int .i64 b.epoch, .int .i64 b.seq, .slice b.ra b.rn b.rc] 31)).cell? ⟨w.heap.size, 2, none⟩ = some (.int .i64 b.prod) := a2
    clear hA
    have HB := Lib.hid hB
    have HK := Lib.hid hK
    clear hB hK
    have HM : Hid (∀ wx, Calls Try.prog 28 #[.agg #[.int .i64 0, .int .i64 b.span, .int .i64 b.prod, .int .i64 b.epoch, .int .i64 b.seq, .slice b.ra b.rn b.rc]] wx fun e w' => Same wx e (.bool true) w') := fun wx => by rw [← hb]; exact numbers_any (bareB b) wx
    have HH := Lib.hid (h.keep HK.out (fun _ _ e => e))
    clear h
    go_enter Try.func11, Try.ntmps11
    go_wp2_with fail
    refine (HM.out _).mono ?_
    rintro e w1 ⟨rfl, k1⟩
    have h1 := HH.out.keep k1 (fun _ _ e => e)
    have hb1 := (k1.block _ (block_lt HB.out) (fun e => e)).trans HB.out
    have HK1 := Lib.hid (K0.tr HK.out k1)
    have HB1 := Lib.hid hb1
    have c2 : w1.cell? ⟨w.heap.size, 2, none⟩ = some (.int .i64 b.prod) := block_cell hb1 2
    have c3 : w1.cell? ⟨w.heap.size, 3, none⟩ = some (.int .i64 b.epoch) := block_cell hb1 3
    have c4 : w1.cell? ⟨w.heap.size, 4, none⟩ = some (.int .i64 b.seq) := block_cell hb1 4
    have c1 : w1.cell? ⟨w.heap.size, 1, none⟩ = some (.int .i64 b.span) := block_cell hb1 1
    have hlt := block_lt hb1
    obtain ⟨v, L, h2, hc⟩ := h1
    have x0 : w1.cell? ⟨bb, 0, none⟩ = some v := block_cell h2.blk 0
    have xl := block_lt h2.blk
    have HF := Lib.hid (rfind_some h2 hc ha)
    have HL := Lib.hid (core_len hc)
    have HC := Lib.hid hc
    have HE : Hid (∀ i (hi : i < R.length), R[i].1 = b.prod → R[i].2 = H) := by
      show ∀ i hi, _ → _
      intro i hi he
      have := agetI_at hd hi
      rw [he, ha] at this
      cases this
      rfl
    obtain ⟨r, cap, rfl, hcap⟩ : ∃ r cap, v = .slice (some ⟨r, 0, none⟩) L.length cap ∧ L.length ≤ cap := by
      rcases h2.form with ⟨hn, _⟩ | ⟨r, cap, h1, _, _, h2, _⟩
      · have h9 : R = [] := List.eq_nil_of_length_eq_zero (by rw [← HL.out, hn]; rfl)
        rw [h9] at ha; cases ha
      · exact ⟨r, cap, h1, h2⟩
    have H2 := Lib.hid h2
    clear h2 hc k1 hb1 ha hd
    go_wp2_with fail
    refine HF.out.mono ?_
    rintro e w2 ⟨i, hi, rfl, rfl, he⟩
    have hi' : i < L.length := by rw [HL.out]; exact hi
    obtain ⟨_, g1, g2⟩ := core_at HC.out hi' hi
    have hR := HE.out i hi he
    rw [hR] at g1 g2
    obtain ⟨y0, y1, y2⟩ := H2.out.cell rfl i hi'
    have hout := H2.out.out _ (List.getElem_mem hi')
    rw [g2] at hout
    rw [g1] at y1
    generalize L[i].lv = lv at y2 hout
    generalize L[i].id = idv at y0
    have HOUT := Lib.hid hout
    have i0 : (0 : Int) ≤ i := by omega
    have i1 : (i : Int) < L.length := by omega
    have i2 : ¬ (i : Int) < 0 := by omega
    clear g1 g2 hR he hout
    obtain ⟨la, ln, lc, rfl⟩ : ∃ la ln lc, lv = .slice la ln lc := by rcases HOUT.out with ⟨_, h⟩ | ⟨_, _, _, h, _⟩ <;> exact ⟨_, _, _, h⟩
    have e1 : (b.epoch == H.epoch) = false := by rw [beq_eq_false_iff_ne]; exact hE2
    clear hE2
    have h0 := H0.out
    have h01 : (b.seq == 0) = false := by rw [beq_eq_false_iff_ne]; exact h0
    clear h0
    go_wp2
    go_ret3
    exact ⟨rfl, HK1.out.alloc _⟩
set_option maxRecDepth 100000 in
set_option maxHeartbeats 8000000 in
theorem rcheck_same (b : BatchC) (H : HeardC) (hp : ¬ b.prod = -1) (hb : mayB (bareB b) = true) (h : RPst w F bb R) (hd : KD R) (ha : aget R b.prod = some H) (hE : ¬ b.epoch < H.epoch) (hE2 : b.epoch = H.epoch) (rr : Int × Bool × Int) (hr : (match findW H b.seq b.span H.count with | some s => (s.base, true, 0) | none => tailR b.seq (nextW H)) = rr) : Calls Try.prog 11 #[.pointer (some ⟨bb, 0, none⟩), .agg #[.int .i64 b.base, .int .i64 b.span, .int .i64 b.prod, .int .i64 b.epoch, .int .i64 b.seq, .slice b.ra b.rn b.rc]] w fun e w' => Same w e (resV rr) w' := by
  have HRR := Lib.hid hr
  have HE2 := Lib.hid hE2
  clear hr hE2
  have hB : (w.alloc (.cells (bcells (bareB b)) 31)).heap[w.heap.size]? = some (.cells (bcells (bareB b)) 31 (0, 0)) := heap_new _ _ _ rfl
  have hK : K0 w (w.alloc (.cells (bcells (bareB b)) 31)) := (Keeps.refl _ _).alloc _
  have hA : (w.alloc (.cells (bcells b) 31)).heap[w.heap.size]? = some (.cells (bcells b) 31 (0, 0)) := heap_new _ _ _ rfl
  have a2 := block_cell hA 2
  have fr := block_free hA 0
  have la := block_lt hA
  unfold bcells bareB at hB hK
  unfold bcells at a2 fr la
  have a2 : (w.alloc (.cells #[.int .i64 b.base, .int .i64 b.span, .int .i64 b.prod, .int .i64 b.epoch, .int .i64 b.seq, .slice b.ra b.rn b.rc] 31)).cell? ⟨w.heap.size, 2, none⟩ = some (.int .i64 b.prod) := a2
  clear hA
  have HB := Lib.hid hB
  have HK := Lib.hid hK
  clear hB hK
  have HM : Hid (∀ wx, Calls Try.prog 28 #[.agg #[.int .i64 0, .int .i64 b.span, .int .i64 b.prod, .int .i64 b.epoch, .int .i64 b.seq, .slice b.ra b.rn b.rc]] wx fun e w' => Same wx e (.bool true) w') := fun wx => by rw [← hb]; exact numbers_any (bareB b) wx
  have HH := Lib.hid (h.keep HK.out (fun _ _ e => e))
  clear h
  go_enter Try.func11, Try.ntmps11
  go_wp2_with fail
  refine (HM.out _).mono ?_
  rintro e w1 ⟨rfl, k1⟩
  have h1 := HH.out.keep k1 (fun _ _ e => e)
  have hb1 := (k1.block _ (block_lt HB.out) (fun e => e)).trans HB.out
  have HK1 := Lib.hid (K0.tr HK.out k1)
  have HB1 := Lib.hid hb1
  have c2 : w1.cell? ⟨w.heap.size, 2, none⟩ = some (.int .i64 b.prod) := block_cell hb1 2
  have c3 : w1.cell? ⟨w.heap.size, 3, none⟩ = some (.int .i64 b.epoch) := block_cell hb1 3
  have c4 : w1.cell? ⟨w.heap.size, 4, none⟩ = some (.int .i64 b.seq) := block_cell hb1 4
  have c1 : w1.cell? ⟨w.heap.size, 1, none⟩ = some (.int .i64 b.span) := block_cell hb1 1
  have hlt := block_lt hb1
  obtain ⟨v, L, h2, hc⟩ := h1
  have x0 : w1.cell? ⟨bb, 0, none⟩ = some v := block_cell h2.blk 0
  have xl := block_lt h2.blk
  have HF := Lib.hid (rfind_some h2 hc ha)
  have HL := Lib.hid (core_len hc)
  have HC := Lib.hid hc
  have HE : Hid (∀ i (hi : i < R.length), R[i].1 = b.prod → R[i].2 = H) := by
    show ∀ i hi, _ → _
    intro i hi he
    have := agetI_at hd hi
    rw [he, ha] at this
    cases this
    rfl
  obtain ⟨r, cap, rfl, hcap⟩ : ∃ r cap, v = .slice (some ⟨r, 0, none⟩) L.length cap ∧ L.length ≤ cap := by
    rcases h2.form with ⟨hn, _⟩ | ⟨r, cap, h1, _, _, h2, _⟩
    · have h9 : R = [] := List.eq_nil_of_length_eq_zero (by rw [← HL.out, hn]; rfl)
      rw [h9] at ha; cases ha
    · exact ⟨r, cap, h1, h2⟩
  have H2 := Lib.hid h2
  clear h2 hc k1 hb1 ha hd
  go_wp2_with fail
  refine HF.out.mono ?_
  rintro e w2 ⟨i, hi, rfl, rfl, he⟩
  have hi' : i < L.length := by rw [HL.out]; exact hi
  obtain ⟨_, g1, g2⟩ := core_at HC.out hi' hi
  have hR := HE.out i hi he
  rw [hR] at g1 g2
  obtain ⟨y0, y1, y2⟩ := H2.out.cell rfl i hi'
  have hout := H2.out.out _ (List.getElem_mem hi')
  rw [g2] at hout
  rw [g1] at y1
  generalize L[i].lv = lv at y2 hout
  generalize L[i].id = idv at y0
  have HOUT := Lib.hid hout
  have i0 : (0 : Int) ≤ i := by omega
  have i1 : (i : Int) < L.length := by omega
  have i2 : ¬ (i : Int) < 0 := by omega
  clear g1 g2 hR he hout
  have e1 : (b.epoch == H.epoch) = true := by rw [beq_iff_eq]; exact HE2.out
  rcases HOUT.out with ⟨hn, rfl⟩ | ⟨g, off, wc, rfl, hwl, hwm, hgl, hG, hcells⟩
  · have hc0 : H.count = 0 := by rw [← winL_len, hn]; rfl
    have HRV : Hid (rr = tailR b.seq 0) := by
      show _ = _
      rw [← HRR.out, hc0]
      unfold nextW
      rw [hc0]
      rfl
    unfold tailR at HRV
    clear hn hc0
    by_cases h0 : b.seq = 0
    · have h01 : (b.seq == 0) = true := by simp [h0]
      rw [if_pos h0] at HRV
      rw [h0] at c4
      clear h0
      go_wp2
      refine wp_loop_once ?_
      go_wp2
      go_ret3
      rw [HRV.out]
      exact ⟨rfl, HK1.out.alloc _⟩
    · have h01 : (b.seq == 0) = false := by rw [beq_eq_false_iff_ne]; exact h0
      rw [if_neg h0] at HRV
      clear h0
      go_wp2
      refine wp_loop_once ?_
      go_wp2
      go_ret3
      rw [HRV.out]
      exact ⟨rfl, HK1.out.alloc _⟩
  · have hwl2 : (winL H).length = H.count := winL_len H
    unfold maxLen at hwm
    have HCL := Lib.hid hcells
    have HCN := Lib.hid hwl2
    have hcn : (winL H).length ≤ 9223372036854775807 := by omega
    clear hcells hwl2 hG
    go_wp2
    go_loopw [10] (fun i wr => ∃ j : Nat, j ≤ H.count ∧ i = .int .i64 ((j : Int) - 1) ∧ K0 (w2.alloc (.cells #[.int .i64 idv, .int .i64 H.epoch, .slice (some ⟨g, off, none⟩) (winL H).length wc] 71)) wr ∧ findW H b.seq b.span j = findW H b.seq b.span H.count) (fun i _ => (intOf i + 1).toNat)
    case atStart => exact ⟨H.count, Nat.le_refl _, by rw [← HCN.out], Keeps.refl _ _, rfl⟩
    case round =>
      obtain ⟨j, hj, rfl, hkw, hf⟩ := hrel
      have HFF := Lib.hid hf
      have k2w : K0 w2 wr := K0.tr ((Keeps.refl _ _).alloc _) hkw
      have KW := Lib.hid (K0.tr HK1.out k2w)
      have HKW := Lib.hid hkw
      have bx := (k2w.block _ (block_lt HB1.out) (fun e => e)).trans HB1.out
      have d1 : wr.cell? ⟨w.heap.size, 1, none⟩ = some (.int .i64 b.span) := block_cell bx 1
      have d4 : wr.cell? ⟨w.heap.size, 4, none⟩ = some (.int .i64 b.seq) := block_cell bx 4
      have dl := block_lt bx
      have ox := (hkw.block w2.heap.size (by simp) (fun e => e)).trans (heap_new _ _ _ rfl)
      have o2 : wr.cell? ⟨w2.heap.size, 2, none⟩ = some (.slice (some ⟨g, off, none⟩) (winL H).length wc) := block_cell ox 2
      have ol := block_lt ox
      have hc2 : ∀ q u, ((winL H).flatMap encS)[q]? = some u → wr.cell? ⟨g, off + q, none⟩ = some u := fun q u e => k2w.cell' (HCL.out q u e) (fun e => e)
      have HC2 := Lib.hid hc2
      have gl : g < wr.heap.size := Nat.lt_of_lt_of_le hgl k2w.size
      clear hf hkw k2w bx ox hc2
      by_cases hj0 : j = 0
      · subst hj0
        have hfn : findW H b.seq b.span H.count = none := HFF.out.symm
        rw [hfn] at HRR
        have HRR : Hid (tailR b.seq (nextW H) = rr) := HRR
        clear hfn
        by_cases hcnt : H.count = 0
        · have hl0 : (winL H).length = 0 := by rw [winL_len]; exact hcnt
          have hnx : nextW H = 0 := by unfold nextW; rw [if_pos hcnt]
          rw [hnx] at HRR
          rw [hl0] at o2
          unfold tailR at HRR
          clear hcnt hl0 hnx
          by_cases h0 : b.seq = 0
          · have h01 : (b.seq == 0) = true := by simp [h0]
            rw [if_pos h0] at HRR
            rw [h0] at d4
            clear h0
            go_wp2
            go_ret3
            rw [← HRR.out]
            exact ⟨rfl, KW.out⟩
          · have h01 : (b.seq == 0) = false := by rw [beq_eq_false_iff_ne]; exact h0
            rw [if_neg h0] at HRR
            clear h0
            go_wp2
            go_ret3
            rw [← HRR.out]
            exact ⟨rfl, KW.out⟩
        · obtain ⟨m, hm⟩ : ∃ m, (winL H).length = m + 1 := ⟨(winL H).length - 1, by rw [winL_len]; omega⟩
          have hml : m < (winL H).length := by omega
          have hnx : nextW H = wrap64 ((winL H)[m].seq + (winL H)[m].span) := by
            unfold nextW
            rw [if_neg hcnt, winL_get, show H.count - 1 = m by rw [winL_len] at hm; omega]
          obtain ⟨z0, z1, z2⟩ := winCell HC2.out m hml
          rw [hnx] at HRR
          generalize (winL H)[m].seq = q0 at z0 HRR
          generalize (winL H)[m].base = q1 at z1
          generalize (winL H)[m].span = q2 at z2 HRR
          rw [hm] at o2 hwl hcn
          have n0 : (0 : Int) < ((m + 1 : Nat) : Int) := by omega
          have n1 : IntKind.i64.wrap (((m + 1 : Nat) : Int) - 1) = m := by rw [show ((m + 1 : Nat) : Int) - 1 = (m : Int) by omega]; exact IntWalk.i64_in _ (by omega)
          have n2 : (0 : Int) ≤ m := by omega
          have n3 : (m : Int) < ((m + 1 : Nat) : Int) := by omega
          unfold tailR at HRR
          clear hcnt hm hml hnx
          by_cases h0 : b.seq = wrap64 (q0 + q2)
          · have h01 : (b.seq == wrap64 (q0 + q2)) = true := by simp [h0]
            rw [if_pos h0] at HRR
            clear h0
            go_wp2
            go_ret3
            rw [← HRR.out]
            exact ⟨rfl, KW.out.alloc _⟩
          · have h01 : (b.seq == wrap64 (q0 + q2)) = false := by rw [beq_eq_false_iff_ne]; exact h0
            rw [if_neg h0] at HRR
            clear h0
            go_wp2
            go_ret3
            rw [← HRR.out]
            exact ⟨rfl, KW.out.alloc _⟩
      · obtain ⟨i2, rfl⟩ : ∃ i2, j = i2 + 1 := ⟨j - 1, by omega⟩
        rw [show ((i2 + 1 : Nat) : Int) - 1 = (i2 : Int) by omega]
        have hil : i2 < (winL H).length := by rw [winL_len]; omega
        obtain ⟨z0, z1, z2⟩ := winCell HC2.out i2 hil
        have hnt : (winL H)[i2] = nth H i2 := winL_get H i2 hil
        rw [hnt] at z0 z1 z2
        have HX : Hid (findW H b.seq b.span (i2 + 1) = if (nth H i2).seq = b.seq ∧ (nth H i2).span = b.span then some (nth H i2) else findW H b.seq b.span i2) := rfl
        have n0 : (0 : Int) ≤ i2 := by omega
        have n1 : (i2 : Int) < (winL H).length := by omega
        clear hj0 hnt
        by_cases hq : (nth H i2).seq = b.seq
        · have q0 : ((nth H i2).seq == b.seq) = true := by simp [hq]
          by_cases hs : (nth H i2).span = b.span
          · have q1 : ((nth H i2).span == b.span) = true := by simp [hs]
            have hrv : ((nth H i2).base, true, (0 : Int)) = rr := by
              rw [← HRR.out, ← HFF.out, HX.out, if_pos ⟨hq, hs⟩]
            have HRV := Lib.hid hrv
            clear hq hs hrv HX
            generalize (nth H i2).seq = s0 at z0 q0
            generalize (nth H i2).span = s2 at z2 q1
            go_wp2
            go_quiet (fail)
            go_wp2
            go_ret3
            rw [← HRV.out]
            exact ⟨rfl, KW.out.drewN _⟩
          · have q1 : ((nth H i2).span == b.span) = false := by rw [beq_eq_false_iff_ne]; exact hs
            have HNX : Hid (findW H b.seq b.span i2 = findW H b.seq b.span H.count) := by show _ = _; rw [← HFF.out, HX.out, if_neg (fun e => hs e.2)]
            clear hq hs HX
            generalize (nth H i2).seq = s0 at z0 q0
            generalize (nth H i2).span = s2 at z2 q1
            go_wp2
            go_quiet (fail)
            go_wp2
            go_roundw
            case rel => exact ⟨i2, by omega, by go_num, HKW.out.drewN _, HNX.out⟩
            case measure => first | (simp [intOf]; done) | (simp [intOf]; omega)
        · have q0 : ((nth H i2).seq == b.seq) = false := by rw [beq_eq_false_iff_ne]; exact hq
          have HNX : Hid (findW H b.seq b.span i2 = findW H b.seq b.span H.count) := by show _ = _; rw [← HFF.out, HX.out, if_neg (fun e => hq e.1)]
          clear hq HX
          generalize (nth H i2).seq = s0 at z0 q0
          generalize (nth H i2).span = s2 at z2
          go_wp2
          go_quiet (fail)
          go_wp2
          go_roundw
          case rel => exact ⟨i2, by omega, by go_num, HKW.out.drewN _, HNX.out⟩
          case measure => first | (simp [intOf]; done) | (simp [intOf]; omega)
theorem rcheck_any (b : BatchC) (h : RPst w F bb R) (hd : KD R) (_wf : WfM R) : Calls Try.prog 11 #[.pointer (some ⟨bb, 0, none⟩), .agg #[.int .i64 b.base, .int .i64 b.span, .int .i64 b.prod, .int .i64 b.epoch, .int .i64 b.seq, .slice b.ra b.rn b.rc]] w fun e w' => Same w e (resV (checkR R b)) w' := by
  unfold checkR
  by_cases hp : b.prod = -1
  · rw [if_pos hp]; exact rcheck_none b hp
  · rw [if_neg hp]
    cases hb : mayB (bareB b) with
    | false => rw [if_neg (by simp)]; exact rcheck_bad b hp hb
    | true =>
      rw [if_pos rfl]
      have hep := mayB_epoch hb
      have hep : 0 ≤ b.epoch ∧ b.epoch ≤ 32768 := hep
      cases ha : aget R b.prod with
      | none =>
        have ho : oldH R b.prod = noneH := by unfold oldH; rw [ha]; rfl
        rw [ho]
        unfold checkH
        rw [if_neg (by show ¬ b.epoch < -1; omega), if_neg (by show ¬ b.epoch = -1; omega)]
        exact rcheck_new b hp hb h ha
      | some H =>
        have ho : oldH R b.prod = H := by unfold oldH; rw [ha]; rfl
        rw [ho]
        unfold checkH
        by_cases h1 : b.epoch < H.epoch
        · rw [if_pos h1]; exact rcheck_fenced b H hp hb h hd ha h1
        · rw [if_neg h1]
          by_cases h2 : b.epoch = H.epoch
          · rw [if_pos h2]; exact rcheck_same b H hp hb h hd ha h1 h2 _ rfl
          · rw [if_neg h2]; exact rcheck_later b H hp hb h hd ha h1 h2
end
end Go.Proofs.Ytbjpifipjcfhkaa
