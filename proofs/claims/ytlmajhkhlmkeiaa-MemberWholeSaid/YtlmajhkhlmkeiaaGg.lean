/-
  slices.DeleteFunc over the members' row: what it leaves.
-/
import Derived.Test.YtlmajhkhlmkeiaaGf
namespace Go.Proofs.Ytlmajhkhlmkeiaa
open Go.RowKit Go.Shelf Fx

/-- In the middle: j members have been looked at, i kept; they stand at the front. -/
structure DelMid (w wr : World) (v : Value) (L : List OneV) (p : OneV → Bool) (i j : Nat) (C : List OneV) : Prop where
  row : wr.ownsRow 0 43 5 v L.length (C.flatMap oneEnc)
  len : C.length = L.length
  kept : C.take i = (L.take j).filter fun x => !p x
  rest : ∀ k (h : k < L.length), j ≤ k → C[k]? = some L[k]
  lt : i < j
  le : j ≤ L.length
  keep : Keeps (fun k => v.ownBlock = some k) w wr
theorem filter_take {L : List OneV} {p : OneV → Bool} {j : Nat} (hj : j < L.length) : (L.take (j + 1)).filter (fun x => !p x) = (L.take j).filter (fun x => !p x) ++ if p L[j] then [] else [L[j]] := by
  rw [List.take_succ_eq_append_getElem hj, List.filter_append]
  congr 1
  cases h : p L[j] <;> simp [h]
theorem DelMid.start {w : World} {v : Value} {L : List OneV} {p : OneV → Bool} {i : Nat} (hrow : w.ownsRow 0 43 5 v L.length (L.flatMap oneEnc)) (hi : i < L.length) (h1 : ∀ j (h : j < L.length), j < i → p L[j] = false) (h2 : p L[i] = true) {w' : World} (hk : K0 w w') : DelMid w w' v L p i (i + 1) L := by
  refine ⟨own_keep hk hrow (fun _ _ e => e), rfl, ?_, fun k h _ => List.getElem?_eq_getElem h, by omega, by omega, hk.mono fun _ _ e => e.elim⟩
  rw [filter_take hi, h2]
  simp only [if_true, List.append_nil]
  symm
  rw [List.filter_eq_self]
  intro x hx
  obtain ⟨j, hj, rfl⟩ := List.mem_iff_getElem.1 hx
  have hj' : j < i ∧ j < L.length := by simp at hj; omega
  rw [List.getElem_take, h1 j hj'.2 hj'.1]
  rfl
/-- One more is let go. -/
theorem DelMid.drop {w wr wx : World} {v : Value} {L C : List OneV} {p : OneV → Bool} {i j : Nat} (h : DelMid w wr v L p i j C) (hj : j < L.length) (hp : p L[j] = true) (hk : K0 wr wx) : DelMid w wx v L p i (j + 1) C :=
  ⟨own_keep hk h.row (fun _ _ e => e), h.len, by rw [filter_take hj, hp]; simpa using h.kept, fun k hk' e => h.rest k hk' (by omega), by have := h.lt; omega, by omega, h.keep.trans hk fun _ _ e => e.elim⟩
/-- One more is kept. -/
theorem DelMid.hold {w wr wx : World} {r cap : Nat} {L C : List OneV} {p : OneV → Bool} {i j : Nat} (h : DelMid w wr (.slice (some ⟨r, 0, none⟩) L.length cap) L p i j C) (hj : j < L.length) (hp : p L[j] = false) (hk : K0 wr wx) :
    DelMid w (((((wx.setCell ⟨r, i * 5, none⟩ (.int .i64 L[j].member)).setCell ⟨r, i * 5 + 1, none⟩ L[j].tv).setCell ⟨r, i * 5 + 2, none⟩ (.int .i64 L[j].til)).setCell ⟨r, i * 5 + 3, none⟩ (.bool L[j].joined)).setCell ⟨r, i * 5 + 4, none⟩ L[j].pv)
      (.slice (some ⟨r, 0, none⟩) L.length cap) L p (i + 1) (j + 1) (C.set i L[j]) := by
  have hlt := h.lt
  have hi : i < C.length := by rw [h.len]; omega
  have h0 := own_keep hk h.row (fun _ _ e => e)
  have h1 := (((((h0.stored (i * 5) (.int .i64 L[j].member)).1.stored (i * 5 + 1) L[j].tv).1.stored (i * 5 + 2) (.int .i64 L[j].til)).1.stored (i * 5 + 3) (.bool L[j].joined)).1.stored (i * 5 + 4) L[j].pv).1
  rw [put_cells hi] at h1
  refine ⟨h1, by rw [List.length_set]; exact h.len, ?_, fun k hk' e => ?_, by omega, by omega, ?_⟩
  · rw [filter_take hj, hp, List.take_succ_eq_append_getElem (by rw [List.length_set]; exact hi), List.getElem_set_self, List.take_set, List.set_eq_of_length_le (by rw [List.length_take]; omega), h.kept]
    rfl
  · rw [List.getElem?_set_ne (by omega)]
    exact h.rest k hk' (by omega)
  · exact (((((h.keep.trans hk fun _ _ e => e.elim).setC _ _ (fun _ => rfl)).setC _ _ (fun _ => rfl)).setC _ _ (fun _ => rfl)).setC _ _ (fun _ => rfl)).setC _ _ (fun _ => rfl)
/-- What it leaves: the row of those that are kept, in the same block. -/
def DelPost (w : World) (v : Value) (L : List OneV) (p : OneV → Bool) (e : Ending) (w' : World) : Prop :=
  ∃ v', e = .returned v' ∧ w'.ownsRow 0 43 5 v' (L.filter fun x => !p x).length ((L.filter fun x => !p x).flatMap oneEnc) ∧ v'.ownBlock = v.ownBlock ∧ Keeps (fun k => v.ownBlock = some k) w w'
theorem DelMid.post {w wr : World} {r cap : Nat} {L C : List OneV} {p : OneV → Bool} {i : Nat} (h : DelMid w wr (.slice (some ⟨r, 0, none⟩) L.length cap) L p i L.length C) (Z : List Value) :
    DelPost w (.slice (some ⟨r, 0, none⟩) L.length cap) L p (.returned (.slice (some ⟨r, 0, none⟩) i cap)) (wr.setCells r (i * 5) Z) := by
  have hlt := h.lt
  have hk := h.kept
  rw [List.take_length] at hk
  have hl : (L.filter fun x => !p x).length = i := by rw [← hk, List.length_take, h.len]; omega
  refine ⟨_, rfl, ?_, rfl, keeps_tail (by rfl) Z _ _ _ h.keep⟩
  rw [hl, ← hk]
  have h1 := own_cut h.row (i := i) (by omega)
  have e : (C.flatMap oneEnc).take (i * 5) = (C.take i).flatMap oneEnc := by
    have e1 : C = C.take i ++ C.drop i := (List.take_append_drop i C).symm
    have e2 : ((C.take i).flatMap oneEnc).length = i * 5 := by rw [flat_len _ 5 oneEnc_len, List.length_take, h.len]; congr 1; omega
    rw [show C.flatMap oneEnc = (C.take i).flatMap oneEnc ++ (C.drop i).flatMap oneEnc by rw [← List.flatMap_append, List.take_append_drop]]
    rw [← e2, List.take_left]
  rw [e] at h1
  exact own_tail Z _ _ h1 (Nat.le_refl _)
set_option maxRecDepth 100000 in
set_option maxHeartbeats 4000000 in
theorem deleteFunc (w : World) (v : Value) (L : List OneV) (c : Nat) (caps : Array Value) (p : OneV → Bool) (hrow : w.ownsRow 0 43 5 v L.length (L.flatMap oneEnc)) (hv : RowV w v L) (h1c : ∀ x ∈ L, (∃ a n c, x.tv = .slice a n c) ∧ ∃ a n c, x.pv = .slice a n c) (hl : L.length ≤ 1000)
    (eg : ∀ args w, (callFunc c args).run Try.prog w = .ok (.enter c args) w) (hp : ∀ w1, Keeps (fun k => v.ownBlock = some k) w w1 → Tests c caps p w1) :
    Calls Try.prog 53 #[v, .func (.func c) #[] caps] w fun e w' => DelPost w v L p e w' := by
  have HI := Lib.hid (indexFunc w v L c caps p hv eg (fun w1 hk => hp w1 (hk.mono fun _ _ e => e.elim)))
  have HP := Lib.hid hp
  have HROW := Lib.hid hrow
  have HC := Lib.hid h1c
  have hform : (L = [] ∧ v = .slice none 0 0) ∨ ∃ r cap, v = .slice (some ⟨r, 0, none⟩) L.length cap ∧ r < w.heap.size ∧ L.length ≤ cap ∧ cap ≤ maxLen := by
    rcases hrow.2 with ⟨h1, h2⟩ | ⟨r, cap, cur, h1, _, hg, hcp, hm, _⟩
    · exact .inl ⟨List.eq_nil_of_length_eq_zero h2, h1⟩
    · exact .inr ⟨r, cap, h1, block_lt hg, hcp, hm⟩
  clear hrow hv hp h1c
  by_cases hex : ∃ k, ∃ h : k < L.length, (∀ j (h : j < L.length), j < k → p L[j] = false) ∧ p L[k] = true
  · obtain ⟨k0, hk0, ha, hb⟩ := hex
    rcases hform with ⟨rfl, _⟩ | ⟨r, cap, rfl, hr, hcp, hmx⟩
    · exact absurd hk0 (Nat.not_lt_zero _)
    · rw [idx_here hk0 ha hb] at HI
      have HST := Lib.hid (fun (w' : World) (hk : K0 w w') => DelMid.start (p := p) HROW.out hk0 ha hb hk)
      have HN := Lib.hid hmx
      clear ha hb hmx
      have hne : ((k0 : Int) == -1) = false := beq_eq_false_iff_ne.2 (by omega)
      go_enter Try.func53, Try.ntmps53
      go_wp2_with fail
      refine HI.out.mono ?_
      rintro e w1 ⟨rfl, hk1⟩
      have hst := HST.out _ hk1
      clear hk1
      go_wp2
      generalize hq0 : (k0 : Int) + 1 = q0
      have HQ0 := Lib.hid hq0
      clear hq0
      go_loopw [5, 6] (fun ii jj wr => ∃ (i j : Nat) (C : List OneV), ii = .int .i64 i ∧ jj = .int .i64 j ∧ DelMid w wr (.slice (some ⟨r, 0, none⟩) L.length cap) L p i j C) (fun _ jj _ => L.length - (intOf jj).toNat)
      case atStart => exact ⟨k0, k0 + 1, L, rfl, by rw [← HQ0.out]; go_num, hst⟩
      case round =>
        clear hst
        obtain ⟨i, j, C, rfl, rfl, hmid⟩ := hrel
        have HM := Lib.hid hmid
        have hij := hmid.lt
        have hjl := hmid.le
        have hrr := own_lt hmid.row rfl
        by_cases hlt : j < L.length
        · have hcj : ∀ q, q < 5 → wr.cell? ⟨r, j * 5 + q, none⟩ = (oneEnc L[j])[q]? := fun q hq => by
            have h5 : j < C.length := by rw [hmid.len]; exact hlt
            rw [hmid.row.cellAt (j * 5 + q) (by omega), flatMap_get oneEnc 5 oneEnc_len C j q h5 hq]
            have h6 := hmid.rest j hlt (Nat.le_refl _)
            rw [List.getElem?_eq_getElem h5] at h6
            rw [Option.some.inj h6]
          have c0 : wr.cell? ⟨r, j * 5, none⟩ = some (.int .i64 L[j].member) := hcj 0 (by omega)
          have c1 : wr.cell? ⟨r, j * 5 + 1, none⟩ = some L[j].tv := hcj 1 (by omega)
          have c2 : wr.cell? ⟨r, j * 5 + 2, none⟩ = some (.int .i64 L[j].til) := hcj 2 (by omega)
          have c3 : wr.cell? ⟨r, j * 5 + 3, none⟩ = some (.bool L[j].joined) := hcj 3 (by omega)
          have c4 : wr.cell? ⟨r, j * 5 + 4, none⟩ = some L[j].pv := hcj 4 (by omega)
          have hdi : ∀ q, q < 5 → ∃ u, wr.cell? ⟨r, i * 5 + q, none⟩ = some u := fun q hq => by
            rw [hmid.row.cellAt (i * 5 + q) (by omega)]
            exact ⟨_, List.getElem?_eq_getElem (by rw [hmid.row.1]; omega)⟩
          obtain ⟨u0, d0⟩ := hdi 0 (by omega)
          obtain ⟨u1, d1⟩ := hdi 1 (by omega)
          obtain ⟨u2, d2⟩ := hdi 2 (by omega)
          obtain ⟨u3, d3⟩ := hdi 3 (by omega)
          obtain ⟨u4, d4⟩ := hdi 4 (by omega)
          have d0 : wr.cell? ⟨r, i * 5, none⟩ = some u0 := d0
          have f0 := hmid.row.frozenAt (i * 5)
          have f1 := hmid.row.frozenAt (i * 5 + 1)
          have f2 := hmid.row.frozenAt (i * 5 + 2)
          have f3 := hmid.row.frozenAt (i * 5 + 3)
          have f4 := hmid.row.frozenAt (i * 5 + 4)
          have hone := HC.out _ (List.getElem_mem hlt)
          obtain ⟨⟨a1, n1, k1, o1⟩, a4, n4, k4, o4⟩ := hone
          have HT := Lib.hid (fun (wy : World) (hk : K0 wr wy) => HP.out wy (hmid.keep.trans hk fun _ _ e => e.elim) L[j])
          have HD := Lib.hid (fun (wy : World) (hk : K0 wr wy) (e : p L[j] = true) => hmid.drop hlt e hk)
          have HH := Lib.hid (fun (wy : World) (hk : K0 wr wy) (e : p L[j] = false) => hmid.hold hlt e hk)
          clear hmid hcj hdi
          have i0 : (0 : Int) ≤ j := by omega
          have i1 : (j : Int) < L.length := by omega
          have i2 : (0 : Int) ≤ i := by omega
          have i3 : (i : Int) < L.length := by omega
          cases hpj : p L[j] with
          | true =>
            have HQ := Lib.hid hpj
            rw [hpj] at HT
            clear hpj HH d0 d1 d2 d3 d4 f0 f1 f2 f3 f4
            generalize L[j].member = x0 at c0 HT
            generalize L[j].tv = x1 at c1 HT o1
            generalize L[j].til = x2 at c2 HT
            generalize L[j].joined = x3 at c3 HT
            generalize L[j].pv = x4 at c4 HT o4
            subst o1 o4
            go_wp2_with fail
            refine (HT.out _ ?hw).mono ?_
            case hw => exact (Keeps.refl _ _).alloc _
            rintro e w2 ⟨rfl, hk2⟩
            have HK2 := Lib.hid (((Keeps.refl (fun _ => False) wr).alloc (.cells #[.int .i64 x0, .slice a1 n1 k1, .int .i64 x2, .bool x3, .slice a4 n4 k4] 43)).trans hk2 fun _ _ e => e)
            clear hk2
            go_wp2
            go_roundw
            case rel => exact ⟨i, j + 1, C, rfl, by go_num, HD.out _ HK2.out HQ.out⟩
            case measure => simp [intOf]; omega
          | false =>
            have HQ := Lib.hid hpj
            rw [hpj] at HT
            clear hpj HD
            generalize hx0 : L[j].member = x0 at c0 HT HH
            generalize hx1 : L[j].tv = x1 at c1 HT o1 HH
            generalize hx2 : L[j].til = x2 at c2 HT HH
            generalize hx3 : L[j].joined = x3 at c3 HT HH
            generalize hx4 : L[j].pv = x4 at c4 HT o4 HH
            clear hx0 hx1 hx2 hx3 hx4
            subst o1 o4
            go_wp2_with fail
            refine (HT.out _ ?hw).mono ?_
            case hw => exact (Keeps.refl _ _).alloc _
            rintro e w2 ⟨rfl, hk2⟩
            have hb : (wr.alloc (.cells #[.int .i64 x0, .slice a1 n1 k1, .int .i64 x2, .bool x3, .slice a4 n4 k4] 43)).heap[wr.heap.size]? = some (.cells #[.int .i64 x0, .slice a1 n1 k1, .int .i64 x2, .bool x3, .slice a4 n4 k4] 43) := heap_new _ _ _ rfl
            have y0 : w2.cell? ⟨wr.heap.size, 0, none⟩ = some (.int .i64 x0) := hk2.cell' (block_cell hb 0) (fun e => e)
            have y1 : w2.cell? ⟨wr.heap.size, 1, none⟩ = some (.slice a1 n1 k1) := hk2.cell' (block_cell hb 1) (fun e => e)
            have y2 : w2.cell? ⟨wr.heap.size, 2, none⟩ = some (.int .i64 x2) := hk2.cell' (block_cell hb 2) (fun e => e)
            have y3 : w2.cell? ⟨wr.heap.size, 3, none⟩ = some (.bool x3) := hk2.cell' (block_cell hb 3) (fun e => e)
            have y4 : w2.cell? ⟨wr.heap.size, 4, none⟩ = some (.slice a4 n4 k4) := hk2.cell' (block_cell hb 4) (fun e => e)
            have hk3 := ((Keeps.refl (fun _ => False) wr).alloc (.cells #[.int .i64 x0, .slice a1 n1 k1, .int .i64 x2, .bool x3, .slice a4 n4 k4] 43)).trans hk2 fun _ _ e => e
            have hsz2 : wr.heap.size < w2.heap.size := cell_block1 y0
            have d0 := hk3.cell' d0 (fun e => e)
            have d1 := hk3.cell' d1 (fun e => e)
            have d2 := hk3.cell' d2 (fun e => e)
            have d3 := hk3.cell' d3 (fun e => e)
            have d4 := hk3.cell' d4 (fun e => e)
            have f0 := (hk3.frozen (p := ⟨r, i * 5, none⟩) hrr (fun e => e)).trans f0
            have f1 := (hk3.frozen (p := ⟨r, i * 5 + 1, none⟩) hrr (fun e => e)).trans f1
            have f2 := (hk3.frozen (p := ⟨r, i * 5 + 2, none⟩) hrr (fun e => e)).trans f2
            have f3 := (hk3.frozen (p := ⟨r, i * 5 + 3, none⟩) hrr (fun e => e)).trans f3
            have f4 := (hk3.frozen (p := ⟨r, i * 5 + 4, none⟩) hrr (fun e => e)).trans f4
            have hrr2 := Nat.lt_of_lt_of_le hrr hk3.size
            have hne2 : r ≠ wr.heap.size := by omega
            have HK3 := Lib.hid hk3
            clear hb hk2 hk3 c0 c1 c2 c3 c4
            go_wp2
            go_roundw
            case rel => exact ⟨i + 1, j + 1, _, by go_num, by go_num, HH.out _ HK3.out HQ.out⟩
            case measure => simp [intOf]; omega
        · obtain rfl : j = L.length := by omega
          obtain ⟨Z, hz⟩ := clear_ones hmid.row hij (L.length - i) (cap - i) (by omega)
          have i2 : (0 : Int) ≤ i := by omega
          have i3 : (i : Int) ≤ L.length := by omega
          have i4 : (i : Int) ≤ cap := by omega
          have hzz := hz
          clear hmid
          have h9 : ¬ (L.length : Int) < L.length := by omega
          go_wp2
          go_ret
          exact HM.out.post Z
  · have hall : ∀ j (h : j < L.length), p L[j] = false := fun j => by
      induction j using Nat.strongRecOn with
      | ind j ih =>
        intro h
        cases e : p L[j] with
        | false => rfl
        | true => exact absurd ⟨j, h, fun k hk hkj => ih k hkj hk, e⟩ hex
    have hfl : (L.filter fun x => !p x) = L := by
      rw [List.filter_eq_self]
      intro x hx
      obtain ⟨j, hj, rfl⟩ := List.mem_iff_getElem.1 hx
      rw [hall j hj]
      rfl
    have HFL := Lib.hid hfl
    rw [idx_none hall] at HI
    clear hall hfl hex hform
    go_enter Try.func53, Try.ntmps53
    go_wp2_with fail
    refine HI.out.mono ?_
    rintro e w1 ⟨rfl, hk1⟩
    go_wp2
    go_ret
    refine ⟨v, rfl, ?_, rfl, hk1.mono fun _ _ e => e.elim⟩
    rw [HFL.out]
    exact own_keep hk1 HROW.out (fun _ _ e => e)
end Go.Proofs.Ytlmajhkhlmkeiaa
