/-
  Print: the program's.
-/
import Derived.Test.YtegbiekfpcfnnaaUe
namespace Go.Proofs.Ytegbiekfpcfnnaa
open Go.RowKit Fx

/-- A box with a topic's id and partitions, made in world wr. -/
def BoxT (wr wx : World) (i p : Int) : Prop := wx.heap[wr.heap.size]? = some (.cells #[.int .i64 i, .int .i64 p] 58 (0, 0)) ∧ K0 wr wx
theorem BoxT.new (wr : World) (i p : Int) : BoxT wr (wr.alloc (.cells #[.int .i64 i, .int .i64 p] 58)) i p := ⟨heap_new _ _ _ rfl, (Keeps.refl _ _).alloc _⟩
theorem BoxT.drew {wr wx : World} {i p : Int} (h : BoxT wr wx i p) : BoxT wr wx.drew i p := ⟨h.1, h.2.drew⟩
theorem BoxT.keep {wr wx wy : World} {i p : Int} (h : BoxT wr wx i p) (hk : K0 wx wy) : BoxT wr wy i p := ⟨(hk.block _ (block_lt h.1) (fun e => e)).trans h.1, K0.tr h.2 hk⟩
theorem BoxT.all {wr wx : World} {i p : Int} (h : BoxT wr wx i p) : wx.cell? ⟨wr.heap.size, 0, none⟩ = some (.int .i64 i) ∧ wx.cell? ⟨wr.heap.size, 1, none⟩ = some (.int .i64 p) ∧ wr.heap.size < wx.heap.size ∧ BoxT wr wx i p := ⟨block_cell h.1 0, block_cell h.1 1, block_lt h.1, h⟩
set_option maxRecDepth 100000 in
set_option maxHeartbeats 8000000 in
theorem tprint_any {w : World} {b m : Nat} {t R : Tbl} (h : TblAt w b m t) (hs : SimT t R) (wf : WfT t) :
    Calls Try.prog 19 #[.pointer (some ⟨b, 0, none⟩)] w fun e w' => e = .returned (.string (printT R)) ∧ K0 w w' := by
  have HH := Lib.hid h
  have HS := Lib.hid hs
  have HWT := Lib.hid wf
  have HW := Lib.hid (hs.wf wf)
  have hl := HW.out.len
  have hnx := HW.out.next
  have hll := hs.len wf.keys
  have HCS : Hid (∀ wx, K0 w wx → wx.cell? ⟨b, 0, none⟩ = some (.int .i64 R.next) ∧ wx.cell? ⟨b, 1, none⟩ = some (.map (some m)) ∧ b < wx.heap.size ∧ (Builtin.len_ #[54] 3 #[.map (some m)]).run Try.prog wx = .ok (.int .i64 R.all.length) wx ∧ K0 w wx) := by
    show ∀ _, _ → _
    intro wx hk
    have h1 := h.keep hk (fun e => e) (fun e => e)
    have h2 := h1.map.len Try.underlying54 3
    refine ⟨by rw [hs.next]; exact h1.cell0, h1.cell1, h1.lt, ?_, hk⟩
    rw [hll]
    simpa [Tbl.vals] using h2
  have HPUT : Hid (∀ x wx, (x = R.next ∨ x = R.all.length) → Calls Try.prog 27 #[.int .i64 x] wx fun e w' => e = .returned (.string (putB x)) ∧ K0 wx w') := by
    show ∀ _ _, _ → _
    intro x wx hx
    exact vput_any x wx (by rcases hx with rfl | rfl <;> omega) (by rcases hx with rfl | rfl <;> omega)
  have hcc : ¬ 9223372036854775807 < (putB R.next).size + (putB (R.all.length : Int)).size := by
    have h1 := printA_size HW.out
    unfold printA at h1
    rw [ByteArray.size_append] at h1
    omega
  obtain ⟨d0, d1, d2, d3, d4⟩ := HCS.out w.drew (Keeps.refl _ _).drew
  obtain ⟨c0, c1, c2, c3, c4⟩ := HCS.out w (Keeps.refl _ _)
  clear h wf hs hll
  go_enter Try.func19, Try.ntmps19
  go_upto_region 2 with fail
  go_cut [3, 0] (fun sv pv wc => sv = .string (printA R) ∧ pv = .pointer (some ⟨b, 0, none⟩) ∧ K0 w wc)
  case first =>
    go_wp2_with fail
    go_region_held3 (fun w' : World => w'.cell? ⟨b, 0, none⟩ = some (.int .i64 R.next) ∧ w'.cell? ⟨b, 1, none⟩ = some (.map (some m)) ∧ b < w'.heap.size ∧ (Builtin.len_ #[54] 3 #[.map (some m)]).run Try.prog w' = .ok (.int .i64 R.all.length) w' ∧ K0 w w')
      (first | go_keep | (refine ⟨?_, ?_, ?_, ?_, ?_⟩ <;> assumption))
      ((go_at_call 27; go_split_ands; refine (HPUT.out _ _ (by first | exact .inl rfl | exact .inr rfl)).mono ?_; rintro e w' ⟨rfl, hk⟩; obtain ⟨d0, d1, d2, d3, d4⟩ := HCS.out w' (K0.tr (by assumption) hk)))
    all_goals
      go_split_ands
      go_wp2
      go_meet
      case rel => exact ⟨rfl, rfl, by assumption⟩
  case rest =>
    obtain ⟨rfl, rfl, hkc⟩ := hcut
    have NM := Lib.hid (names_at (HH.out.keep hkc (fun e => e) (fun e => e)) (fun p hp => Nat.le_trans (HWT.out.okP p hp).1 (by decide)) (Nat.le_trans HWT.out.len (by decide)))
    have HKC := Lib.hid hkc
    clear hkc hcc d0 d1 d2 d3 d4 c0 c1 c2 c3 c4
    go_wp2_with fail
    refine NM.out.mono ?_
    rintro e w1 ⟨a0, c0, ss, rfl, hN, k1⟩
    have hss : ss = keysF R.all := HS.out.names HWT.out (by have := hN.perm; simpa [Tbl.vals, Function.comp_def] using this) hN.ord
    subst hss
    have HROW := Lib.hid hN.row
    have HK1 : Hid (K0 w w1) := K0.tr HKC.out k1
    have hkl : (keysF R.all).length = R.all.length := by simp [keysF]
    rw [hkl]
    have HKL := Lib.hid hkl
    clear hN k1 hkl
    go_wp2
    go_loopw [25, 3] (fun i sv wr => ∃ k : Nat, i = .int .i64 k ∧ k ≤ R.all.length ∧ sv = .string (printL (printA R) (R.all.take k)) ∧ K0 w1 wr) (fun i _ _ => R.all.length - (intOf i).toNat)
    case atStart => exact ⟨0, rfl, by omega, rfl, Keeps.refl _ _⟩
    case round =>
      obtain ⟨k, rfl, hk, rfl, hkr⟩ := hrel
      have HKR := Lib.hid hkr
      obtain ⟨c0, c1, c2, c3, c4⟩ := HCS.out wr (K0.tr HK1.out hkr)
      by_cases hlt : k < R.all.length
      · have hrow := HROW.out
        obtain ⟨g, rfl⟩ : ∃ g, a0 = some ⟨g, 0, none⟩ := by
          rcases hrow.2 with ⟨_, h2⟩ | ⟨r, cp, cur, h1, _⟩
          · rw [HKL.out] at h2; omega
          · simp only [Value.slice.injEq] at h1
            exact ⟨r, h1.1⟩
        have hc1 : w1.cell? ⟨g, k, none⟩ = some (.string R.all[k].1) := by
          rw [hrow.cellAt k (by rw [HKL.out]; omega), List.getElem?_map, List.getElem?_eq_getElem (by rw [HKL.out]; exact hlt)]
          simp [keysF]
        have hc := hkr.cell' hc1 (fun e => e)
        have hltg := World.block_lt_of_cell? wr _ hc
        have hm := Lib.hid (HH.out.keep (K0.tr HK1.out hkr) (fun e => e) (fun e => e)).map
        have hg : aget t.all R.all[k].1 = some R.all[k].2 := by rw [← HS.out.get]; exact aget_of_mem HS.out.ord.kd (List.getElem_mem hlt)
        have HV : Hid (aget (Tbl.vals t.all) R.all[k].1 = some (.agg #[.int .i64 R.all[k].2.1, .int .i64 R.all[k].2.2])) := by show _ = _; rw [aget_vals, hg]; rfl
        have HOK := Lib.hid (HW.out.okP R.all[k] (List.getElem_mem hlt))
        have HNX := Lib.hid (printL_next (printA R) hlt)
        have hps := print_small HW.out k
        have HLT := Lib.hid hlt
        clear hg hc1 hrow
        generalize R.all[k] = p at HOK HNX HV hc
        obtain ⟨nm, id, pt⟩ := p
        have HV : Hid (aget (Tbl.vals t.all) nm = some (.agg #[.int .i64 id, .int .i64 pt])) := HV.out
        have hc : wr.cell? ⟨g, k, none⟩ = some (.string nm) := hc
        obtain ⟨o1, o2, o3, o4, o5⟩ : nm.size ≤ 100 ∧ 0 ≤ id ∧ id ≤ 1073741824 ∧ 0 ≤ pt ∧ pt ≤ 16 := HOK.out
        obtain ⟨T, hT⟩ : ∃ T, T = putB nm.size ++ nm := ⟨_, rfl⟩
        obtain ⟨P1, hP1⟩ : ∃ P1, P1 = putB id := ⟨_, rfl⟩
        obtain ⟨P2, hP2⟩ : ∃ P2, P2 = putB pt := ⟨_, rfl⟩
        have hTs : T.size ≤ 110 := by
          rw [hT, ByteArray.size_append]
          have := putB_size (n := (nm.size : Int)) ⟨by omega, by omega⟩
          omega
        have hP1s : P1.size ≤ 10 := by rw [hP1]; exact putB_size ⟨by omega, by omega⟩
        have hP2s : P2.size ≤ 10 := by rw [hP2]; exact putB_size ⟨by omega, by omega⟩
        have HTX : Hid (∀ wx, Calls Try.prog 28 #[.string nm] wx fun e w' => e = .returned (.string T) ∧ K0 wx w') := by
          show ∀ _, _
          intro wx
          rw [hT]
          exact text_any nm wx (by omega)
        have HPP : Hid (∀ x y wx, (x = id ∧ y = P1) ∨ (x = pt ∧ y = P2) → Calls Try.prog 27 #[.int .i64 x] wx fun e w' => e = .returned (.string y) ∧ K0 wx w') := by
          show ∀ _ _ _, _ → _
          intro x y wx hxy
          rcases hxy with ⟨rfl, rfl⟩ | ⟨rfl, rfl⟩
          · rw [hP1]; exact vput_any _ wx (by omega) (by omega)
          · rw [hP2]; exact vput_any _ wx (by omega) (by omega)
        have HEND : Hid (∀ Pr : ByteArray, Pr ++ (T ++ P1 ++ P2) = Pr ++ oneB (nm, (id, pt))) := by
          show ∀ _, _
          intro Pr
          unfold oneB
          rw [hT, hP1, hP2]
        generalize hPr : printL (printA R) (R.all.take k) = Pr at hps HNX ⊢
        have a1 : ¬ 9223372036854775807 < T.size + P1.size := by omega
        have a2 : ¬ 9223372036854775807 < T.size + P1.size + P2.size := by omega
        have a3 : ¬ 9223372036854775807 < Pr.size + (T.size + P1.size + P2.size) := by omega
        have b2 : ¬ 9223372036854775807 < (T ++ P1).size + P2.size := by rw [ByteArray.size_append]; exact a2
        have b3 : ¬ 9223372036854775807 < Pr.size + (T ++ P1 ++ P2).size := by rw [ByteArray.size_append, ByteArray.size_append]; exact a3
        have i0 : (0 : Int) ≤ k := by omega
        have i1 : (k : Int) < R.all.length := by omega
        obtain ⟨x0, x1, x2, x3⟩ := (BoxT.new wr id pt).drew.all
        obtain ⟨y0, y1, y2, y3⟩ := (BoxT.new wr id pt).all
        clear hT hP1 hP2 hPr hkr
        go_wp2_with (at_lookup; refine wpList_look (strKey Try.underlying9) rfl rfl Try.underlying54 zero58 rfl _ rfl hm.out _ HV.out ?_)
        go_region_held3 (fun w' : World => w'.cell? ⟨wr.heap.size, 0, none⟩ = some (.int .i64 id) ∧ w'.cell? ⟨wr.heap.size, 1, none⟩ = some (.int .i64 pt) ∧ wr.heap.size < w'.heap.size ∧ BoxT wr w' id pt)
          (first | go_keep | (refine ⟨?_, ?_, ?_, ?_⟩ <;> assumption))
          (first | (go_at_call 28; go_split_ands; refine (HTX.out _).mono ?_; rintro e w' ⟨rfl, hk⟩; obtain ⟨d0, d1, d2, d3⟩ := BoxT.all (BoxT.keep (by assumption) hk)) | (go_at_call 27; go_split_ands; refine (HPP.out _ _ _ (by first | exact .inl ⟨rfl, rfl⟩ | exact .inr ⟨rfl, rfl⟩)).mono ?_; rintro e w' ⟨rfl, hk⟩; obtain ⟨d0, d1, d2, d3⟩ := BoxT.all (BoxT.keep (by assumption) hk)))
        all_goals
          go_split_ands
          go_wp2
          go_roundw
          case rel => exact ⟨k + 1, by go_num, HLT.out, by rw [HNX.out, ← HEND.out], K0.tr HKR.out (And.right (by assumption))⟩
          case measure => have := HLT.out; simp [intOf]; omega
      · obtain rfl : k = R.all.length := by omega
        rw [List.take_length]
        go_wp2
        go_ret
        exact ⟨rfl, K0.tr HK1.out HKR.out⟩
end Go.Proofs.Ytegbiekfpcfnnaa
