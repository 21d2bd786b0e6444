/-
  Print: the document's.
-/
import Derived.Test.YtbjpifipjcfhkaaJe
import Derived.Deep.RegionHeld3
import Derived.Deep.DeepCutAuto
namespace Go.Proofs.Ytbjpifipjcfhkaa
open Go.RowKit Fx

def prI (R : List (Int × HeardC)) (k : Nat) : ByteArray := putB (R.length : Int) ++ onesL (R.take k)
theorem prI_next {R : List (Int × HeardC)} {k : Nat} (h : k < R.length) : prI R (k + 1) = prI R k ++ oneI R[k] := by
  unfold prI
  rw [List.take_succ_eq_append_getElem h, onesL_app, ByteArray.append_assoc]
theorem prI_zero (R : List (Int × HeardC)) : prI R 0 = putB (R.length : Int) := by
  unfold prI
  exact bnil _
theorem prI_all (R : List (Int × HeardC)) : prI R R.length = printI R := by unfold prI printI; rw [List.take_length]
theorem prI_size {R : List (Int × HeardC)} (wf : WfR R) (hk : KD R) (hl : R.length ≤ 10000) (k : Nat) : (prI R k).size ≤ 1800010 := by
  have h1 := putB_size (n := (R.length : Int)) ⟨by omega, by omega⟩
  have h2 := onesL_size (l := R.take k) (fun p hp => wf.mem hk p (List.mem_of_mem_take hp))
  have h3 : (R.take k).length ≤ 10000 := by rw [List.length_take]; omega
  unfold prI
  rw [ByteArray.size_append]
  omega
/-- The words of one producer, as far as j of its window. -/
def prW (Pr : ByteArray) (p : Int × HeardC) (j : Nat) : ByteArray := Pr ++ headI p ++ sentsL ((winL p.2).take j)
theorem prW_zero (Pr : ByteArray) (p : Int × HeardC) : prW Pr p 0 = Pr ++ headI p := by
  unfold prW
  exact bnil _
theorem prW_next (Pr : ByteArray) (p : Int × HeardC) {j : Nat} (h : j < (winL p.2).length) : prW Pr p (j + 1) = prW Pr p j ++ sBy (winL p.2)[j] := by
  unfold prW
  rw [List.take_succ_eq_append_getElem h, sentsL_app, ByteArray.append_assoc]
  simp only [ByteArray.append_assoc]
theorem prW_all (Pr : ByteArray) (p : Int × HeardC) : prW Pr p (winL p.2).length = Pr ++ oneI p := by
  unfold prW oneI
  rw [List.take_length, ByteArray.append_assoc]
theorem prW_size {Pr : ByteArray} {p : Int × HeardC} (h1 : Pr.size ≤ 1800010) (h0 : 0 ≤ p.1 ∧ p.1 ≤ 1073741824) (h : okH p.2) (j : Nat) : (prW Pr p j).size ≤ 1800200 := by
  have a := headI_size h0 h
  have b := sentsL_size (ws := (winL p.2).take j) (fun x hx => h.all x (List.mem_of_mem_take hx))
  have c : ((winL p.2).take j).length ≤ 5 := by rw [List.length_take, winL_len]; have := h.ok.c; omega
  unfold prW
  rw [ByteArray.size_append, ByteArray.size_append]
  omega
/-- A producer's box, made in world wr. -/
def BoxH (wr wx : World) (i e : Int) (v : Value) : Prop := wx.heap[wr.heap.size]? = some (.cells #[.int .i64 i, .int .i64 e, v] 71 (0, 0)) ∧ K0 wr wx
theorem BoxH.new (wr : World) (i e : Int) (v : Value) : BoxH wr (wr.alloc (.cells #[.int .i64 i, .int .i64 e, v] 71)) i e v := ⟨heap_new _ _ _ rfl, (Keeps.refl _ _).alloc _⟩
theorem BoxH.drew {wr wx : World} {i e : Int} {v : Value} (h : BoxH wr wx i e v) : BoxH wr wx.drew i e v := ⟨h.1, h.2.drew⟩
theorem BoxH.keep {wr wx wy : World} {i e : Int} {v : Value} (h : BoxH wr wx i e v) (hk : K0 wx wy) : BoxH wr wy i e v := ⟨(hk.block _ (block_lt h.1) (fun e => e)).trans h.1, K0.tr h.2 hk⟩
theorem BoxH.all {wr wx : World} {i e : Int} {v : Value} (h : BoxH wr wx i e v) : wx.cell? ⟨wr.heap.size, 0, none⟩ = some (.int .i64 i) ∧ wx.cell? ⟨wr.heap.size, 1, none⟩ = some (.int .i64 e) ∧ wx.cell? ⟨wr.heap.size, 2, none⟩ = some v ∧ wr.heap.size < wx.heap.size ∧ BoxH wr wx i e v := ⟨block_cell h.1 0, block_cell h.1 1, block_cell h.1 2, block_lt h.1, h⟩
set_option maxRecDepth 100000 in
set_option maxHeartbeats 16000000 in
theorem rprint_any {w : World} {F : Nat → Prop} {b : Nat} {R : List (Int × HeardC)} (h : RPst w F b R) (wf : WfR R) (ho : SortI R) (hl : R.length ≤ 10000) :
    Calls Try.prog 18 #[.pointer (some ⟨b, 0, none⟩)] w fun e w' => e = .returned (.string (printI R)) ∧ K0 w w' := by
  obtain ⟨v, L, h, hc⟩ := h
  have HH := Lib.hid h
  have HC := Lib.hid hc
  have HL := Lib.hid (core_len hc)
  have HW := Lib.hid wf
  have HO := Lib.hid ho
  have hll : L.length ≤ 10000 := by rw [HL.out]; exact hl
  obtain ⟨va, vc, rfl⟩ := own_slice h.row
  have HCS : Hid (∀ wx, K0 w wx → wx.cell? ⟨b, 0, none⟩ = some (.slice va L.length vc) ∧ b < wx.heap.size ∧ K0 w wx) := by
    show ∀ _, _ → _
    intro wx hk
    have h1 := h.keep hk (fun _ _ e => e)
    exact ⟨block_cell h1.blk 0, block_lt h1.blk, hk⟩
  have HPUT : Hid (∀ x wx, -9223372036854775808 ≤ x ∧ x ≤ 9223372036854775807 → Calls Try.prog 35 #[.int .i64 x] wx fun e w' => e = .returned (.string (putB x)) ∧ K0 wx w') := by
    show ∀ _ _, _ → _
    intro x wx hx
    exact rvput_any x wx hx
  obtain ⟨c0, c1, c2⟩ := HCS.out w (Keeps.refl _ _)
  clear h wf ho hc
  go_enter Try.func18, Try.ntmps18
  go_wp2_with fail
  refine (HPUT.out _ _ (by omega)).mono ?_
  rintro e w1 ⟨rfl, hk1⟩
  have HK1 := Lib.hid hk1
  have hp0 : putB (L.length : Int) = prI R 0 := by rw [prI_zero, HL.out]
  rw [hp0]
  clear hp0 hk1 c0 c1 c2
  go_wp2
  go_loopw [4, 3] (fun i sv wr => ∃ k : Nat, i = .int .i64 k ∧ k ≤ L.length ∧ sv = .string (prI R k) ∧ K0 w wr) (fun i _ _ => L.length - (intOf i).toNat)
  case atStart => exact ⟨0, rfl, by omega, rfl, HK1.out⟩
  case round =>
    obtain ⟨k, rfl, hk, rfl, hkr⟩ := hrel
    have HKR := Lib.hid hkr
    obtain ⟨c0, c1, c2⟩ := HCS.out wr hkr
    by_cases hlt : k < L.length
    · have hrk : k < R.length := by rw [← HL.out]; exact hlt
      rcases HH.out.form with ⟨hnil, _⟩ | ⟨r, cap, e9, hrb, hrl, hcap, _, _⟩
      · rw [hnil] at hlt; exact absurd hlt (Nat.not_lt_zero _)
      simp only [Value.slice.injEq] at e9
      obtain ⟨rfl, _, rfl⟩ := e9
      obtain ⟨g0, g1, g2⟩ := core_at HC.out hlt hrk
      obtain ⟨y0, y1, y2⟩ := (HH.out.keep hkr (fun _ _ e => e)).cell rfl k hlt
      have hout := (HH.out.keep hkr (fun _ _ e => e)).out _ (List.getElem_mem hlt)
      rw [g2] at hout
      rw [g0] at y0
      rw [g1] at y1
      have HOK := Lib.hid (HW.out.mem HO.out.kd R[k] (List.getElem_mem hrk))
      have HNX := Lib.hid (prI_next hrk)
      have HPS := Lib.hid (prI_size HW.out HO.out.kd hl k)
      have HLT := Lib.hid hlt
      generalize L[k].lv = lv at y2 hout
      have HOUT := Lib.hid hout
      clear g0 g1 g2 hout hkr
      generalize R[k] = p at HOK HNX y0 y1 HOUT
      have i0 : (0 : Int) ≤ k := by omega
      have i1 : (k : Int) < L.length := by omega
      have hlv : ∃ la lc, lv = .slice la p.2.count lc := by
        rcases HOUT.out with ⟨h1, h2⟩ | ⟨g, off, cap2, h1, _⟩
        · exact ⟨none, 0, by rw [h2, show p.2.count = 0 by rw [← winL_len, h1]; rfl]⟩
        · exact ⟨_, _, by rw [h1, winL_len]⟩
      obtain ⟨la, lc, rfl⟩ := hlv
      obtain ⟨⟨o1, o2⟩, o3⟩ := HOK.out
      have o4 := o3.ep
      have o5 := o3.ok.c
      have HOKH := Lib.hid o3
      have HEND : Hid (∀ Pr : ByteArray, Pr ++ putB p.1 ++ putB p.2.epoch ++ putB (p.2.count : Int) = prW Pr p 0) := by
        show ∀ _, _
        intro Pr
        rw [prW_zero]
        unfold headI
        simp only [ByteArray.append_assoc]
      have HPWS : Hid (∀ j, (prW (prI R k) p j).size ≤ 1800200) := by
        show ∀ _, _
        exact fun j => prW_size HPS.out ⟨o1, o2⟩ o3 j
      have HPWN : Hid (∀ Pr j, j < (winL p.2).length → ∃ h : j < (winL p.2).length, prW Pr p (j + 1) = prW Pr p j ++ sBy (winL p.2)[j]) := by
        show ∀ _ _, _ → _
        exact fun Pr j h => ⟨h, prW_next Pr p h⟩
      have HPWA : Hid (∀ Pr, prW Pr p (winL p.2).length = Pr ++ oneI p) := by
        show ∀ _, _
        exact fun Pr => prW_all Pr p
      have hq1 := putB_size (n := p.1) ⟨by omega, by omega⟩
      have hq2 := putB_size (n := p.2.epoch) ⟨by omega, by omega⟩
      have hq3 := putB_size (n := (p.2.count : Int)) ⟨by omega, by omega⟩
      have hps := HPS.out
      clear o3
      generalize hPr : prI R k = Pr at HPWS HNX hps ⊢
      have a1 : ¬ 9223372036854775807 < Pr.size + (putB p.1).size := by omega
      have a2 : ¬ 9223372036854775807 < Pr.size + (putB p.1).size + (putB p.2.epoch).size := by omega
      have a3 : ¬ 9223372036854775807 < Pr.size + (putB p.1).size + (putB p.2.epoch).size + (putB (p.2.count : Int)).size := by omega
      have b2 : ¬ 9223372036854775807 < (Pr ++ putB p.1).size + (putB p.2.epoch).size := by rw [ByteArray.size_append]; exact a2
      have b3 : ¬ 9223372036854775807 < (Pr ++ putB p.1 ++ putB p.2.epoch).size + (putB (p.2.count : Int)).size := by rw [ByteArray.size_append, ByteArray.size_append]; exact a3
      clear hPr hq1 hq2 hq3 hps
      have HBN := Lib.hid (BoxH.new wr p.1 p.2.epoch (.slice la p.2.count lc))
      obtain ⟨x0, x1, x2, x3, x4⟩ := HBN.out.drew.all
      obtain ⟨n0, n1, n2, n3, n4⟩ := HBN.out.all
      go_wp2_with fail
      go_region_held3 (fun w' : World => w'.cell? ⟨wr.heap.size, 0, none⟩ = some (.int .i64 p.1) ∧ w'.cell? ⟨wr.heap.size, 1, none⟩ = some (.int .i64 p.2.epoch) ∧ w'.cell? ⟨wr.heap.size, 2, none⟩ = some (.slice la p.2.count lc) ∧ wr.heap.size < w'.heap.size ∧ BoxH wr w' p.1 p.2.epoch (.slice la p.2.count lc))
        (first | go_keep | (refine ⟨?_, ?_, ?_, ?_, ?_⟩ <;> assumption))
        (first | (go_at_call 35; go_split_ands; refine (HPUT.out _ _ (by omega)).mono ?_; rintro e w' ⟨rfl, hk⟩; obtain ⟨d0, d1, d2, d3, d4⟩ := BoxH.all (BoxH.keep (by assumption) hk)))
      all_goals
        go_split_ands
        rw [HEND.out]
        have HB0 : Hid (BoxH wr w' p.1 p.2.epoch (.slice la p.2.count lc)) := by assumption
        clear a1 a2 a3 b2 b3 x0 x1 x2 x3 x4 n0 n1 n2 n3 n4 c0 c1 c2 y0 y1 y2
        go_wp2
        go_loopw [6, 3] (fun i sv wx => ∃ j : Nat, i = .int .i64 j ∧ j ≤ p.2.count ∧ sv = .string (prW Pr p j) ∧ BoxH wr wx p.1 p.2.epoch (.slice la p.2.count lc)) (fun i _ _ => p.2.count - (intOf i).toNat)
        case atStart => exact ⟨0, rfl, Nat.zero_le _, rfl, HB0.out⟩
        case round =>
          obtain ⟨wo, rfl⟩ : ∃ wo : World, wo = wr := ⟨_, rfl⟩
          obtain ⟨j, rfl, hj, rfl, hbx⟩ := hrel
          have HBX := Lib.hid hbx
          obtain ⟨q0, q1, q2, q3, _⟩ := hbx.all
          by_cases hjl : j < p.2.count
          · have hjw : j < (winL p.2).length := by rw [winL_len]; exact hjl
            obtain ⟨g, off, rfl, HWC⟩ : ∃ g off, la = some ⟨g, off, none⟩ ∧ Hid (∀ wx, K0 wr wx → wx.cell? ⟨g, off + j * 3, none⟩ = some (.int .i64 (winL p.2)[j].seq) ∧ wx.cell? ⟨g, off + j * 3 + 1, none⟩ = some (.int .i64 (winL p.2)[j].base) ∧ wx.cell? ⟨g, off + j * 3 + 2, none⟩ = some (.int .i64 (winL p.2)[j].span) ∧ g < wx.heap.size ∧ K0 wr wx) := by
              rcases HOUT.out with ⟨h1, _⟩ | ⟨g, off, cap2, h1, _, _, hgl, _, h4⟩
              · rw [h1] at hjw; exact absurd hjw (Nat.not_lt_zero _)
              · simp only [Value.slice.injEq] at h1
                refine ⟨g, off, h1.1, ?_⟩
                show ∀ _, _ → _
                intro wx hk
                obtain ⟨z0, z1, z2⟩ := winCell h4 j hjw
                exact ⟨hk.cell' z0 (fun e => e), hk.cell' z1 (fun e => e), hk.cell' z2 (fun e => e), Nat.lt_of_lt_of_le hgl hk.size, hk⟩
            obtain ⟨_, hpn⟩ := HPWN.out Pr j hjw
            have HPN := Lib.hid hpn
            have hok := HOKH.out.all (winL p.2)[j] (List.getElem_mem hjw)
            have hsz := HPWS.out j
            clear hpn hbx
            generalize (winL p.2)[j] = x at HWC HPN hok
            obtain ⟨t1, t2, t3, t4, t5, t6⟩ := hok
            have hs1 := putB_size (n := x.seq) ⟨by omega, by omega⟩
            have hs2 := putB_size (n := x.base) ⟨by omega, by omega⟩
            have hs3 := putB_size (n := x.span) ⟨by omega, by omega⟩
            have HE2 : Hid (∀ Qr : ByteArray, Qr ++ putB x.seq ++ putB x.base ++ putB x.span = Qr ++ sBy x) := by
              show ∀ _, _
              intro Qr
              unfold sBy
              simp only [ByteArray.append_assoc]
            have HJL := Lib.hid hjl
            generalize hQr : prW Pr p j = Qr at hsz HPN ⊢
            have a1 : ¬ 9223372036854775807 < Qr.size + (putB x.seq).size := by omega
            have a2 : ¬ 9223372036854775807 < Qr.size + (putB x.seq).size + (putB x.base).size := by omega
            have a3 : ¬ 9223372036854775807 < Qr.size + (putB x.seq).size + (putB x.base).size + (putB x.span).size := by omega
            have b2 : ¬ 9223372036854775807 < (Qr ++ putB x.seq).size + (putB x.base).size := by rw [ByteArray.size_append]; exact a2
            have b3 : ¬ 9223372036854775807 < (Qr ++ putB x.seq ++ putB x.base).size + (putB x.span).size := by rw [ByteArray.size_append, ByteArray.size_append]; exact a3
            have u0 : (0 : Int) ≤ j := by omega
            have u1 : (j : Int) < p.2.count := by omega
            have HCS2 : Hid (∀ wx, BoxH wr wx p.1 p.2.epoch (.slice (some ⟨g, off, none⟩) p.2.count lc) → wx.cell? ⟨wr.heap.size, 2, none⟩ = some (.slice (some ⟨g, off, none⟩) p.2.count lc) ∧ wr.heap.size < wx.heap.size ∧ BoxH wr wx p.1 p.2.epoch (.slice (some ⟨g, off, none⟩) p.2.count lc) ∧ wx.cell? ⟨g, off + j * 3, none⟩ = some (.int .i64 x.seq) ∧ wx.cell? ⟨g, off + j * 3 + 1, none⟩ = some (.int .i64 x.base) ∧ wx.cell? ⟨g, off + j * 3 + 2, none⟩ = some (.int .i64 x.span) ∧ g < wx.heap.size) := by
              show ∀ _, _ → _
              intro wx hb
              obtain ⟨z0, z1, z2, z3, _⟩ := HWC.out wx hb.2
              exact ⟨block_cell hb.1 2, block_lt hb.1, hb, z0, z1, z2, z3⟩
            obtain ⟨e1, e2, e3, e4, e5, e6, e7⟩ := HCS2.out _ HBX.out.drew
            obtain ⟨f1, f2, f3, f4, f5, f6, f7⟩ := HCS2.out _ HBX.out
            clear hQr hs1 hs2 hs3 hsz hjw q0 q1 q2 q3
            go_wp2_with fail
            go_region_held3 (fun w' : World => w'.cell? ⟨wr.heap.size, 2, none⟩ = some (.slice (some ⟨g, off, none⟩) p.2.count lc) ∧ wr.heap.size < w'.heap.size ∧ BoxH wr w' p.1 p.2.epoch (.slice (some ⟨g, off, none⟩) p.2.count lc) ∧ w'.cell? ⟨g, off + j * 3, none⟩ = some (.int .i64 x.seq) ∧ w'.cell? ⟨g, off + j * 3 + 1, none⟩ = some (.int .i64 x.base) ∧ w'.cell? ⟨g, off + j * 3 + 2, none⟩ = some (.int .i64 x.span) ∧ g < w'.heap.size)
              (first | go_keep | (refine ⟨?_, ?_, ?_, ?_, ?_, ?_, ?_⟩ <;> assumption))
              (first | (go_at_call 35; go_split_ands; refine (HPUT.out _ _ (by omega)).mono ?_; rintro e w' ⟨rfl, hk⟩; obtain ⟨d1, d2, d3, d4, d5, d6, d7⟩ := HCS2.out _ (BoxH.keep (by assumption) hk)))
            all_goals
              go_split_ands
              go_wp2
              go_roundw
              case rel => exact ⟨j + 1, by go_num, HJL.out, by rw [HPN.out, ← HE2.out], by assumption⟩
              case measure => have := HJL.out; simp [intOf]; omega
          · have hje : j = (winL p.2).length := by rw [winL_len]; omega
            have hjc : j = p.2.count := by omega
            have HFI : Hid (prW Pr p j = prI R (k + 1)) := by show _ = _; rw [HNX.out, hje, HPWA.out]
            clear hje hbx
            subst hjc
            go_wp2
            go_roundw
            case rel => exact ⟨k + 1, by go_num, HLT.out, by rw [HFI.out], K0.tr HKR.out HBX.out.2⟩
            case measure => have := HLT.out; simp [intOf]; omega
    · obtain rfl : k = L.length := by omega
      have hfin : prI R L.length = printI R := by rw [HL.out]; exact prI_all R
      rw [hfin]
      go_wp2
      go_ret
      exact ⟨rfl, HKR.out⟩
end Go.Proofs.Ytbjpifipjcfhkaa
