/-
  Print: the document's and the program's.
-/
import Derived.Test.YtegbiekfpcfnnaaUd
import Derived.Test.YtegbiekfpcfnnaaVf
import Derived.Deep.RegionHeld3
import Derived.Deep.DeepCutAuto
namespace Go.Proofs.Ytegbiekfpcfnnaa
open Go.RowKit Fx

def oneB (p : OneP) : ByteArray := putB p.1.size ++ p.1 ++ putB p.2.1 ++ putB p.2.2
def printL (acc : ByteArray) (l : List OneP) : ByteArray := l.foldl (fun a p => a ++ oneB p) acc
def printT (R : Tbl) : ByteArray := printL (putB R.next ++ putB R.all.length) R.all
theorem printL_next (acc : ByteArray) {l : List OneP} {k : Nat} (h : k < l.length) : printL acc (l.take (k + 1)) = printL acc (l.take k) ++ oneB l[k] := by
  unfold printL
  rw [List.take_succ_eq_append_getElem h, List.foldl_append]
  rfl
/-- A topic as it may be. -/
def okP (p : OneP) : Prop := p.1.size ≤ 100 ∧ 0 ≤ p.2.1 ∧ p.2.1 ≤ 1073741824 ∧ 0 ≤ p.2.2 ∧ p.2.2 ≤ 16
theorem oneB_size {p : OneP} (h : okP p) : (oneB p).size ≤ 130 := by
  obtain ⟨h1, h2, h3, h4, h5⟩ := h
  have a1 := putB_size (n := (p.1.size : Int)) ⟨by omega, by omega⟩
  have a2 := putB_size (n := p.2.1) ⟨by omega, by omega⟩
  have a3 := putB_size (n := p.2.2) ⟨by omega, by omega⟩
  unfold oneB
  simp only [ByteArray.size_append]
  omega
theorem printL_size (acc : ByteArray) : ∀ (l : List OneP), (∀ p ∈ l, okP p) → (printL acc l).size ≤ acc.size + 130 * l.length
  | [], _ => Nat.le_refl _
  | p :: l, h => by
    have h1 := printL_size (acc ++ oneB p) l (fun q hq => h q (List.mem_cons_of_mem _ hq))
    have h2 := oneB_size (h p List.mem_cons_self)
    rw [ByteArray.size_append] at h1
    show (printL (acc ++ oneB p) l).size ≤ _
    simp only [List.length_cons]
    omega
theorem WfT.okP {t : Tbl} (h : WfT t) : ∀ p ∈ t.all, Go.Proofs.Ytegbiekfpcfnnaa.okP p := fun p hp => by
  have h1 := h.ids p.1 p.2 (aget_of_mem h.keys hp)
  have h2 := h.next
  exact ⟨h1.2.2.2.2.2, h1.1, by omega, by omega, h1.2.2.2.1⟩
def printA (R : Tbl) : ByteArray := putB R.next ++ putB R.all.length
theorem printA_size {R : Tbl} (h : WfT R) : (printA R).size ≤ 20 := by
  have h1 := putB_size (n := R.next) ⟨by have := h.next; omega, by have := h.next; omega⟩
  have h2 := putB_size (n := (R.all.length : Int)) ⟨by omega, by have := h.len; omega⟩
  unfold printA
  rw [ByteArray.size_append]
  omega
theorem print_small {R : Tbl} (h : WfT R) (k : Nat) : (printL (printA R) (R.all.take k)).size ≤ 2620 := by
  have h1 := printL_size (printA R) (R.all.take k) (fun p hp => h.okP p (List.mem_of_mem_take hp))
  have h2 := printA_size h
  have h3 : (R.all.take k).length ≤ 20 := by rw [List.length_take]; have := h.len; omega
  omega
set_option maxRecDepth 100000 in
set_option maxHeartbeats 8000000 in
theorem rtprint_any {w : World} {F : Nat → Prop} {b : Nat} {R : Tbl} (h : RTst w F b R) (wf : WfT R) :
    Calls Try.prog 21 #[.pointer (some ⟨b, 0, none⟩)] w fun e w' => e = .returned (.string (printT R)) ∧ K0 w w' := by
  obtain ⟨v, h⟩ := h
  have HH := Lib.hid h
  have HW := Lib.hid wf
  have hl := wf.len
  have hnx := wf.next
  obtain ⟨va, vc, rfl⟩ := own_slice h.row
  have HCS : Hid (∀ wx, K0 w wx → wx.cell? ⟨b, 0, none⟩ = some (.int .i64 R.next) ∧ wx.cell? ⟨b, 1, none⟩ = some (.slice va R.all.length vc) ∧ b < wx.heap.size ∧ K0 w wx) := by
    show ∀ _, _ → _
    intro wx hk
    have h1 := h.keep hk (fun _ _ e => e)
    exact ⟨block_cell h1.blk 0, block_cell h1.blk 1, block_lt h1.blk, hk⟩
  have HPUT : Hid (∀ x wx, (x = R.next ∨ x = R.all.length) → Calls Try.prog 29 #[.int .i64 x] wx fun e w' => e = .returned (.string (putB x)) ∧ K0 wx w') := by
    show ∀ _ _, _ → _
    intro x wx hx
    exact rvput_any x wx (by rcases hx with rfl | rfl <;> omega)
  have hcc : ¬ 9223372036854775807 < (putB R.next).size + (putB (R.all.length : Int)).size := by
    have h1 := printA_size wf
    unfold printA at h1
    rw [ByteArray.size_append] at h1
    omega
  obtain ⟨d0, d1, d2, d3⟩ := HCS.out w.drew (Keeps.refl _ _).drew
  obtain ⟨c0, c1, c2, c3⟩ := HCS.out w (Keeps.refl _ _)
  clear h wf
  go_enter Try.func21, Try.ntmps21
  go_upto_region 1 with fail
  go_cut [3] (fun sv wc => sv = .string (printA R) ∧ K0 w wc)
  case first =>
    go_wp2_with fail
    go_region_held3 (fun w' : World => w'.cell? ⟨b, 0, none⟩ = some (.int .i64 R.next) ∧ w'.cell? ⟨b, 1, none⟩ = some (.slice va R.all.length vc) ∧ b < w'.heap.size ∧ K0 w w')
      (first | go_keep | (refine ⟨?_, ?_, ?_, ?_⟩ <;> assumption))
      ((go_at_call 29; go_split_ands; refine (HPUT.out _ _ (by first | exact .inl rfl | exact .inr rfl)).mono ?_; rintro e w' ⟨rfl, hk⟩; obtain ⟨d0, d1, d2, d3⟩ := HCS.out w' (K0.tr (by assumption) hk)))
    all_goals
      go_split_ands
      go_wp2
      go_meet
      case rel => exact ⟨rfl, by assumption⟩
  case rest =>
    obtain ⟨rfl, hkc⟩ := hcut
    have HKC := Lib.hid hkc
    obtain ⟨c0, c1, c2, c3⟩ := HCS.out wc hkc
    clear hkc hcc d0 d1 d2 d3
    go_wp2
    go_loopw [4, 3] (fun i sv wr => ∃ k : Nat, i = .int .i64 k ∧ k ≤ R.all.length ∧ sv = .string (printL (printA R) (R.all.take k)) ∧ K0 w wr) (fun i _ _ => R.all.length - (intOf i).toNat)
    case atStart => exact ⟨0, rfl, by omega, rfl, HKC.out⟩
    case round =>
      obtain ⟨k, rfl, hk, rfl, hkr⟩ := hrel
      have HKR := Lib.hid hkr
      obtain ⟨c0, c1, c2, c3⟩ := HCS.out wr hkr
      by_cases hlt : k < R.all.length
      · have hform := HH.out.form
        rcases hform with ⟨hnil, _⟩ | ⟨r, cap, e9, hrb, hrl, hcap, _, _⟩
        · rw [hnil] at hlt; exact absurd hlt (Nat.not_lt_zero _)
        simp only [Value.slice.injEq] at e9
        obtain ⟨rfl, _, rfl⟩ := e9
        have HOK := Lib.hid (HW.out.okP R.all[k] (List.getElem_mem hlt))
        have HNX := Lib.hid (printL_next (printA R) hlt)
        have hps := print_small HW.out k
        have HOC : Hid (∀ wx, K0 w wx → wx.cell? ⟨r, k * 3, none⟩ = some (.string R.all[k].1) ∧ wx.cell? ⟨r, k * 3 + 1, none⟩ = some (.int .i64 R.all[k].2.1) ∧ wx.cell? ⟨r, k * 3 + 2, none⟩ = some (.int .i64 R.all[k].2.2) ∧ r < wx.heap.size) := by
          show ∀ _, _ → _
          intro wx hk
          obtain ⟨h1, h2, h3⟩ := (HH.out.keep hk (fun _ _ e => e)).cell rfl k hlt
          exact ⟨h1, h2, h3, World.block_lt_of_cell? _ _ h1⟩
        have HLT := Lib.hid hlt
        generalize R.all[k] = p at HOK HNX HOC
        obtain ⟨nm, id, pt⟩ := p
        have HOC : Hid (∀ wx, K0 w wx → wx.cell? ⟨r, k * 3, none⟩ = some (.string nm) ∧ wx.cell? ⟨r, k * 3 + 1, none⟩ = some (.int .i64 id) ∧ wx.cell? ⟨r, k * 3 + 2, none⟩ = some (.int .i64 pt) ∧ r < wx.heap.size) := HOC.out
        obtain ⟨o1, o2, o3, o4, o5⟩ : nm.size ≤ 100 ∧ 0 ≤ id ∧ id ≤ 1073741824 ∧ 0 ≤ pt ∧ pt ≤ 16 := HOK.out
        obtain ⟨T, hT⟩ : ∃ T, T = putB nm.size ++ nm := ⟨_, rfl⟩
        obtain ⟨P1, hP1⟩ : ∃ P1, P1 = putB id := ⟨_, rfl⟩
        obtain ⟨P2, hP2⟩ : ∃ P2, P2 = putB pt := ⟨_, rfl⟩
        have hTs : T.size ≤ 110 := by
          rw [hT, ByteArray.size_append]
          have := putB_size (n := (nm.size : Int)) ⟨by omega, by omega⟩
          omega
        have hP1s : P1.size ≤ 10 := by rw [hP1]; exact putB_size ⟨by omega, by omega⟩
        have hP2s : P2.size ≤ 10 := by rw [hP2]; exact putB_size ⟨by omega, by omega⟩
        have HTX : Hid (∀ wx, Calls Try.prog 30 #[.string nm] wx fun e w' => e = .returned (.string T) ∧ K0 wx w') := by
          show ∀ _, _
          intro wx
          rw [hT]
          exact rtext_any nm wx (by omega)
        have HPP : Hid (∀ x y wx, (x = id ∧ y = P1) ∨ (x = pt ∧ y = P2) → Calls Try.prog 29 #[.int .i64 x] wx fun e w' => e = .returned (.string y) ∧ K0 wx w') := by
          show ∀ _ _ _, _ → _
          intro x y wx hxy
          rcases hxy with ⟨rfl, rfl⟩ | ⟨rfl, rfl⟩
          · rw [hP1]; exact rvput_any _ wx (by omega)
          · rw [hP2]; exact rvput_any _ wx (by omega)
        have HEND : Hid (∀ Pr : ByteArray, Pr ++ T ++ P1 ++ P2 = Pr ++ oneB (nm, (id, pt))) := by
          show ∀ _, _
          intro Pr
          unfold oneB
          rw [hT, hP1, hP2]
          simp only [ByteArray.append_assoc]
        generalize hPr : printL (printA R) (R.all.take k) = Pr at hps HNX ⊢
        have a1 : ¬ 9223372036854775807 < Pr.size + T.size := by omega
        have a2 : ¬ 9223372036854775807 < Pr.size + T.size + P1.size := by omega
        have a3 : ¬ 9223372036854775807 < Pr.size + T.size + P1.size + P2.size := by omega
        have b2 : ¬ 9223372036854775807 < (Pr ++ T).size + P1.size := by rw [ByteArray.size_append]; exact a2
        have b3 : ¬ 9223372036854775807 < (Pr ++ T ++ P1).size + P2.size := by rw [ByteArray.size_append, ByteArray.size_append]; exact a3
        have i0 : (0 : Int) ≤ k := by omega
        have i1 : (k : Int) < R.all.length := by omega
        have HDR : Hid (K0 w wr.drew) := HKR.out.drew
        obtain ⟨y0, y1, y2, y3⟩ := HCS.out _ HDR.out
        obtain ⟨x0, x1, x2, x3⟩ := HOC.out _ HDR.out
        obtain ⟨n0, n1, n2, n3⟩ := HOC.out _ HKR.out
        clear hT hP1 hP2 hPr hkr
        go_wp2_with fail
        go_region_held3 (fun w' : World => w'.cell? ⟨b, 1, none⟩ = some (.slice (some ⟨r, 0, none⟩) R.all.length vc) ∧ b < w'.heap.size ∧ K0 w w' ∧ w'.cell? ⟨r, k * 3, none⟩ = some (.string nm) ∧ w'.cell? ⟨r, k * 3 + 1, none⟩ = some (.int .i64 id) ∧ w'.cell? ⟨r, k * 3 + 2, none⟩ = some (.int .i64 pt) ∧ r < w'.heap.size)
          (first | go_keep | (refine ⟨?_, ?_, ?_, ?_, ?_, ?_, ?_⟩ <;> assumption))
          (first | (go_at_call 30; go_split_ands; refine (HTX.out _).mono ?_; rintro e w' ⟨rfl, hk⟩; obtain ⟨d0, d1, d2, d3⟩ := HCS.out w' (K0.tr (by assumption) hk); obtain ⟨f0, f1, f2, f3⟩ := HOC.out w' (K0.tr (by assumption) hk)) | (go_at_call 29; go_split_ands; refine (HPP.out _ _ _ (by first | exact .inl ⟨rfl, rfl⟩ | exact .inr ⟨rfl, rfl⟩)).mono ?_; rintro e w' ⟨rfl, hk⟩; obtain ⟨d0, d1, d2, d3⟩ := HCS.out w' (K0.tr (by assumption) hk); obtain ⟨f0, f1, f2, f3⟩ := HOC.out w' (K0.tr (by assumption) hk)))
        all_goals
          go_split_ands
          go_wp2
          go_roundw
          case rel => exact ⟨k + 1, by go_num, HLT.out, by rw [HNX.out, ← HEND.out], by assumption⟩
          case measure => have := HLT.out; simp [intOf]; omega
      · obtain rfl : k = R.all.length := by omega
        rw [List.take_length]
        go_wp2
        go_ret
        exact ⟨rfl, HKR.out⟩
end Go.Proofs.Ytegbiekfpcfnnaa
