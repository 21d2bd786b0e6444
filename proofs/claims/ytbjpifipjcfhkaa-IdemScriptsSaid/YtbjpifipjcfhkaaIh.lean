/-
  Print at one producer with two batches: what live asks.
-/
import Derived.Test.YtbjpifipjcfhkaaIg
import Derived.Test.YtbjpifipjcfhkaaIs
import Derived.Deep.RegionHeld3
import Derived.Deep.DeepCutAuto
namespace Go.Proofs.Ytbjpifipjcfhkaa
open Go.RowKit Fx

def liveH : HeardC := addH (addH (newHd 0) ⟨0, 40, 2⟩) ⟨2, 42, 1⟩
theorem liveH_ok : HOk liveH := addH_ok (addH_ok (newHd_ok _) _) _
theorem liveH_nth : nth liveH 0 = ⟨0, 40, 2⟩ ∧ nth liveH 1 = ⟨2, 42, 1⟩ := ⟨rfl, rfl⟩
def liveM : List (Int × HeardC) := [(7, liveH)]
theorem live_noted (b1 b2 : BatchC) (h1 : b1 = ⟨40, 2, 7, 0, 0, none, 0, 0⟩) (h2 : b2 = ⟨42, 1, 7, 0, 2, none, 0, 0⟩) : noteM (noteM [] b1) b2 = liveM := by
  subst h1 h2
  rfl
theorem liveL {L : List (Int × (Nat × HeardC))} (h : amap (·.2) L = liveM) : ∃ hb, L = [(7, (hb, liveH))] := by
  match L, h with
  | [], h => cases h
  | [(k, (b, H))], h =>
    have h' : [(k, H)] = [((7 : Int), liveH)] := h
    injection h' with e1 _
    injection e1 with e2 e3
    exact ⟨b, by rw [e2, e3]⟩
  | _ :: _ :: _, h =>
    have := congrArg List.length h
    simp [amap, liveM] at this
/-- The byte of a small number. -/
def vb (n : Int) : ByteArray := strOfNums [2 * n]
theorem put_of (n : Int) (h : n = 0 ∨ n = 1 ∨ n = 2 ∨ n = 7 ∨ n = 40 ∨ n = 42) (w : World) : Calls Try.prog 32 #[.int .i64 n] w fun e w' => Same w e (.string (vb n)) w' := by
  rcases h with rfl | rfl | rfl | rfl | rfl | rfl
  · exact put_0 w
  · exact put_1 w
  · exact put_2 w
  · exact put_7 w
  · exact put_40 w
  · exact put_42 w
theorem vb0 : vb 0 = ⟨#[0]⟩ := by kernel_rfl
theorem vb1 : vb 1 = ⟨#[2]⟩ := by kernel_rfl
theorem vb2 : vb 2 = ⟨#[4]⟩ := by kernel_rfl
theorem vb7 : vb 7 = ⟨#[14]⟩ := by kernel_rfl
theorem vb40 : vb 40 = ⟨#[80]⟩ := by kernel_rfl
theorem vb42 : vb 42 = ⟨#[84]⟩ := by kernel_rfl
def sHead : ByteArray := ⟨#[2]⟩
def sOne : ByteArray := ⟨#[2, 14, 0, 4]⟩
def sA : ByteArray := ⟨#[2, 14, 0, 4, 0, 80, 4]⟩
def sB : ByteArray := ⟨#[2, 14, 0, 4, 0, 80, 4, 4, 84, 2]⟩
set_option maxRecDepth 100000 in
set_option maxHeartbeats 4000000 in
theorem print_live {w0 w : World} {pb mb : Nat} {L : List (Int × (Nat × HeardC))} (h : PAt w0 w pb liveM mb L) :
    Calls Try.prog 17 #[.pointer (some ⟨pb, 0, none⟩)] w fun e w' => Same w e (.string sB) w' := by
  obtain ⟨hb, rfl⟩ := liveL h.core
  have c0 : w.cell? ⟨pb, 0, none⟩ = some (.map (some mb)) := block_cell h.blk 0
  have hlt := block_lt h.blk
  have hm := Lib.hid h.map
  have HH := Lib.hid h
  clear h
  go_enter Try.func17, Try.ntmps17
  go_wp2_with (at_len; refine wpList_len rfl rfl Try.underlying56 rfl hm.out ?_)
  rw [show ((avals hptr [((7 : Int), (hb, liveH))]).length : Int) = 1 from rfl]
  refine (put_of 1 (by decide) _).mono ?_
  rintro e w1 ⟨rfl, k1⟩
  rw [vb1]
  have H1 := Lib.hid (HH.out.keep k1)
  have c1 : w1.cell? ⟨pb, 0, none⟩ = some (.map (some mb)) := block_cell H1.out.blk 0
  have l1 := block_lt H1.out.blk
  have K1 := Lib.hid k1
  clear k1 c0 hlt
  go_wp2_with fail
  refine (keys_any (some mb) w1).mono ?_
  rintro e w2 ⟨rfl, rfl⟩
  go_wp2_with fail
  refine (sorted_one (x := 7) (v := hptr (hb, liveH)) H1.out.map (by decide)).mono ?_
  rintro e w3 ⟨g, c, rfl, cg, lg, k3⟩
  have K3 := Lib.hid (K0.tr ((Keeps.refl (fun _ => False) w1).alloc _) k3)
  have H3 := Lib.hid (H1.out.keep K3.out)
  have CG := Lib.hid cg
  have LG := Lib.hid lg
  clear k3 cg lg c1 l1
  go_wp2
  go_loopw [3, 25] (fun s i wr => ∃ k : Nat, i = .int .i64 k ∧ k ≤ 1 ∧ s = .string (if k = 0 then sHead else sB) ∧ K0 w3 wr) (fun _ i _ => 1 - (intOf i).toNat)
  case atStart => exact ⟨0, rfl, by omega, rfl, Keeps.refl _ _⟩
  case round =>
    obtain ⟨k, rfl, hk, rfl, hkk⟩ := hrel
    have hr := H3.out.keep hkk
    have d0 : wr.cell? ⟨pb, 0, none⟩ = some (.map (some mb)) := block_cell hr.blk 0
    have l0 := block_lt hr.blk
    have HKR := Lib.hid hkk
    have HR := Lib.hid hr
    match k, hk with
    | 1, _ =>
      clear hr hkk
      rw [if_neg (by omega : ¬ (1 : Nat) = 0)]
      go_wp2
      go_ret
      exact ⟨rfl, K0.tr (K0.tr K1.out K3.out) HKR.out⟩
    | 0, _ =>
      have cg : wr.cell? ⟨g, 0, none⟩ = some (.int .i64 7) := hkk.cell' CG.out (fun e => e)
      have lg : g < wr.heap.size := Nat.lt_of_lt_of_le LG.out hkk.size
      have hh : HAt wr hb liveH := hr.her 7 _ rfl
      have e0 : wr.cell? ⟨hb, 0, none⟩ = some (.int .i64 0) := block_cell hh 0
      have e17 : wr.cell? ⟨hb, 17, none⟩ = some (.int .i64 2) := block_cell hh 17
      have lh := block_lt hh
      have HM3 := Lib.hid hr.map
      have HV : Hid (aget (avals hptr [((7 : Int), (hb, liveH))]) 7 = some (.pointer (some ⟨hb, 0, none⟩))) := rfl
      have hkd : K0 wr wr.drew := (Keeps.refl _ _).drew
      clear hr hkk hh
      rw [if_pos rfl, sHead]
      go_upto_region 8 with (at_lookup; refine wpList_look (intKey Try.underlying3) rfl rfl Try.underlying56 zeroHeard rfl 7 rfl HM3.out _ HV.out ?_)
      go_region_held3 (fun w' => w'.cell? ⟨hb, 0, none⟩ = some (.int .i64 0) ∧ w'.cell? ⟨hb, 17, none⟩ = some (.int .i64 2) ∧ K0 wr w')
        (first | go_keep | (go_split_ands; refine ⟨?_, ?_, ?_⟩ <;> first | assumption | exact Keeps.cell' (by assumption) (by assumption) (fun e => e) | exact K0.tr (by assumption) (by assumption)))
        (first | (go_at_call 32; refine (put_of _ (by decide) _).mono ?_; rintro e w' ⟨he, hk⟩; simp only [vb0, vb1, vb2, vb7, vb40, vb42] at he; subst he))
      go_split_ands
      have k4 : K0 wr w' := by assumption
      have HK4 := Lib.hid (K0.tr HKR.out k4)
      have e17' : w'.cell? ⟨hb, 17, none⟩ = some (.int .i64 2) := by assumption
      have lh' : hb < w'.heap.size := Nat.lt_of_lt_of_le lh k4.size
      have hc : (⟨#[2]⟩ : ByteArray) ++ ((⟨#[14]⟩ : ByteArray) ++ ⟨#[0]⟩ ++ ⟨#[4]⟩) = sOne := by kernel_rfl
      rw [hc]
      clear k4 hk hkd e17 e0 lh cg lg d0 l0
      go_wp2
      go_loopw [3, 55] (fun s i wq => ∃ j : Nat, i = .int .i64 j ∧ j ≤ 2 ∧ s = .string (if j = 0 then sOne else if j = 1 then sA else sB) ∧ K0 w3 wq) (fun _ i _ => 2 - (intOf i).toNat)
      case atStart => exact ⟨0, rfl, by omega, rfl, HK4.out⟩
      case round =>
        obtain ⟨wo, rfl⟩ : ∃ wo : World, wo = wr := ⟨_, rfl⟩
        obtain ⟨j, rfl, hj, rfl, hkj⟩ := hrel
        have hr := H3.out.keep hkj
        have hh : HAt wo hb liveH := hr.her 7 _ rfl
        have HKJ := Lib.hid hkj
        clear hr hkj
        match j, hj with
        | 2, _ =>
          clear hh
          rw [if_neg (by omega : ¬ (2 : Nat) = 0), if_neg (by omega : ¬ (2 : Nat) = 1)]
          go_wp2
          go_roundw
          case rel => exact ⟨1, rfl, by omega, rfl, HKJ.out⟩
          case measure => simp [intOf]
        | 0, _ =>
          have A0 := at_any hh liveH_ok 0 (by omega)
          rw [show ((0 : Nat) : Int) = 0 from rfl] at A0
          have A := Lib.hid A0
          clear A0
          have z := slot_lt liveH 0
          have cs := hcells_at liveH z
          have z0 : wo.cell? ⟨hb, 1 + slot liveH 0 * 3, none⟩ = some (.int .i64 0) := (block_cell hh _).trans cs.1
          have z1 : wo.cell? ⟨hb, 1 + slot liveH 0 * 3 + 1, none⟩ = some (.int .i64 40) := (block_cell hh _).trans cs.2.1
          have z2 : wo.cell? ⟨hb, 1 + slot liveH 0 * 3 + 2, none⟩ = some (.int .i64 2) := (block_cell hh _).trans cs.2.2
          have lz := block_lt hh
          clear cs z hh
          rw [if_pos rfl, sOne]
          go_wp2_with fail
          refine A.out.mono ?_
          rintro e w5 ⟨rfl, k5⟩
          have y0 := k5.cell' z0 (fun e => e)
          have y1 := k5.cell' z1 (fun e => e)
          have y2 := k5.cell' z2 (fun e => e)
          have ly := Nat.lt_of_lt_of_le lz k5.size
          have HK5 := Lib.hid (K0.tr HKJ.out k5)
          have hkd5 : K0 w5 w5.drew := (Keeps.refl _ _).drew
          clear z0 z1 z2 lz k5 A
          go_upto_region 13 with fail
          go_region_held3 (fun w' => w'.cell? ⟨hb, 1 + slot liveH 0 * 3, none⟩ = some (.int .i64 0) ∧ w'.cell? ⟨hb, 1 + slot liveH 0 * 3 + 1, none⟩ = some (.int .i64 40) ∧ w'.cell? ⟨hb, 1 + slot liveH 0 * 3 + 2, none⟩ = some (.int .i64 2) ∧ K0 w5 w')
            (first | go_keep | (go_split_ands; refine ⟨?_, ?_, ?_, ?_⟩ <;> first | assumption | exact Keeps.cell' (by assumption) (by assumption) (fun e => e) | exact K0.tr (by assumption) (by assumption)))
            (first | (go_at_call 32; refine (put_of _ (by decide) _).mono ?_; rintro e w' ⟨he, hk⟩; simp only [vb0, vb1, vb2, vb7, vb40, vb42] at he; subst he))
          go_split_ands
          have k6 : K0 w5 w' := by assumption
          have HK6 := Lib.hid (K0.tr HK5.out k6)
          have hc : (⟨#[2, 14, 0, 4]⟩ : ByteArray) ++ ((⟨#[0]⟩ : ByteArray) ++ ⟨#[80]⟩ ++ ⟨#[4]⟩) = sA := by kernel_rfl
          rw [hc]
          clear k6 hk hkd5
          go_wp2
          go_roundw
          case rel => exact ⟨1, rfl, by omega, rfl, HK6.out⟩
          case measure => simp [intOf]
        | 1, _ =>
          have A0 := at_any hh liveH_ok 1 (by omega)
          rw [show ((1 : Nat) : Int) = 1 from rfl] at A0
          have A := Lib.hid A0
          clear A0
          have z := slot_lt liveH 1
          have cs := hcells_at liveH z
          have z0 : wo.cell? ⟨hb, 1 + slot liveH 1 * 3, none⟩ = some (.int .i64 2) := (block_cell hh _).trans cs.1
          have z1 : wo.cell? ⟨hb, 1 + slot liveH 1 * 3 + 1, none⟩ = some (.int .i64 42) := (block_cell hh _).trans cs.2.1
          have z2 : wo.cell? ⟨hb, 1 + slot liveH 1 * 3 + 2, none⟩ = some (.int .i64 1) := (block_cell hh _).trans cs.2.2
          have lz := block_lt hh
          clear cs z hh
          rw [if_neg (by omega : ¬ (1 : Nat) = 0), if_pos rfl, sA]
          go_wp2_with fail
          refine A.out.mono ?_
          rintro e w5 ⟨rfl, k5⟩
          have y0 := k5.cell' z0 (fun e => e)
          have y1 := k5.cell' z1 (fun e => e)
          have y2 := k5.cell' z2 (fun e => e)
          have ly := Nat.lt_of_lt_of_le lz k5.size
          have HK5 := Lib.hid (K0.tr HKJ.out k5)
          have hkd5 : K0 w5 w5.drew := (Keeps.refl _ _).drew
          clear z0 z1 z2 lz k5 A
          go_upto_region 13 with fail
          go_region_held3 (fun w' => w'.cell? ⟨hb, 1 + slot liveH 1 * 3, none⟩ = some (.int .i64 2) ∧ w'.cell? ⟨hb, 1 + slot liveH 1 * 3 + 1, none⟩ = some (.int .i64 42) ∧ w'.cell? ⟨hb, 1 + slot liveH 1 * 3 + 2, none⟩ = some (.int .i64 1) ∧ K0 w5 w')
            (first | go_keep | (go_split_ands; refine ⟨?_, ?_, ?_, ?_⟩ <;> first | assumption | exact Keeps.cell' (by assumption) (by assumption) (fun e => e) | exact K0.tr (by assumption) (by assumption)))
            (first | (go_at_call 32; refine (put_of _ (by decide) _).mono ?_; rintro e w' ⟨he, hk⟩; simp only [vb0, vb1, vb2, vb7, vb40, vb42] at he; subst he))
          go_split_ands
          have k6 : K0 w5 w' := by assumption
          have HK6 := Lib.hid (K0.tr HK5.out k6)
          have hc : (⟨#[2, 14, 0, 4, 0, 80, 4]⟩ : ByteArray) ++ ((⟨#[4]⟩ : ByteArray) ++ ⟨#[84]⟩ ++ ⟨#[2]⟩) = sB := by kernel_rfl
          rw [hc]
          clear k6 hk hkd5
          go_wp2
          go_roundw
          case rel => exact ⟨2, rfl, by omega, rfl, HK6.out⟩
          case measure => simp [intOf]
end Go.Proofs.Ytbjpifipjcfhkaa
