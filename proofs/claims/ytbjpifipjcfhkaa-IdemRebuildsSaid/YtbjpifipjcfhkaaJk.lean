/-
  IdemRebuilds, walked.
-/
import Derived.Test.YtbjpifipjcfhkaaJj
namespace Go.Proofs.Ytbjpifipjcfhkaa
open Go.RowKit Fx

set_option maxRecDepth 100000 in
set_option maxHeartbeats 8000000 in
theorem rebuilds_any (w : World) (a : Option Addr) (cap : Nat) (l : List BatchC) (hs : SlAt 6 rBatch w a cap l) :
    Calls Try.prog 8 #[.slice a l.length cap] w fun e w' => Same w e (.bool true) w' := by
  have hm := hs.len
  have HS := Lib.hid hs
  clear hs
  by_cases g0 : 100 < (l.length : Int)
  · go_enter Try.func8, Try.ntmps8
    go_wp2_with fail
    refine (live_any _).mono ?_
    rintro e w2 ⟨rfl, k2⟩
    go_wp2
    go_ret
    exact ⟨rfl, k2⟩
  have HSIM := Lib.hid (sim_fold l SimI.nil)
  have HWF := Lib.hid (wf_fold l WfR.nil)
  have HWR : Hid (WfR (l.foldl noteS [])) := HWF.out.look HSIM.out.look
  have HLN : Hid ((l.foldl noteS []).length ≤ 10000) := by
    show _ ≤ _
    have h1 := len_fold l []
    rw [HSIM.out.len] at h1
    simp at h1
    omega
  go_enter Try.func8, Try.ntmps8
  go_wp2_with fail
  refine (rebuild_any w a cap l HS.out).mono ?_
  rintro e w1 ⟨pp, rfl, s1⟩
  have P1 := Lib.hid ((PF.of s1).more (G := fun k => w1.heap.size ≤ k) (fun k e => .inr e))
  have K1 := Lib.hid s1.k0
  clear s1
  go_wp2_with fail
  refine (pnew_any w1).mono ?_
  rintro e w2 ⟨qq, rfl, s2⟩
  have Q2 := Lib.hid s2
  have P2 := Lib.hid (P1.out.keep s2.k0)
  clear s2
  go_wp2
  go_loopw [5] (fun i wr => ∃ k : Nat, i = .int .i64 k ∧ k ≤ l.length ∧ PSt w1 wr qq ((l.take k).foldl noteM []) ∧ PF w wr (fun k => w1.heap.size ≤ k) pp (l.foldl noteM [])) (fun i _ => l.length - (intOf i).toNat)
  case atStart => exact ⟨0, rfl, by omega, Q2.out, P2.out⟩
  case round =>
    obtain ⟨k, rfl, hk, hq, hp⟩ := hrel
    have HP := Lib.hid hp
    have HQ := Lib.hid hq
    by_cases hlt : k < l.length
    · obtain ⟨b, off, rfl, hrow⟩ := HS.out.row hlt
      obtain ⟨x0, x1, x2, x3, x4, x5, hbl⟩ := bat_cells hrow hp.st.k0 k hlt
      have HNX := Lib.hid (fold_next noteM [] hlt)
      have HWM := Lib.hid (wf_fold (l.take k) WfR.nil).wfm
      have HLT := Lib.hid hlt
      generalize l[k] = bt at x0 x1 x2 x3 x4 x5 HNX
      have i0 : (0 : Int) ≤ k := by omega
      have i1 : (k : Int) < l.length := by omega
      clear hrow hq hp P1 P2 Q2
      go_wp2_with fail
      refine (note_pf (M' := noteM ((l.take k).foldl noteM []) bt) (PF.of HQ.out) (fun k e => e.elim) HWM.out bt rfl).mono ?_
      rintro e w5 ⟨rfl, p5, k5⟩
      have Q5 := Lib.hid p5.st
      have P5 : Hid (PF w w5 (fun k => w1.heap.size ≤ k) pp (l.foldl noteM [])) := HP.out.keepS k5 (fun k _ e => e.1)
      clear p5 k5
      go_wp2
      go_roundw
      case rel => exact ⟨k + 1, by go_num, HLT.out, by rw [HNX.out]; exact Q5.out, P5.out⟩
      case measure => have := HLT.out; simp [intOf]; omega
    · obtain rfl : k = l.length := by omega
      rw [List.take_length] at hq
      have HQ := Lib.hid hq
      have HPS := hp.st
      obtain ⟨mb, L, hpa⟩ := HPS
      have HPA := Lib.hid hpa
      clear hq hp hpa P1 P2 Q2
      go_wp2_with fail
      refine (print_any HPA.out HSIM.out HWR.out HLN.out).mono ?_
      rintro e w3 ⟨rfl, k3⟩
      have K3 := Lib.hid (K0.tr HPA.out.k0 k3)
      have Q3 := Lib.hid (HQ.out.keep k3)
      have HS3 : Hid (SlAt 6 rBatch w3 a cap l) := HS.out.keep0 stable_bat K3.out
      clear k3
      go_wp2_with fail
      refine (rrebuild_any w3 a cap l HS3.out (by omega)).mono ?_
      rintro e w4 ⟨bb, F, rfl, r4, hF4, k4⟩
      have R4 := Lib.hid r4
      have K4 := Lib.hid (K0.tr K3.out k4)
      have Q4 := Lib.hid (Q3.out.keep k4)
      clear r4 hF4 k4
      go_wp2_with fail
      refine (rprint_any R4.out HWR.out HSIM.out.ord HLN.out).mono ?_
      rintro e w5 ⟨rfl, k5⟩
      have K5 := Lib.hid (K0.tr K4.out k5)
      have Q5 := Lib.hid (Q4.out.keep k5)
      clear k5
      have hee : ((printI (l.foldl noteS [])).toList == (printI (l.foldl noteS [])).toList) = true := beq_self_eq_true _
      obtain ⟨mb2, L2, hqa⟩ := Q5.out
      have HQA := Lib.hid hqa
      clear hqa
      go_wp2_with fail
      refine (print_any HQA.out HSIM.out HWR.out HLN.out).mono ?_
      rintro e w6 ⟨rfl, k6⟩
      have K6 := Lib.hid (K0.tr K5.out k6)
      clear k6
      go_wp2_with fail
      refine (live_any _).mono ?_
      rintro e w7 ⟨rfl, k7⟩
      have K7 := Lib.hid (K0.tr K6.out k7)
      clear k7
      go_wp2
      go_ret
      exact ⟨rfl, K7.out⟩
end Go.Proofs.Ytbjpifipjcfhkaa
