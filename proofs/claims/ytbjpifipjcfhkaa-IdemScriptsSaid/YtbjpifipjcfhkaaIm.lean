/-
  A batch's numbers, and some answers that the document gives.
-/
import Derived.Test.YtbjpifipjcfhkaaIf
import Derived.Test.YtbjpifipjcfhkaaIl
namespace Go.Proofs.Ytbjpifipjcfhkaa
open Go.RowKit Fx

def sentC (epoch seq span base : Int) : BatchC := ⟨base, span, 7, epoch, seq, none, 0, 0⟩
set_option maxRecDepth 100000 in
set_option maxHeartbeats 1000000 in
theorem sent_any (epoch seq span base : Int) (w : World) : Calls Try.prog 21 #[.int .i64 epoch, .int .i64 seq, .int .i64 span, .int .i64 base] w fun e w' => Same w e (batchV (sentC epoch seq span base)) w' := by
  go_enter Try.func21, Try.ntmps21
  go_wp2
  refine bodyPost_ret (results_cell_row rfl _ _ _ _ _ _ _ rfl (heap_new _ _ _ rfl) Try.underlying31 rfl (by kernel_rfl)) rfl ?_
  exact ⟨rfl, (Keeps.refl _ _).alloc _⟩
theorem sB_live : sB = liveS := by kernel_rfl
theorem chk_live1 : checkR [] (sentC 0 1 1 0) = (0, false, 9) := by kernel_rfl
theorem not_live1 : noteM [] (sentC 0 0 2 40) = [(7, addH (newHd 0) ⟨0, 40, 2⟩)] := rfl
theorem not_live2 : noteM [(7, addH (newHd 0) ⟨0, 40, 2⟩)] (sentC 0 2 1 42) = liveM := rfl
theorem chk_live2 : checkR liveM (sentC 0 0 2 0) = (40, true, 0) := by kernel_rfl
theorem chk_live3 : checkR liveM (sentC 0 4 1 0) = (0, false, 9) := by kernel_rfl
theorem chk_live4 : checkR liveM (sentC 0 3 1 0) = (0, false, 0) := by kernel_rfl
theorem epo_live7 : (oldH liveM 7).epoch = 0 := by kernel_rfl
theorem epo_live8 : (oldH liveM 8).epoch = -1 := by kernel_rfl
theorem wf_nil : WfM [] := fun _ _ e => by cases e
theorem wf_live : WfM liveM := by
  rw [← not_live2, ← not_live1]
  exact (wf_nil.note _).note _
theorem check_st {w0 w : World} {pb : Nat} {M : List (Int × HeardC)} (h : PSt w0 w pb M) (wf : WfM M) (b : BatchC) {r : Int × Bool × Int} (hr : checkR M b = r) : Calls Try.prog 10 #[.pointer (some ⟨pb, 0, none⟩), batchV b] w fun e w' => Same w e (resV r) w' := by
  rw [← hr]
  exact check_any h wf b
theorem note_st {w0 w : World} {pb : Nat} {M M' : List (Int × HeardC)} (h : PSt w0 w pb M) (wf : WfM M) (b : BatchC) (hr : noteM M b = M') : Calls Try.prog 12 #[.pointer (some ⟨pb, 0, none⟩), batchV b] w fun e w' => e = .returned (.tuple #[]) ∧ PSt w0 w' pb M' := by
  rw [← hr]
  exact note_any h wf b
theorem epoch_st {w0 w : World} {pb : Nat} {M : List (Int × HeardC)} (h : PSt w0 w pb M) (id : Int) {r : Int} (hr : (oldH M id).epoch = r) : Calls Try.prog 14 #[.pointer (some ⟨pb, 0, none⟩), .int .i64 id] w fun e w' => Same w e (.int .i64 r) w' := by
  obtain ⟨mb, L, h⟩ := h
  rw [← hr]
  exact epoch_any h id
theorem print_st {w0 w : World} {pb : Nat} (h : PSt w0 w pb liveM) : Calls Try.prog 17 #[.pointer (some ⟨pb, 0, none⟩)] w fun e w' => Same w e (.string liveS) w' := by
  obtain ⟨mb, L, h⟩ := h
  rw [← sB_live]
  exact print_live h
set_option maxRecDepth 100000 in
set_option maxHeartbeats 4000000 in
theorem live_any (w : World) : Calls Try.prog 19 #[] w fun e w' => Same w e (.bool true) w' := by
  go_enter Try.func19, Try.ntmps19
  go_wp2_with fail
  refine (pnew_any w).mono ?_
  rintro e w1 ⟨pb, rfl, s1⟩
  have S0 := Lib.hid s1
  clear s1
  go_wp2_with fail
  refine (sent_any 0 1 1 0 _).mono ?_
  rintro e w2 ⟨rfl, k2⟩
  have S1 := Lib.hid (S0.out.keep k2)
  clear k2
  go_wp2_with fail
  refine (check_st S1.out wf_nil (sentC 0 1 1 0) chk_live1).mono ?_
  rintro e w3 ⟨rfl, k3⟩
  have S2 := Lib.hid (S1.out.keep k3)
  clear k3
  simp only [resV]
  go_wp2_with fail
  refine (sent_any 0 0 2 40 _).mono ?_
  rintro e w4 ⟨rfl, k4⟩
  have S3 := Lib.hid (S2.out.keep k4)
  clear k4
  go_wp2_with fail
  refine (note_st S3.out wf_nil (sentC 0 0 2 40) not_live1).mono ?_
  rintro e w5 ⟨rfl, s5⟩
  have S4 := Lib.hid s5
  clear s5
  go_wp2_with fail
  refine (sent_any 0 2 1 42 _).mono ?_
  rintro e w6 ⟨rfl, k6⟩
  have S5 := Lib.hid (S4.out.keep k6)
  clear k6
  go_wp2_with fail
  refine (note_st S5.out (by rw [← not_live1]; exact wf_nil.note _) (sentC 0 2 1 42) not_live2).mono ?_
  rintro e w7 ⟨rfl, s7⟩
  have S6 := Lib.hid s7
  clear s7
  go_wp2_with fail
  refine (sent_any 0 0 2 0 _).mono ?_
  rintro e w8 ⟨rfl, k8⟩
  have S7 := Lib.hid (S6.out.keep k8)
  clear k8
  go_wp2_with fail
  refine (check_st S7.out wf_live (sentC 0 0 2 0) chk_live2).mono ?_
  rintro e w9 ⟨rfl, k9⟩
  have S8 := Lib.hid (S7.out.keep k9)
  clear k9
  simp only [resV]
  go_wp2_with fail
  refine (sent_any 0 4 1 0 _).mono ?_
  rintro e w10 ⟨rfl, k10⟩
  have S9 := Lib.hid (S8.out.keep k10)
  clear k10
  go_wp2_with fail
  refine (check_st S9.out wf_live (sentC 0 4 1 0) chk_live3).mono ?_
  rintro e w11 ⟨rfl, k11⟩
  have S10 := Lib.hid (S9.out.keep k11)
  clear k11
  simp only [resV]
  go_wp2_with fail
  refine (sent_any 0 3 1 0 _).mono ?_
  rintro e w12 ⟨rfl, k12⟩
  have S11 := Lib.hid (S10.out.keep k12)
  clear k12
  go_wp2_with fail
  refine (check_st S11.out wf_live (sentC 0 3 1 0) chk_live4).mono ?_
  rintro e w13 ⟨rfl, k13⟩
  have S12 := Lib.hid (S11.out.keep k13)
  clear k13
  simp only [resV]
  go_wp2_with fail
  refine (print_st S12.out).mono ?_
  rintro e w14 ⟨rfl, k14⟩
  have HK := Lib.hid (K0.tr S12.out.k0 k14)
  clear k14
  go_wp2_with fail
  refine (parse_live _).mono ?_
  rintro e w15 ⟨qb, rfl, sq⟩
  have HK2 := Lib.hid (K0.tr HK.out sq.k0)
  have SQ := Lib.hid sq
  clear sq
  go_wp2_with fail
  refine (epoch_st SQ.out 7 epo_live7).mono ?_
  rintro e w16 ⟨rfl, kq⟩
  have SQ2 := Lib.hid (SQ.out.keep kq)
  have HK3 := Lib.hid (K0.tr HK2.out kq)
  clear kq
  go_wp2_with fail
  refine (epoch_st SQ2.out 8 epo_live8).mono ?_
  rintro e w17 ⟨rfl, kr⟩
  have HK4 := Lib.hid (K0.tr HK3.out kr)
  clear kr
  go_wp2
  go_ret
  exact ⟨rfl, HK4.out⟩
end Go.Proofs.Ytbjpifipjcfhkaa
