/-
  Rebuild: the program's and the document's.
-/
import Derived.Test.YtbjpifipjcfhkaaJi
import Derived.Test.YtbjpifipjcfhkaaIt
namespace Go.Proofs.Ytbjpifipjcfhkaa
open Go.RowKit Fx

theorem stable_bat : Stable rBatch := fun _ _ _ _ _ h => h
theorem sim_fold : ∀ (l : List BatchC) {M R : List (Int × HeardC)}, SimI M R → SimI (l.foldl noteM M) (l.foldl noteS R)
  | [], _, _, h => h
  | b :: l, _, _, h => sim_fold l (h.note b)
theorem wf_fold : ∀ (l : List BatchC) {M : List (Int × HeardC)}, WfR M → WfR (l.foldl noteM M)
  | [], _, h => h
  | b :: l, _, h => wf_fold l (h.note b)
theorem len_fold : ∀ (l : List BatchC) (M : List (Int × HeardC)), (l.foldl noteM M).length ≤ M.length + l.length
  | [], _ => Nat.le_refl _
  | b :: l, M => by
    have h1 := len_fold l (noteM M b)
    have h2 := noteM_len M b
    show (l.foldl noteM (noteM M b)).length ≤ M.length + (l.length + 1)
    omega
theorem fold_next {α β : Type} (f : α → β → α) (x : α) {l : List β} {k : Nat} (h : k < l.length) : (l.take (k + 1)).foldl f x = f ((l.take k).foldl f x) l[k] := by
  rw [List.take_succ_eq_append_getElem h, List.foldl_append]
  rfl
set_option maxRecDepth 100000 in
set_option maxHeartbeats 4000000 in
theorem rebuild_any (w : World) (a : Option Addr) (cap : Nat) (l : List BatchC) (hs : SlAt 6 rBatch w a cap l) :
    Calls Try.prog 22 #[.slice a l.length cap] w fun e w' => ∃ pb, e = .returned (.pointer (some ⟨pb, 0, none⟩)) ∧ PSt w w' pb (l.foldl noteM []) := by
  have hm := hs.len
  have HS := Lib.hid hs
  clear hs
  go_enter Try.func22, Try.ntmps22
  go_wp2_with fail
  refine (pnew_any w).mono ?_
  rintro e w1 ⟨pb, rfl, s1⟩
  have S1 := Lib.hid s1
  clear s1
  go_wp2
  go_loopw [9] (fun i wr => ∃ k : Nat, i = .int .i64 k ∧ k ≤ l.length ∧ PSt w wr pb ((l.take k).foldl noteM [])) (fun i _ => l.length - (intOf i).toNat)
  case atStart => exact ⟨0, rfl, by omega, S1.out⟩
  case round =>
    obtain ⟨k, rfl, hk, hr⟩ := hrel
    by_cases hlt : k < l.length
    · obtain ⟨b, off, rfl, hrow⟩ := HS.out.row hlt
      obtain ⟨x0, x1, x2, x3, x4, x5, hbl⟩ := bat_cells hrow hr.k0 k hlt
      have HNX := Lib.hid (fold_next noteM [] hlt)
      have HWF := Lib.hid (wf_fold (l.take k) WfR.nil).wfm
      have HR := Lib.hid hr
      have HLT := Lib.hid hlt
      generalize l[k] = bt at x0 x1 x2 x3 x4 x5 HNX
      have i0 : (0 : Int) ≤ k := by omega
      have i1 : (k : Int) < l.length := by omega
      clear hrow hr S1
      go_wp2_with fail
      refine (note_any (HR.out.keep ((Keeps.refl _ _).alloc _)) HWF.out bt).mono ?_
      rintro e w5 ⟨rfl, p5⟩
      have P5 := Lib.hid p5
      clear p5
      go_wp2
      go_roundw
      case rel => exact ⟨k + 1, by go_num, HLT.out, by rw [HNX.out]; exact P5.out⟩
      case measure => have := HLT.out; simp [intOf]; omega
    · obtain rfl : k = l.length := by omega
      rw [List.take_length] at hr
      go_wp2
      go_ret
      exact ⟨_, rfl, hr⟩
def RebP (w : World) (R : List (Int × HeardC)) (e : Ending) (w' : World) : Prop := ∃ bb F, e = .returned (.pointer (some ⟨bb, 0, none⟩)) ∧ RPst w' F bb R ∧ (∀ k, F k → w.heap.size ≤ k) ∧ K0 w w'
theorem newRP (w : World) : RPst (w.alloc (.cells #[.slice none 0 0] 28)) (fun k => k = w.heap.size) w.heap.size [] := by
  refine ⟨.slice none 0 0, [], ⟨heap_new _ _ _ rfl, World.ownsRow_nil _ _ _ _, rfl, fun k e => ?_, (fun k e => by cases e), (fun x hx => by cases hx)⟩, rfl⟩
  rw [e]; simp
set_option maxRecDepth 100000 in
set_option maxHeartbeats 4000000 in
theorem rrebuild_any (w : World) (a : Option Addr) (cap : Nat) (l : List BatchC) (hs : SlAt 6 rBatch w a cap l) (hl : l.length ≤ 10000) :
    Calls Try.prog 23 #[.slice a l.length cap] w (RebP w (l.foldl noteS [])) := by
  have hm := hs.len
  have HS := Lib.hid hs
  clear hs
  have S1 := Lib.hid (newRP w)
  go_enter Try.func23, Try.ntmps23
  go_wp2
  go_loopw [4] (fun i wr => ∃ k : Nat, i = .int .i64 k ∧ k ≤ l.length ∧ ∃ F, RPst wr F w.heap.size ((l.take k).foldl noteS []) ∧ (∀ k, F k → w.heap.size ≤ k) ∧ K0 w wr) (fun i _ => l.length - (intOf i).toNat)
  case atStart => exact ⟨0, rfl, by omega, _, S1.out, fun k e => by have e : k = w.heap.size := e; omega, (Keeps.refl _ _).alloc _⟩
  case round =>
    obtain ⟨k, rfl, hk, F, hr, hF, hk0⟩ := hrel
    by_cases hlt : k < l.length
    · obtain ⟨b, off, rfl, hrow⟩ := HS.out.row hlt
      obtain ⟨x0, x1, x2, x3, x4, x5, hbl⟩ := bat_cells hrow hk0 k hlt
      have HNX := Lib.hid (fold_next noteS [] hlt)
      have HSM := Lib.hid (sim_fold (l.take k) SimI.nil)
      have HWF : Hid (WfM ((l.take k).foldl noteS [])) := ((wf_fold (l.take k) WfR.nil).look HSM.out.look).wfm
      have HLN : Hid (((l.take k).foldl noteS []).length ≤ 100000) := by
        show _ ≤ _
        have h1 := len_fold (l.take k) []
        rw [HSM.out.len, List.length_take] at h1
        simp at h1
        omega
      have HR := Lib.hid hr
      have HF := Lib.hid hF
      have HK0 := Lib.hid hk0
      have HLT := Lib.hid hlt
      generalize l[k] = bt at x0 x1 x2 x3 x4 x5 HNX
      have i0 : (0 : Int) ≤ k := by omega
      have i1 : (k : Int) < l.length := by omega
      clear hrow hr S1 hF hk0
      go_wp2_with fail
      refine (rnote_any bt HR.out HSM.out.ord HWF.out HLN.out).mono ?_
      rintro e w5 ⟨rfl, F2, p5, hF2, k5⟩
      have P5 := Lib.hid p5
      have K5 : Hid (K0 w w5) := HK0.out.trans k5 (fun k hlt e => by have := HF.out k e; omega)
      have HF5 : Hid (∀ k, F2 k → w.heap.size ≤ k) := fun k e => (hF2 k e).elim (HF.out k) (fun e => Nat.le_trans HK0.out.size e)
      clear p5 hF2 k5
      go_wp2
      go_roundw
      case rel => exact ⟨k + 1, by go_num, HLT.out, F2, by rw [HNX.out]; exact P5.out, HF5.out, K5.out⟩
      case measure => have := HLT.out; simp [intOf]; omega
    · obtain rfl : k = l.length := by omega
      rw [List.take_length] at hr
      go_wp2
      go_ret
      exact ⟨_, F, rfl, hr, hF, hk0⟩
end Go.Proofs.Ytbjpifipjcfhkaa
