/-
  holds: has a disk just the document's files?
-/
import Derived.Test.YtjfblcmpdcbpgaaEq
namespace Go.Proofs.Ytjfblcmpdcbpgaa
open Go.RowKit Fx

section
variable {w0 w : World} {db mb : Nat} {D : DiskC} {L : List (ByteArray × (Nat × FileC))}
set_option maxRecDepth 100000 in
set_option maxHeartbeats 1000000 in
theorem used_w (h : DAt w0 w db D mb L) : Calls Try.prog 24 #[.pointer (some ⟨db, 0, none⟩)] w fun e w' => e = .returned (.int .i64 D.used) ∧ w' = w := by
  have c1 : w.cell? ⟨db, 1, none⟩ = some (.int .i64 D.used) := block_cell h.blk 1
  have hlt := block_lt h.blk
  clear h
  go_enter Try.func24, Try.ntmps24
  go_wp2
  go_ret
  exact ⟨rfl, rfl⟩
set_option maxRecDepth 100000 in
set_option maxHeartbeats 1000000 in
theorem room_w (h : DAt w0 w db D mb L) : Calls Try.prog 25 #[.pointer (some ⟨db, 0, none⟩)] w fun e w' => e = .returned (.int .i64 D.room) ∧ w' = w := by
  have c1 : w.cell? ⟨db, 0, none⟩ = some (.int .i64 D.room) := block_cell h.blk 0
  have hlt := block_lt h.blk
  clear h
  go_enter Try.func25, Try.ntmps25
  go_wp2
  go_ret
  exact ⟨rfl, rfl⟩
set_option maxRecDepth 100000 in
set_option maxHeartbeats 1000000 in
theorem asked_w (h : DAt w0 w db D mb L) {x : Int} (hx : askE D = x) : Calls Try.prog 26 #[.pointer (some ⟨db, 0, none⟩)] w fun e w' => e = .returned (.int .i64 x) ∧ w' = w := by
  have c2 : w.cell? ⟨db, 2, none⟩ = some (.int .i64 D.fuse) := block_cell h.blk 2
  have hlt := block_lt h.blk
  subst hx
  unfold askE
  clear h
  by_cases h1 : D.fuse = 0
  · rw [if_pos h1]
    rw [h1] at c2
    go_enter Try.func26, Try.ntmps26
    go_wp2
    go_ret
    exact ⟨rfl, rfl⟩
  · rw [if_neg h1]
    go_enter Try.func26, Try.ntmps26
    go_wp2
    go_ret
    exact ⟨rfl, rfl⟩
set_option maxRecDepth 100000 in
set_option maxHeartbeats 1000000 in
theorem up_w (h : DAt w0 w db D mb L) {x : Bool} (hx : decide (D.fuse ≠ 0) = x) : Calls Try.prog 18 #[.pointer (some ⟨db, 0, none⟩)] w fun e w' => e = .returned (.bool x) ∧ w' = w := by
  cases x with
  | false =>
    have HA := Lib.hid (asked_w h (x := 7) (by unfold askE; rw [if_pos (by simpa using hx)]))
    clear h hx
    go_enter Try.func18, Try.ntmps18
    go_wp2_with fail
    refine HA.out.mono ?_
    rintro e w1 ⟨rfl, rfl⟩
    go_wp2
    go_ret
    exact ⟨rfl, rfl⟩
  | true =>
    have HA := Lib.hid (asked_w h (x := 0) (by unfold askE; rw [if_neg (by simpa using hx)]))
    clear h hx
    go_enter Try.func18, Try.ntmps18
    go_wp2_with fail
    refine HA.out.mono ?_
    rintro e w1 ⟨rfl, rfl⟩
    go_wp2
    go_ret
    exact ⟨rfl, rfl⟩
end
theorem K0dr (w : World) (n : Nat) : K0 w (w.drewN n) := (Keeps.refl (fun _ => False) w).drewN n
set_option maxRecDepth 100000 in
set_option maxHeartbeats 8000000 in
theorem holds_any {w0 w : World} {db b n : Nat} {D R : DiskC} (h : JSt (fun _ => False) w0 w0 w db D b R) (hg : Good D R n) (hn : n ≤ 900) :
    Calls Try.prog 23 #[.pointer (some ⟨db, 0, none⟩), .pointer (some ⟨b, 0, none⟩)] w fun e w' => e = .returned (.bool true) ∧ K0 w w' := by
  obtain ⟨mb, L, F, h1, ⟨v, h2⟩, _, _⟩ := h
  have hlr := hg.lenR
  have hld := hg.len
  have hwr := hg.wfR
  obtain ⟨z, hz⟩ : ∃ z : Int, D.used = z := ⟨_, rfl⟩
  obtain ⟨rm, hrm⟩ : ∃ rm : Int, D.room = rm := ⟨_, rfl⟩
  obtain ⟨up, hup⟩ : ∃ x : Bool, decide (D.fuse ≠ 0) = x := ⟨_, rfl⟩
  have HU1 : Hid (∀ m : Nat, Calls Try.prog 18 #[.pointer (some ⟨db, 0, none⟩)] (w.drewN m) fun e w' => e = .returned (.bool up) ∧ w' = w.drewN m) := fun m => up_w (h1.keep (K0dr w m)) hup
  have HU2 : Hid (∀ m : Nat, Calls Try.prog 43 #[.pointer (some ⟨b, 0, none⟩)] (w.drewN m) fun e w' => e = .returned (.bool up) ∧ w' = w.drewN m) := fun m => by
    have h9 := rup_any (h2.keep (K0dr w m) (fun _ _ e => e))
    rw [hg.sim.fuse, show (D.fuse != 0) = up by rw [← hup]; simp [bne, decide_not]; rfl] at h9
    exact h9
  have HZ1 : Hid (∀ m : Nat, Calls Try.prog 24 #[.pointer (some ⟨db, 0, none⟩)] (w.drewN m) fun e w' => e = .returned (.int .i64 z) ∧ w' = w.drewN m) := fun m => by
    have h9 := used_w (h1.keep (K0dr w m))
    rw [hz] at h9
    exact h9
  have HZ2 : Hid (∀ m : Nat, Calls Try.prog 44 #[.pointer (some ⟨b, 0, none⟩)] (w.drewN m) fun e w' => e = .returned (.int .i64 z) ∧ w' = w.drewN m) := fun m => by
    have h9 := rused_any (h2.keep (K0dr w m) (fun _ _ e => e)) (by omega) (by have := hwr.used; have := hwr.most; have := hwr.room; omega)
    rw [← hwr.used, hg.sim.used, hz] at h9
    exact h9
  have HRM : Hid (∀ m : Nat, Calls Try.prog 25 #[.pointer (some ⟨db, 0, none⟩)] (w.drewN m) fun e w' => e = .returned (.int .i64 rm) ∧ w' = w.drewN m) := fun m => by
    have h9 := room_w (h1.keep (K0dr w m))
    rw [hrm] at h9
    exact h9
  have c0 : w.cell? ⟨b, 0, none⟩ = some (.int .i64 rm) := by rw [← hrm, ← hg.sim.room]; exact block_cell h2.blk 0
  have hb := block_lt h2.blk
  have H1 := Lib.hid h1
  have H2 := Lib.hid h2
  have HG := Lib.hid hg
  have HLD : Hid (D.files.length ≤ 1000) := by show _ ≤ _; omega
  obtain ⟨va, vc, hv⟩ := own_slice h2.row
  subst hv
  have HV := Lib.hid hlr
  clear h1 h2 hg hlr hld hwr hz hrm hup
  cases up
  all_goals
    go_enter Try.func23, Try.ntmps23
    go_wp2
    go_quiet ((first | (go_at_call 18; exact Calls.quiet_of_same (HU1.out _)) | (go_at_call 43; exact Calls.quiet_of_same (HU2.out _)) | (go_at_call 24; exact Calls.quiet_of_same (HZ1.out _)) | (go_at_call 44; exact Calls.quiet_of_same (HZ2.out _)) | (go_at_call 25; exact Calls.quiet_of_same (HRM.out _))))
    have HKQ : Hid (K0 w (w.drewN nq)) := K0dr w nq
    generalize w.drewN nq = wq at HKQ ⊢
    go_wp2_with fail
    refine (copy_at (H1.out.keep HKQ.out) HG.out.wf HLD.out).mono ?_
    rintro e w1 ⟨F2, rfl, ⟨mb2, L2, h5⟩, hag⟩
    have hsd : SameD D ⟨D.room, D.used, D.fuse, F2⟩ := by
      have hkd : KD F2 := by
        have := h5.keys.amap (fun p : Nat × FileC => p.2)
        rw [h5.core] at this
        exact this
      exact ⟨rfl, rfl, rfl, hag, hkd⟩
    have HGC := Lib.hid (hsd.good HG.out)
    generalize wq.heap.size + 1 = cb at h5 ⊢
    have HF5 := Lib.hid (fuse_at h5 (-1))
    clear h5 hag hsd c0 hb
    go_wp2_with fail
    refine HF5.out.mono ?_
    rintro e w2 ⟨rfl, h6⟩
    have HGF := Lib.hid (HGC.out.dfuse (m := -1) (by omega))
    have hfu : ¬ (dfuseC ⟨D.room, D.used, D.fuse, F2⟩ (-1)).fuse = 0 := by unfold dfuseC; rw [if_neg (by omega)]; show ¬ (-1 : Int) = 0; omega
    have HFU := Lib.hid hfu
    clear hfu
    generalize dfuseC ⟨D.room, D.used, D.fuse, F2⟩ (-1) = C at h6 HGF HFU
    have hrl : (dfuseC R (-1)).files = R.files := by unfold dfuseC; rw [if_neg (by omega)]
    have HRL := Lib.hid hrl
    have HN := Lib.hid (names_at h6 HGF.out.wf (by have := HGF.out.len; omega))
    have H6 := Lib.hid h6
    clear h6 hrl
    go_wp2_with fail
    refine HN.out.mono ?_
    rintro e w3 ⟨a, c, ss, rfl, hS, k3, _, hnz⟩
    have hss : ss = keysF R.files := by rw [← HRL.out]; exact HGF.out.sim.names HGF.out.wf (hnz HFU.out).1 (hnz HFU.out).2
    have hkw : K0 w w3 := K0.tr HKQ.out (K0.tr H6.out.k0 k3)
    have HKW := Lib.hid hkw
    have H7 := Lib.hid (H6.out.keep k3)
    have hb3 := (H2.out.keep hkw (fun _ _ e => e)).blk
    have hx : w3.cell? ⟨b, 1, none⟩ = some (.slice va R.files.length vc) := block_cell hb3 1
    have hb := block_lt hb3
    have hsl : ss.length = R.files.length := by rw [hss, keysF_len]
    have HSS := Lib.hid hss
    have HSL := Lib.hid hsl
    have HST := Lib.hid hS
    have hsm := hS.len
    rw [hsl]
    clear hS k3 hnz hss hkw hb3 hsl
    go_wp2
    go_loopw [7] (fun i wr => ∃ k : Nat, i = .int .i64 k ∧ k ≤ R.files.length ∧ K0 w3 wr) (fun i _ => R.files.length - (intOf i).toNat)
    case atStart => exact ⟨0, rfl, by omega, Keeps.refl _ _⟩
    case round =>
      obtain ⟨k, rfl, hk, hkr⟩ := hrel
      by_cases hlt : k < R.files.length
      · have hat := H2.out.keep (K0.tr HKW.out hkr) (fun _ _ e => e)
        have hsne : ss ≠ [] := fun e => by have := HSL.out; rw [e] at this; simp at this; omega
        obtain ⟨sr, rfl, sl, sc⟩ := (HST.out.keep hkr).row hsne
        have hkss : k < ss.length := by have := HSL.out; omega
        have d0 := sc k hkss
        have hnm : ss[k] = R.files[k].1 := by
          have h9 : k < (keysF R.files).length := by rw [keysF_len]; exact hlt
          have h8 := List.getElem_of_eq HSS.out hkss
          rw [h8]
          exact keysF_get hlt h9
        rw [hnm] at d0
        have hfc := hat.form
        rcases hfc with ⟨hnil, _⟩ | ⟨r, cap, e9, hrb, hrl, hcap, _⟩
        · rw [hnil] at hlt; exact absurd hlt (Nat.not_lt_zero _)
        simp only [Value.slice.injEq] at e9
        obtain ⟨rfl, _, rfl⟩ := e9
        obtain ⟨f0, f1, _⟩ := hat.cell rfl k hlt
        have hx1 : wr.cell? ⟨b, 1, none⟩ = some (.slice (some ⟨r, 0, none⟩) R.files.length vc) := block_cell hat.blk 1
        have hb1 := block_lt hat.blk
        have hgx : aget C.files R.files[k].1 = some R.files[k].2 := by
          rw [← HGF.out.sim.get, HRL.out]
          exact aget_atI HG.out.wfR.keys hlt
        have hfe : fileE C R.files[k].1 = 0 := by unfold fileE; rw [if_neg HFU.out, hgx]; rfl
        have hrv : dreadV C R.files[k].1 = R.files[k].2.bytes := by unfold dreadV oldF; rw [if_pos hfe, hgx]; rfl
        have HRD := read_at (H7.out.keep hkr) R.files[k].1
        rw [hfe, hrv] at HRD
        generalize R.files[k].2.bytes = by1 at f1 HRD
        generalize R.files[k].1 = nm1 at d0 f0 HRD
        have HRD := Lib.hid HRD
        have HKR := Lib.hid hkr
        have HLT := Lib.hid hlt
        have i0 : (0 : Int) ≤ k := by omega
        have i1 : (k : Int) < R.files.length := by omega
        have HC0 : Hid (∀ wx, K0 wr wx → wx.cell? ⟨sr, k, none⟩ = some (.string nm1) ∧ wx.cell? ⟨r, k * 3, none⟩ = some (.string nm1) ∧ wx.cell? ⟨r, k * 3 + 1, none⟩ = some (.string by1) ∧ wx.cell? ⟨b, 1, none⟩ = some (.slice (some ⟨r, 0, none⟩) R.files.length vc) ∧ sr < wx.heap.size ∧ r < wx.heap.size ∧ b < wx.heap.size) := by
          show ∀ _, _ → _
          intro wx hkx
          have hs := hkx.size
          exact ⟨hkx.cell' d0 (fun e => e), hkx.cell' f0 (fun e => e), hkx.cell' f1 (fun e => e), hkx.cell' hx1 (fun e => e), by omega, by omega, by omega⟩
        clear hat sc hgx hfe hrv hnm hsne f0 f1 hx1 hx hb hb1 hrl hkr
        go_wp2_with fail
        refine HRD.out.mono ?_
        rintro e w4 ⟨rfl, k4⟩
        obtain ⟨g0, g1, g2, g3, g4, g5, g6⟩ := HC0.out w4 k4
        have HK4 := Lib.hid (K0.tr HKR.out k4)
        clear k4 d0 sl
        go_wp2
        go_quiet (fail)
        go_wp2
        go_roundw
        case rel => exact ⟨k + 1, by go_num, HLT.out, HK4.out.drewN _⟩
        case measure => have := HLT.out; simp [intOf]; omega
      · have i1 : ¬ (k : Int) < R.files.length := by omega
        have HKE := Lib.hid (K0.tr HKW.out hkr)
        clear hkr
        go_wp2
        go_ret
        exact ⟨rfl, HKE.out⟩
end Go.Proofs.Ytjfblcmpdcbpgaa
