/-
  DiskFuse: its states, its walk.
-/
import Derived.Test.YtjfblcmpdcbpgaaDj
namespace Go.Proofs.Ytjfblcmpdcbpgaa
open Go.RowKit Fx

def tX : ByteArray := ⟨#[120]⟩
def tY : ByteArray := ⟨#[121]⟩
theorem tA_named : namedB tA = true := by kernel_rfl
theorem tX_size : tX.size = 1 := rfl
theorem tY_size : tY.size = 1 := rfl
def fD (N : Nat) : Nat → DiskC
  | 0 => dfuseC (newD 1000) N
  | i + 1 => dappC (fD N i) tA tX
structure FS (N i : Nat) (D : DiskC) : Prop where
  room : D.room = 1000
  used : D.used = (min i N : Nat)
  fuse : D.fuse = (N : Int) - (min i N : Nat)
  files : (min i N = 0 ∧ D.files = []) ∨ ∃ b : ByteArray, b.size = min i N ∧ 0 < b.size ∧ D.files = [(tA, ⟨b, 0⟩)]
theorem FS.ok {N i : Nat} {D : DiskC} (h : FS N i D) (hi : i < N) (hN : N ≤ 40) : dappE D tA tX = 0 := by
  have h1 := h.room
  have h2 := h.used
  have h3 := h.fuse
  unfold dappE
  rw [if_neg (by omega), if_pos tA_named, if_neg (by rw [tX_size]; omega)]
theorem FS.down {N i : Nat} {D : DiskC} (h : FS N i D) (hi : N ≤ i) : dappE D tA tX = 7 ∧ D.fuse = 0 := by
  have h3 := h.fuse
  have : D.fuse = 0 := by omega
  exact ⟨by unfold dappE; rw [if_pos this], this⟩
theorem FS.next {N i : Nat} {D : DiskC} (h : FS N i D) (hN : N ≤ 40) : FS N (i + 1) (dappC D tA tX) := by
  have h1 := h.room
  have h2 := h.used
  have h3 := h.fuse
  by_cases hi : i < N
  · unfold dappC
    rw [if_pos (h.ok hi hN)]
    unfold burn
    dsimp only
    rw [if_pos (by omega)]
    refine ⟨h1, by show D.used + (tX.size : Int) = _; rw [tX_size]; omega, by show D.fuse - 1 = _; omega, .inr ?_⟩
    rcases h.files with ⟨h4, h5⟩ | ⟨b, h4, h5, h6⟩
    · refine ⟨(⟨#[]⟩ : ByteArray) ++ tX, ?_, ?_, ?_⟩
      · rw [empty_app, tX_size]; omega
      · rw [empty_app, tX_size]; omega
      · show aput D.files tA ⟨(oldF D tA).bytes ++ tX, (oldF D tA).safe⟩ = _
        unfold oldF
        rw [h5]
        rfl
    · refine ⟨b ++ tX, ?_, ?_, ?_⟩
      · simp only [ByteArray.size_append, tX_size]; omega
      · simp only [ByteArray.size_append, tX_size]; omega
      · show aput D.files tA ⟨(oldF D tA).bytes ++ tX, (oldF D tA).safe⟩ = _
        unfold oldF
        rw [h6]
        simp [aput, aget]
  · have hd := (h.down (by omega)).1
    have : dappC D tA tX = D := by unfold dappC; rw [if_neg (by rw [hd]; decide)]
    rw [this]
    have e : min (i + 1) N = min i N := by omega
    exact ⟨h1, by rw [e]; exact h2, by rw [e]; exact h3, by rw [e]; exact h.files⟩
theorem fD_ok {N : Nat} (hN : N ≤ 40) : ∀ i, FS N i (fD N i)
  | 0 => by
    have : fD N 0 = ⟨1000, 0, N, []⟩ := by
      show dfuseC (newD 1000) N = _
      unfold dfuseC
      rw [if_neg (by omega)]
      rfl
    rw [this]
    exact ⟨rfl, by simp, by simp, .inl ⟨by simp, rfl⟩⟩
  | i + 1 => (fD_ok hN i).next hN
theorem fD_e {N : Nat} (hN : N ≤ 40) (i : Nat) : dappE (fD N i) tA tX = if i < N then 0 else 7 := by
  split
  · rename_i h; exact (fD_ok hN i).ok h hN
  · rename_i h; exact ((fD_ok hN i).down (by omega)).1
/-- Behind the crash, and with one byte more. -/
theorem fuse_end {N : Nat} {D : DiskC} (h : FS N 50 D) (hN : N ≤ 40) {names : List ByteArray} (hp : names.Perm (D.files.map (·.1))) :
    dappE (upD (crashL [1000] D names).1) tA tY = 0 ∧ ∃ b : ByteArray, dreadV (dappC (upD (crashL [1000] D names).1) tA tY) tA = b ∧ b.size = N + 1 ∧ fileE (dappC (upD (crashL [1000] D names).1) tA tY) tA = 0 ∧ (dappC (upD (crashL [1000] D names).1) tA tY).fuse = -1 := by
  obtain ⟨B, hB, hD⟩ : ∃ B : ByteArray, B.size = N ∧ ((N = 0 ∧ B = ⟨#[]⟩ ∧ upD (crashL [1000] D names).1 = ⟨1000, N, -1, []⟩) ∨ upD (crashL [1000] D names).1 = ⟨1000, N, -1, [(tA, ⟨B, N⟩)]⟩) := by
    have h1 := h.room
    have h2 := h.used
    rcases h.files with ⟨h4, h5⟩ | ⟨b, h4, h5, h6⟩
    · rw [h5] at hp
      obtain rfl := List.perm_nil.1 hp
      refine ⟨⟨#[]⟩, by show 0 = N; omega, .inl ⟨by omega, rfl, ?_⟩⟩
      show (⟨D.room, D.used, -1, D.files⟩ : DiskC) = _
      rw [h1, h2, h5]
      have : (min 50 N : Nat) = N := by omega
      rw [this]
    · rw [h6] at hp
      obtain rfl := List.perm_singleton.1 hp
      refine ⟨b, by omega, .inr ?_⟩
      have ho : oldF D tA = ⟨b, 0⟩ := by unfold oldF; rw [h6]; simp [aget]
      have hk : kOf [1000] 0 ⟨b, 0⟩ = b.size := by
        unfold kOf
        simp only [List.getElem?_cons_zero]
        omega
      have hkf : keepF ⟨b, 0⟩ b.size = ⟨b, 0⟩ := by
        unfold keepF
        simp
      have hc : crashL [1000] D [tA] = (safeD (keepD D tA b.size) tA, 1) := by
        show crashS [1000] (D, 0) tA = _
        unfold crashS
        dsimp only
        rw [ho]
        dsimp only
        rw [if_neg (by omega), hk]
        simp
      have hkd : keepD D tA b.size = ⟨1000, N, D.fuse, [(tA, ⟨b, 0⟩)]⟩ := by
        unfold keepD
        rw [ho, hkf, h1, h2, h6]
        have : (min 50 N : Nat) = N := by omega
        simp [aput, this]
      rw [hc, hkd]
      have hbN : b.size = N := by omega
      simp [upD, safeD, oldF, aput, aget, hbN]
  have hE : ∀ F, D.fuse = D.fuse → dappE ⟨1000, (N : Int), -1, F⟩ tA tY = 0 := fun F _ => dappE_zero rfl tA_named (by rw [tY_size]; show (N : Int) + _ ≤ 1000; omega)
  have hC : ∀ F, dappC ⟨1000, (N : Int), -1, F⟩ tA tY = ⟨1000, (N : Int) + 1, -1, aput F tA ⟨(oldF ⟨1000, (N : Int), -1, F⟩ tA).bytes ++ tY, (oldF ⟨1000, (N : Int), -1, F⟩ tA).safe⟩⟩ := fun F => by
    rw [dapp_eq rfl tA_named (by rw [tY_size]; show (N : Int) + _ ≤ 1000; omega)]
    rfl
  rcases hD with ⟨h0, rfl, hD⟩ | hD
  · rw [hD, hC]
    have hg : aget (aput ([] : List (ByteArray × FileC)) tA ⟨(oldF ⟨1000, (N : Int), -1, []⟩ tA).bytes ++ tY, (oldF ⟨1000, (N : Int), -1, []⟩ tA).safe⟩) tA = some ⟨(⟨#[]⟩ : ByteArray) ++ tY, 0⟩ := by rw [aget_aput, if_pos rfl]; rfl
    exact ⟨hE _ rfl, _, dread_eq rfl hg, by show ((⟨#[]⟩ : ByteArray) ++ tY).size = _; rw [empty_app, tY_size]; omega, fileE_one rfl hg, rfl⟩
  · rw [hD, hC]
    have hg : aget (aput [(tA, (⟨B, N⟩ : FileC))] tA ⟨(oldF ⟨1000, (N : Int), -1, [(tA, ⟨B, N⟩)]⟩ tA).bytes ++ tY, (oldF ⟨1000, (N : Int), -1, [(tA, ⟨B, N⟩)]⟩ tA).safe⟩) tA = some ⟨B ++ tY, N⟩ := by
      rw [aget_aput, if_pos rfl]
      simp [oldF, aget]
    exact ⟨hE _ rfl, _, dread_eq rfl hg, by show (B ++ tY).size = _; simp only [ByteArray.size_append, tY_size]; omega, fileE_one rfl hg, rfl⟩
theorem fD_len {N i : Nat} {D : DiskC} (h : FS N i D) : D.files.length ≤ 1000 := by
  rcases h.files with ⟨_, h5⟩ | ⟨b, _, _, h6⟩
  · rw [h5]; simp
  · rw [h6]; simp
section
variable {w0 w : World} {db : Nat} {D : DiskC}
set_option maxRecDepth 100000 in
set_option maxHeartbeats 1000000 in
theorem names_down (h : DOk w0 w db D) (hf : D.fuse = 0) : Calls Try.prog 19 #[.pointer (some ⟨db, 0, none⟩)] w fun e w' => e = .returned (.slice none 0 0) ∧ DOk w0 w' db D := by
  have h0 := Lib.hid h
  obtain ⟨⟨mb, L, h1⟩, wf⟩ := h
  have HA := asked_at h1
  unfold askE at HA
  rw [if_pos hf] at HA
  have HA := Lib.hid HA
  clear h1 wf hf
  go_enter Try.func19, Try.ntmps19
  go_wp2_with fail
  refine HA.out.mono ?_
  rintro e w1 ⟨rfl, k1⟩
  have HR := Lib.hid (h0.out.keep k1)
  clear k1
  go_wp2
  go_ret
  exact ⟨rfl, HR.out⟩
end
set_option maxRecDepth 100000 in
set_option maxHeartbeats 4000000 in
theorem fuse_any (n : Int) (w0 : World) : Calls Try.prog 5 #[.int .i64 n] w0 fun e w' => Same w0 e (.bool true) w' := by
  by_cases h1 : n < 0
  · go_enter Try.func5, Try.ntmps5
    go_wp2_with fail
    refine (live_any _).mono ?_
    rintro e w2 ⟨rfl, k2⟩
    go_wp2
    go_ret
    exact ⟨rfl, k2⟩
  · by_cases h2 : 40 < n
    · go_enter Try.func5, Try.ntmps5
      go_wp2_with fail
      refine (live_any _).mono ?_
      rintro e w2 ⟨rfl, k2⟩
      go_wp2
      go_ret
      exact ⟨rfl, k2⟩
    · obtain ⟨N, rfl⟩ : ∃ N : Nat, n = N := ⟨n.toNat, by omega⟩
      have hN : N ≤ 40 := by omega
      have HN := Lib.hid hN
      have H0 := Lib.hid (st_new 1000 w0 (by omega))
      have hfe : dfuseE (N : Int) = 0 := by unfold dfuseE; rw [if_neg (by omega)]
      go_enter Try.func5, Try.ntmps5
      go_wp2_with fail
      refine H0.out.mono ?_
      rintro e w1 ⟨db, rfl, s1⟩
      have F1 := st_fuse s1 N (by omega)
      rw [hfe] at F1
      have F1 := Lib.hid F1
      clear s1 H0 hfe
      go_wp2_with fail
      refine F1.out.mono ?_
      rintro e w2 ⟨rfl, s2⟩
      have HS2 : Hid (DOk w0 w2 db (fD N 0)) := s2
      clear s2 F1
      go_wp2
      go_loopw [5, 6] (fun c i wr => ∃ k : Nat, i = .int .i64 k ∧ k ≤ 50 ∧ c = .int .i64 (min k N : Nat) ∧ DOk w0 wr db (fD N k)) (fun _ i _ => 50 - (intOf i).toNat)
      case atStart => exact ⟨0, rfl, by omega, by simp, HS2.out⟩
      case round =>
        obtain ⟨k, rfl, hk, rfl, hs⟩ := hrel
        by_cases hlt : k < 50
        · have A := st_app hs tA tX (by decide)
          rw [fD_e HN.out k] at A
          by_cases hkN : k < N
          · rw [if_pos hkN] at A
            have A := Lib.hid A
            have hm : (min k N : Nat) = k := by omega
            rw [hm]
            have HM : Hid ((min (k + 1) N : Nat) = k + 1) := by show _ = _; omega
            clear hs hm
            go_wp2_with fail
            refine A.out.mono ?_
            rintro e w3 ⟨rfl, s3⟩
            have HS3 : Hid (DOk w0 w3 db (fD N (k + 1))) := s3
            clear s3
            go_wp2
            go_roundw
            case rel => exact ⟨k + 1, by go_num, by omega, by rw [HM.out]; go_num, HS3.out⟩
            case measure => simp [intOf]; omega
          · rw [if_neg hkN] at A
            have A := Lib.hid A
            have hm : (min k N : Nat) = N := by omega
            rw [hm]
            have HM : Hid ((min (k + 1) N : Nat) = N) := by show _ = _; omega
            clear hs hm
            go_wp2_with fail
            refine A.out.mono ?_
            rintro e w3 ⟨rfl, s3⟩
            have HS3 : Hid (DOk w0 w3 db (fD N (k + 1))) := s3
            clear s3
            go_wp2
            go_roundw
            case rel => exact ⟨k + 1, by go_num, by omega, by rw [HM.out], HS3.out⟩
            case measure => simp [intOf]; omega
        · obtain rfl : k = 50 := by omega
          have hm : (min 50 N : Nat) = N := by omega
          rw [hm]
          have hfs := fD_ok HN.out 50
          have hz := (hfs.down (by omega)).2
          have U1 := st_up hs
          rw [show decide ((fD N 50).fuse ≠ 0) = false by simp [hz]] at U1
          have U1 := Lib.hid U1
          have HZ := Lib.hid hz
          have HFS := Lib.hid hfs
          clear hs hm hz hfs
          go_wp2_with fail
          refine U1.out.mono ?_
          rintro e w3 ⟨rfl, s3⟩
          have NM := Lib.hid (names_down s3 HZ.out)
          clear s3
          go_wp2_with fail
          refine NM.out.mono ?_
          rintro e w4 ⟨rfl, s4⟩
          have C1 := Lib.hid (st_crash1 s4 1000 (by omega) (fD_len HFS.out))
          clear s4
          go_wp2_with fail
          refine C1.out.mono ?_
          rintro e w5 ⟨names, hp, rfl, s5⟩
          obtain ⟨e1, b, e2, e3, e4, e5⟩ := fuse_end HFS.out HN.out hp
          have A1 := st_app s5 tA tY (by decide)
          rw [e1] at A1
          have A1 := Lib.hid A1
          have E2 := Lib.hid e2
          have E4 := Lib.hid e4
          have E5 := Lib.hid e5
          generalize (crashL [1000] (fD N 50) names).2 = cn
          clear s5 hp e1 e2 e4 e5
          go_wp2_with fail
          refine A1.out.mono ?_
          rintro e w6 ⟨rfl, s6⟩
          have R1 := st_read s6 tA
          rw [E2.out, E4.out] at R1
          have R1 := Lib.hid R1
          clear s6
          go_wp2_with fail
          refine R1.out.mono ?_
          rintro e w7 ⟨rfl, s7⟩
          have U2 := st_up s7
          rw [E5.out] at U2
          have U2 : Hid (Calls Try.prog 18 #[.pointer (some ⟨db, 0, none⟩)] w7 fun e w' => e = .returned (.bool true) ∧ DOk w0 w' db (dappC (upD (crashL [1000] (fD N 50) names).1) tA tY)) := U2
          have e6 : (b.size : Int) = N + 1 := by omega
          clear s7 e3
          go_wp2_with fail
          refine U2.out.mono ?_
          rintro e w8 ⟨rfl, s8⟩
          have HK := Lib.hid s8.1.k0
          clear s8
          go_wp2_with fail
          refine (live_any _).mono ?_
          rintro e w9 ⟨rfl, k9⟩
          have HF := Lib.hid (K0.tr HK.out k9)
          clear k9
          go_wp2
          go_ret
          exact ⟨rfl, HF.out⟩
end Go.Proofs.Ytjfblcmpdcbpgaa
