/-
  What is left of a file behind a crash; DiskSafe, walked and lifted.
-/
import Derived.Test.YtjfblcmpdcbpgaaDi
namespace Go.Proofs.Ytjfblcmpdcbpgaa
open Go.RowKit Fx

theorem empty_app (b : ByteArray) : (⟨#[]⟩ : ByteArray) ++ b = b := by
  show ByteArray.empty ++ b = b
  simp
theorem crashS_other {keep : List Int} {p : DiskC × Nat} {s t : ByteArray} (h : s ≠ t) : aget (crashS keep p s).1.files t = aget p.1.files t := by
  unfold crashS
  split
  · rfl
  · show aget (aput (aput p.1.files s _) s _) t = _
    rw [aget_aput, if_neg h, aget_aput, if_neg h]
theorem crashS_self {keep : List Int} {p : DiskC × Nat} {s : ByteArray} {x : FileC} (hx : 0 ≤ x.safe ∧ x.safe ≤ x.bytes.size) (e : aget p.1.files s = some x) :
    ∃ N : Nat, x.safe ≤ N ∧ N ≤ x.bytes.size ∧ (x.safe = x.bytes.size → N = x.bytes.size) ∧ aget (crashS keep p s).1.files s = some ⟨x.bytes.extract 0 N, N⟩ := by
  have ho : oldF p.1 s = x := by simp [oldF, e]
  unfold crashS
  rw [ho]
  split
  · rename_i h
    refine ⟨x.bytes.size, by omega, Nat.le_refl _, fun _ => rfl, ?_⟩
    rw [e]
    obtain ⟨b, sf⟩ := x
    simp only at h
    subst h
    simp
  · rename_i h
    have hk := kOf_le (keep := keep) (n := p.2) hx
    refine ⟨x.safe.toNat + kOf keep p.2 x, by omega, hk, fun h2 => absurd h2 h, ?_⟩
    have h1 : oldF (keepD p.1 s (x.safe.toNat + kOf keep p.2 x)) s = keepF x (x.safe.toNat + kOf keep p.2 x) := by
      unfold keepD
      rw [ho]
      exact oldF_put _ _ _ _ _ _
    show aget (aput _ s _) s = _
    rw [aget_aput, if_pos rfl, h1, keepF_size hk]
    rfl
theorem crashL_out {keep : List Int} {s : ByteArray} : ∀ {l : List ByteArray} (p : DiskC × Nat), s ∉ l → aget (l.foldl (crashS keep) p).1.files s = aget p.1.files s
  | [], _, _ => rfl
  | t :: l, p, h => by
    simp only [List.mem_cons, not_or] at h
    rw [List.foldl_cons, crashL_out _ h.2]
    exact crashS_other (Ne.symm h.1)
theorem crashL_get {keep : List Int} {s : ByteArray} {x : FileC} (hx : 0 ≤ x.safe ∧ x.safe ≤ x.bytes.size) : ∀ {l : List ByteArray} (p : DiskC × Nat), l.Nodup → s ∈ l → aget p.1.files s = some x →
    ∃ N : Nat, x.safe ≤ N ∧ N ≤ x.bytes.size ∧ (x.safe = x.bytes.size → N = x.bytes.size) ∧ aget (l.foldl (crashS keep) p).1.files s = some ⟨x.bytes.extract 0 N, N⟩
  | t :: l, p, hn, hs, e => by
    simp only [List.nodup_cons] at hn
    rw [List.foldl_cons]
    by_cases h : t = s
    · subst h
      obtain ⟨N, h1, h2, h3, h4⟩ := crashS_self (keep := keep) hx e
      exact ⟨N, h1, h2, h3, by rw [crashL_out _ hn.1]; exact h4⟩
    · have hs' : s ∈ l := (List.mem_cons.1 hs).resolve_left (fun e => h e.symm)
      exact crashL_get hx (crashS keep p t) hn.2 hs' (by rw [crashS_other h]; exact e)
theorem crashL_room (keep : List Int) (l : List ByteArray) (p : DiskC × Nat) : (l.foldl (crashS keep) p).1.room = p.1.room := by
  induction l generalizing p with
  | nil => rfl
  | cons t l ih =>
    rw [List.foldl_cons, ih]
    unfold crashS
    split <;> rfl
section
variable {D : DiskC} {s t : ByteArray}
theorem dappE_zero (hf : D.fuse = -1) (hn : namedB s = true) (hr : D.used + t.size ≤ D.room) : dappE D s t = 0 := by
  unfold dappE
  rw [if_neg (by omega), if_pos hn, if_neg (by omega)]
theorem dapp_eq (hf : D.fuse = -1) (hn : namedB s = true) (hr : D.used + t.size ≤ D.room) : dappC D s t = ⟨D.room, D.used + t.size, -1, aput D.files s ⟨(oldF D s).bytes ++ t, (oldF D s).safe⟩⟩ := by
  unfold dappC
  rw [if_pos (dappE_zero hf hn hr)]
  unfold burn
  dsimp only
  rw [hf]
  rfl
theorem fileE_one (hf : D.fuse = -1) {x : FileC} (e : aget D.files s = some x) : fileE D s = 0 := by
  unfold fileE
  rw [if_neg (by omega), if_pos (by rw [e]; rfl)]
theorem fileE_out (hf : D.fuse = -1) (e : aget D.files s = none) : fileE D s = 6 := by
  unfold fileE
  rw [if_neg (by omega), if_neg (by rw [e]; decide)]
theorem dsync_eq (hf : D.fuse = -1) {x : FileC} (e : aget D.files s = some x) : dsyncC D s = ⟨D.room, D.used, -1, aput D.files s ⟨x.bytes, x.bytes.size⟩⟩ := by
  have ho : oldF D s = x := by simp [oldF, e]
  unfold dsyncC
  rw [if_pos (fileE_one hf e), ho]
  unfold burn
  dsimp only
  rw [hf]
  rfl
theorem dread_eq (hf : D.fuse = -1) {x : FileC} (e : aget D.files s = some x) : dreadV D s = x.bytes := by
  have ho : oldF D s = x := by simp [oldF, e]
  unfold dreadV
  rw [if_pos (fileE_one hf e), ho]
end
def sF : ByteArray := ⟨#[102, 105, 108, 101]⟩
theorem sF_named : namedB sF = true := by kernel_rfl
theorem safe1 {one : ByteArray} (h : one.size ≤ 1000) : dappC (newD 4000) sF one = ⟨4000, one.size, -1, [(sF, ⟨one, 0⟩)]⟩ := by
  rw [dapp_eq rfl sF_named (by show (0 : Int) + _ ≤ 4000; omega)]
  simp [newD, oldF, aget, aput, noFile, empty_app]
theorem safe2 (one : ByteArray) : dsyncC ⟨4000, one.size, -1, [(sF, ⟨one, 0⟩)]⟩ sF = ⟨4000, one.size, -1, [(sF, ⟨one, one.size⟩)]⟩ := by
  rw [dsync_eq rfl (x := ⟨one, 0⟩) (by simp [aget])]
  simp [aput]
theorem safe3 {one two : ByteArray} (h : one.size ≤ 1000) (h2 : two.size ≤ 1000) : dappC ⟨4000, one.size, -1, [(sF, ⟨one, one.size⟩)]⟩ sF two = ⟨4000, one.size + two.size, -1, [(sF, ⟨one ++ two, one.size⟩)]⟩ := by
  rw [dapp_eq rfl sF_named (by show ((one.size : Int)) + _ ≤ 4000; omega)]
  simp [oldF, aget, aput]
def safeD3 (one two : ByteArray) : DiskC := ⟨4000, one.size + two.size, -1, [(sF, ⟨one ++ two, one.size⟩)]⟩
theorem safe4 {one two : ByteArray} {keep : List Int} {names : List ByteArray} (hp : names.Perm ((safeD3 one two).files.map (·.1))) :
    ∃ b : ByteArray, dreadV (upD (crashL keep (safeD3 one two) names).1) sF = b ∧ fileE (upD (crashL keep (safeD3 one two) names).1) sF = 0 ∧ one.size ≤ b.size ∧ b.size ≤ one.size + two.size ∧ (one ++ two).extract 0 b.size = b := by
  have hp' : names.Perm [sF] := hp
  obtain rfl := List.perm_singleton.1 hp'
  obtain ⟨N, h1, h2, _, h4⟩ := crashL_get (keep := keep) (s := sF) (x := ⟨one ++ two, one.size⟩) ⟨by simp, by simp; omega⟩ (l := [sF]) (safeD3 one two, 0) (by simp) (by simp) (by simp [safeD3, aget])
  have h5 : aget (upD (crashL keep (safeD3 one two) [sF]).1).files sF = some ⟨(one ++ two).extract 0 N, N⟩ := h4
  have hs : ((one ++ two).extract 0 N).size = N := by
    simp only [ByteArray.size_append] at h2
    simp
    omega
  simp only [ByteArray.size_append] at h2
  refine ⟨_, dread_eq rfl h5, fileE_one rfl h5, ?_, ?_, ?_⟩
  · show one.size ≤ ((one ++ two).extract 0 N).size
    rw [hs]
    simp only at h1
    omega
  · show ((one ++ two).extract 0 N).size ≤ _
    rw [hs]; omega
  · show (one ++ two).extract 0 ((one ++ two).extract 0 N).size = (one ++ two).extract 0 N
    rw [hs]
set_option maxRecDepth 100000 in
set_option maxHeartbeats 2000000 in
theorem safe_any (one two : ByteArray) (keep : List Int) (a : Option Addr) (cap : Nat) (w : World) (hI : Ints w (fun _ => True) a keep) (hs1 : one.size ≤ maxLen) (hs2 : two.size ≤ maxLen) :
    Calls Try.prog 3 #[.string one, .string two, .slice a keep.length cap] w fun e w' => Same w e (.bool true) w' := by
  have HI := Lib.hid hI
  have b1 : (one.size : Int) ≤ 9223372036854775807 := by unfold maxLen at hs1; omega
  have b2 : (two.size : Int) ≤ 9223372036854775807 := by unfold maxLen at hs2; omega
  clear hI hs1 hs2
  by_cases q1 : 1000 < (one.size : Int)
  · go_enter Try.func3, Try.ntmps3
    go_wp2_with fail
    refine (live_any _).mono ?_
    rintro e w2 ⟨rfl, k2⟩
    go_wp2
    go_ret
    exact ⟨rfl, k2⟩
  · by_cases q2 : 1000 < (two.size : Int)
    · go_enter Try.func3, Try.ntmps3
      go_wp2_with fail
      refine (live_any _).mono ?_
      rintro e w2 ⟨rfl, k2⟩
      go_wp2
      go_ret
      exact ⟨rfl, k2⟩
    · have z1 : one.size ≤ 1000 := by omega
      have z2 : two.size ≤ 1000 := by omega
      have Z1 := Lib.hid z1
      have Z2 := Lib.hid z2
      have H0 := Lib.hid (st_new 4000 w (by omega))
      go_enter Try.func3, Try.ntmps3
      go_wp2_with fail
      refine H0.out.mono ?_
      rintro e w1 ⟨db, rfl, h1⟩
      have A1 := st_app h1 sF one (by omega)
      rw [safe1 z1] at A1
      have A1 := Lib.hid A1
      clear h1
      go_wp2_with fail
      refine A1.out.mono ?_
      rintro e w2 ⟨rfl, h2⟩
      have S1 := st_sync h2 sF
      rw [safe2, fileE_one rfl (x := ⟨one, 0⟩) (by simp [aget])] at S1
      have S1 := Lib.hid S1
      clear h2
      go_wp2_with fail
      refine S1.out.mono ?_
      rintro e w3 ⟨rfl, h3⟩
      have A2 := st_app h3 sF two (by omega)
      rw [safe3 z1 z2] at A2
      have A2 := Lib.hid A2
      clear h3
      go_wp2_with fail
      refine A2.out.mono ?_
      rintro e w4 ⟨rfl, h4⟩
      have C1 := Lib.hid (st_crash (show DOk w w4 db (safeD3 one two) from h4) keep a cap HI.out (by simp [safeD3]))
      clear h4
      go_wp2_with fail
      refine C1.out.mono ?_
      rintro e w5 ⟨names, hp, rfl, h5⟩
      obtain ⟨b, e1, e2, e3, e4, e5⟩ := safe4 (keep := keep) hp
      have R1 := st_read h5 sF
      rw [e1, e2] at R1
      have R1 := Lib.hid R1
      generalize (crashL keep (safeD3 one two) names).2 = cn
      clear h5 e1 e2 hp
      go_wp2_with fail
      refine R1.out.mono ?_
      rintro e w6 ⟨rfl, h6⟩
      have HK := Lib.hid h6.1.k0
      clear h6
      have e6 : ¬ (b.size : Int) < one.size := by omega
      have e7 : ¬ (one.size : Int) + two.size < b.size := by omega
      go_wp2_with fail
      refine (live_any _).mono ?_
      rintro e w7 ⟨rfl, k7⟩
      have HF := Lib.hid (K0.tr HK.out k7)
      clear k7
      go_wp2
      go_ret
      exact ⟨rfl, HF.out⟩
end Go.Proofs.Ytjfblcmpdcbpgaa
