/-
  varint.Get, walked.
-/
import Derived.Test.YtbjpifipjcfhkaaVc
namespace Go.Proofs.Ytbjpifipjcfhkaa
open Go.RowKit Fx

/-- The bytes of a text from a place on. -/
def tailN (s : ByteArray) (p : Nat) : List Nat := (s.data.toList.drop p).map fun b => b.toNat
theorem tailN_len (s : ByteArray) (p : Nat) : (tailN s p).length = s.size - p := by
  simp only [tailN, List.length_map, List.length_drop, Array.length_toList]
  rfl
theorem tailN_get {s : ByteArray} {p k : Nat} (h : p + k < s.size) (h' : k < (tailN s p).length) : (tailN s p)[k] = s[p + k].toNat := by
  simp only [tailN, List.getElem_map, List.getElem_drop, Array.getElem_toList]
  rfl
theorem tailN_byte (s : ByteArray) (p : Nat) : ∀ b ∈ tailN s p, b < 256 := fun b hb => by
  obtain ⟨x, _, rfl⟩ := List.mem_map.1 hb
  exact x.toNat_lt
def vgetN (s : ByteArray) (a : Int) : Int := if a < 0 ∨ s.size < a then 0 else decN (tailN s a.toNat)
def vgetT (s : ByteArray) (a : Int) : Int := if a < 0 ∨ s.size < a then 0 else decT a (tailN s a.toNat)
def vgetE (s : ByteArray) (a : Int) : Int := if a < 0 ∨ s.size < a then 1 else decE (tailN s a.toNat)
def GetPost (w : World) (s : ByteArray) (a : Int) (e : Ending) (w' : World) : Prop := e = .returned (.tuple #[.int .i64 (vgetN s a), .int .i64 (vgetT s a), .int .i64 (vgetE s a)]) ∧ w' = w
theorem pow7 (k : Nat) : (2 : Nat) ^ (7 * k) = 128 ^ k := by rw [Nat.pow_mul]
theorem pow7_le {k : Nat} (h : k ≤ 9) : 128 ^ k ≤ 9223372036854775808 := by
  have := Nat.pow_le_pow_right (n := 128) (by omega) h
  rw [pow9] at this
  exact this
theorem and_127 (x : Nat) (h : x < 256) : bits BinOp.and IntKind.u8 (x : Int) 127 = ((x % 128 : Nat) : Int) := by
  have := bits_mask .u8 8 (by decide) wraps_u8 7 (by decide) x (by omega) (by omega)
  have e : (2 : Int) ^ 7 - 1 = 127 := by decide
  rw [e] at this
  rw [this]
  omega
/-- One byte more. -/
theorem step_u {u x k : Nat} (hx : x < 256) (hk : k ≤ 9) (hu : u < 128 ^ k) (h9 : k < 9 ∨ x % 128 ≤ 1) :
    bits BinOp.or IntKind.u64 (u : Int) (IntKind.u64.wrap (IntKind.u64.wrap (bits BinOp.and IntKind.u8 (x : Int) 127) * 2 ^ (7 * k))) = ((u + 128 ^ k * (x % 128) : Nat) : Int) := by
  have hp := pow7_le hk
  have hs : 128 ^ k * (x % 128) ≤ 9223372036854775808 := by
    rcases h9 with h9 | h9
    · have h1 : 128 ^ k ≤ 128 ^ 8 := Nat.pow_le_pow_right (by omega) (by omega)
      have h2 : 128 ^ k * (x % 128) ≤ 128 ^ 8 * 128 := Nat.mul_le_mul h1 (by omega)
      have h3 : 128 ^ 8 * 128 = 9223372036854775808 := by decide
      omega
    · have h2 : 128 ^ k * (x % 128) ≤ 128 ^ k * 1 := Nat.mul_le_mul_left _ h9
      omega
  have e1 : IntKind.u64.wrap (((x % 128 : Nat) : Int)) = ((x % 128 : Nat) : Int) := by rw [IntKind.wrap_u64]; omega
  have e2 : ((x % 128 : Nat) : Int) * 2 ^ (7 * k) = ((128 ^ k * (x % 128) : Nat) : Int) := by
    rw [Int.natCast_mul, Int.mul_comm]
    congr 1
    have := pow7 k
    exact_mod_cast this
  rw [and_127 x hx, e1, e2, IntKind.wrap_u64, Int.emod_eq_of_lt (by omega) (by omega), bits_or_u64_nat u _ (by omega) (by omega)]
  have h4 := Nat.two_pow_add_eq_or_of_lt (i := 7 * k) (b := u) (by rw [pow7]; exact hu) (x % 128)
  rw [pow7] at h4
  rw [Nat.or_comm, ← h4, Nat.add_comm]
theorem val_dz {U : Nat} (h : U < 18446744073709551616) : bits BinOp.xor IntKind.i64 (wrap64 (((U : Nat) : Int) / 2)) (wrap64 (-wrap64 (bits BinOp.and IntKind.u64 ((U : Nat) : Int) 1))) = dz U := by
  have e0 : bits BinOp.and IntKind.u64 ((U : Nat) : Int) 1 = ((U % 2 : Nat) : Int) := by
    rw [show (1 : Int) = ((1 : Nat) : Int) from rfl, bits_and_u64_nat U 1 h (by decide), Nat.and_one_is_mod]
  have e1 : wrap64 (((U : Nat) : Int) / 2) = ((U / 2 : Nat) : Int) := by unfold wrap64; omega
  rw [e0, e1]
  have h2 : (BitVec.ofInt 64 (((U / 2 : Nat) : Int))).toNat = U / 2 := by
    rw [BitVec.ofInt_natCast, BitVec.toNat_ofNat]; exact Nat.mod_eq_of_lt (by omega)
  unfold dz
  by_cases h1 : U % 2 = 1
  · rw [if_pos h1, h1]
    have e3 : wrap64 (-wrap64 (((1 : Nat) : Int))) = -1 := by unfold wrap64; omega
    rw [e3]
    show IntKind.i64.wrap ((BitVec.ofInt 64 (((U / 2 : Nat) : Int)) ^^^ BitVec.ofInt 64 (-1)).toNat : Int) = _
    have e4 : BitVec.ofInt 64 (-1) = BitVec.allOnes 64 := by decide
    rw [e4, BitVec.xor_allOnes, BitVec.toNat_not, h2, IntKind.wrap_i64]
    omega
  · rw [if_neg h1, show U % 2 = 0 by omega]
    have e3 : wrap64 (-wrap64 (((0 : Nat) : Int))) = 0 := by unfold wrap64; omega
    rw [e3]
    show IntKind.i64.wrap ((BitVec.ofInt 64 (((U / 2 : Nat) : Int)) ^^^ BitVec.ofInt 64 0).toNat : Int) = _
    have e4 : BitVec.ofInt 64 0 = 0#64 := by decide
    rw [e4, BitVec.xor_zero, h2, IntKind.wrap_i64]
    omega
set_option maxRecDepth 100000 in
set_option maxHeartbeats 4000000 in
theorem vget_any (s : ByteArray) (a : Int) (w : World) (hs : s.size ≤ 9223372036854775807) (ha : a ≤ 9223372036854775807) :
    Calls Try.prog 38 #[.string s, .int .i64 a] w (GetPost w s a) := by
  by_cases hbad : a < 0 ∨ s.size < a
  · have HP : Hid (GetPost w s a (.returned (.tuple #[.int .i64 0, .int .i64 0, .int .i64 1])) w) := by
      show GetPost _ _ _ _ _
      unfold GetPost vgetN vgetT vgetE
      rw [if_pos hbad, if_pos hbad, if_pos hbad]
      exact ⟨rfl, rfl⟩
    have hb2 : a < 0 ∨ (¬ a < 0 ∧ s.size < a) := by omega
    clear hbad
    rcases hb2 with h1 | ⟨h1, h2⟩
    all_goals
      go_enter Try.func38, Try.ntmps38
      go_wp2
      go_ret3
      exact HP.out
  · obtain ⟨p, rfl⟩ : ∃ p : Nat, a = p := ⟨a.toNat, by omega⟩
    have hp : p ≤ s.size := by omega
    have HP : Hid (∀ n t e, decN (tailN s p) = n → decT p (tailN s p) = t → decE (tailN s p) = e → GetPost w s p (.returned (.tuple #[.int .i64 n, .int .i64 t, .int .i64 e])) w) := by
      show ∀ _ _ _, _ → _ → _ → _
      rintro n t e rfl rfl rfl
      unfold GetPost vgetN vgetT vgetE
      rw [if_neg hbad, if_neg hbad, if_neg hbad]
      exact ⟨rfl, rfl⟩
    have HL := Lib.hid (tailN_len s p)
    have HBY := Lib.hid (tailN_byte s p)
    have HGT : Hid (∀ k, p + k < s.size → ∀ h' : k < (tailN s p).length, ∀ h2 : p + k < s.size, (tailN s p)[k] = s[p + k].toNat) := fun k h1 h' h2 => tailN_get h1 h'
    generalize tailN s p = l at HP HL HBY HGT
    have p0 : (0 : Int) ≤ p := by omega
    have p1 : (p : Int) ≤ s.size := by omega
    have b1 : decide ((p : Int) < 0) = false := by simp
    have b2 : decide (s.size < p) = false := by simp; omega
    have b3 : decide ((s.size : Int) < p) = false := by simp; omega
    clear hbad
    go_enter Try.func38, Try.ntmps38
    go_wp2
    go_loop [18, 7] (fun i uv => ∃ k : Nat, i = .int .i64 k ∧ k ≤ 10 ∧ k ≤ contK l ∧ ∃ z : Int, uv = .int .u64 z ∧ (k < 10 → z = (hv (l.take k) : Nat))) (fun i _ => 10 - (intOf i).toNat)
    case atStart => exact ⟨0, rfl, by omega, by omega, 0, rfl, fun _ => rfl⟩
    case round =>
      obtain ⟨k, rfl, hk10, hkc, z, rfl, hu⟩ := hrel
      have HKC := Lib.hid hkc
      clear hkc
      by_cases h10 : k < 10
      · obtain rfl := hu h10
        clear hu
        have hult : hv (l.take k) < 128 ^ k := by
          have h1 := hv_lt (l.take k)
          rw [List.length_take, Nat.min_eq_left (by have := HKC.out; have := contK_le l; omega)] at h1
          exact h1
        have HTK : Hid (∀ hkl : k < l.length, hv (l.take (k + 1)) = hv (l.take k) + 128 ^ k * (l[k] % 128)) := fun hkl => hv_take hkl
        generalize hv (l.take k) = u at hult HTK ⊢
        have HULT := Lib.hid hult
        clear hult
        have j0 : (0 : Int) ≤ k := by omega
        have j1 : (k : Int) < 10 := by omega
        have j10 : (p : Int) + k ≤ s.size := by have := HKC.out; have := HL.out; have := contK_le l; omega
        by_cases hlen : p + k < s.size
        · have j2 : (p : Int) + k < s.size := by omega
          have hx0 := s[p + k].toNat_lt
          have hkl : k < l.length := by have := HL.out; omega
          have hxl := HGT.out k hlen hkl hlen
          generalize hxx : s[p + k] = x at hx0 hxl
          have HXL := Lib.hid hxl
          by_cases hb : 128 ≤ x.toNat
          · have j3 : (128 : Int) ≤ x.toNat := by omega
            have HKN : Hid (k + 1 ≤ contK l) := contK_ge (by omega) fun i hi hik => by
              by_cases hik2 : i = k
              · subst hik2; rw [HXL.out]; exact hb
              · exact contK_more (by have := HKC.out; omega) hi
            clear hxl
            go_wp2
            go_round
            case rel =>
              refine ⟨k + 1, by go_num, by omega, HKN.out, _, rfl, fun h9 => ?_⟩
              rw [step_u (by omega) (by omega) HULT.out (by omega), HTK.out hkl, HXL.out]
            case measure => simp [intOf]; omega
          · have j3 : (x.toNat : Int) < 128 := by omega
            have HCK : Hid (contK l = k) := contK_eq hkl (fun i hi hik => contK_more (by have := HKC.out; omega) hi) (by rw [HXL.out]; omega)
            have HGD : Hid (l.getD k 0 = x.toNat) := by show _ = _; rw [← HXL.out]; simp [List.getD, hkl]
            clear hxl
            by_cases hx00 : x.toNat = 0
            · have q0 : ((x.toNat : Int) == 0) = true := by simp; omega
              by_cases hk0 : 0 < k
              · have q1 : (0 : Int) < k := by omega
                have hE : decE l = 3 := by unfold decE; rw [HCK.out, if_neg (by omega), if_neg (by omega), if_neg (by unfold canonB; rw [HCK.out, HGD.out]; simp; omega)]
                have HF := Lib.hid (HP.out 0 0 3 (by unfold decN; rw [hE]; rfl) (by unfold decT; rw [hE]; rfl) hE)
                clear hE hx00 hk0
                go_wp2
                go_ret3
                exact HF.out
              · obtain rfl : k = 0 := by omega
                have hE : decE l = 0 := by unfold decE; rw [HCK.out, if_neg (by omega), if_neg (by omega), if_pos (by unfold canonB; rw [HCK.out, HGD.out]; simp)]
                have HF := Lib.hid (HP.out _ ((p : Int) + 1) _ (by unfold decN; rw [if_pos hE, HCK.out]) (by unfold decT; rw [if_pos hE, HCK.out]; simp) hE)
                have HEX : Hid (bits BinOp.or IntKind.u64 (u : Int) (IntKind.u64.wrap (IntKind.u64.wrap (bits BinOp.and IntKind.u8 (x.toNat : Int) 127))) = ((hv (l.take (0 + 1)) : Nat) : Int)) := by
                  show _ = _
                  have h1 := step_u (u := u) (x := x.toNat) (k := 0) (by omega) (by omega) HULT.out (by omega)
                  rw [show (2 : Int) ^ (7 * 0) = 1 from rfl, Int.mul_one] at h1
                  rw [h1, HTK.out hkl, HXL.out]
                have HUU : Hid (hv (l.take (0 + 1)) < 18446744073709551616) := by
                  have h1 := canon_value HBY.out (by rw [HCK.out]; omega) (by rw [HCK.out]; exact hkl) ((decE_ok hE).2.2)
                  rw [HCK.out] at h1
                  exact h1
                have hlp : p < s.size := by omega
                have hxp : s[p] = x := hxx
                have j7 : (p : Int) < s.size := by omega
                clear hE hx00 hk0 hxx
                go_wp2
                rw [HEX.out, val_dz HUU.out]
                go_ret3
                exact HF.out
            · have q0 : ((x.toNat : Int) == 0) = false := by simp; omega
              by_cases hk9 : k = 9
              · have q9 : ((k : Int) == 9) = true := by simp; omega
                by_cases hx1 : 1 < x.toNat
                · have q1 : (1 : Int) < x.toNat := by omega
                  have hE : decE l = 3 := by unfold decE; rw [HCK.out, if_neg (by omega), if_neg (by omega), if_neg (by unfold canonB; rw [HCK.out, HGD.out]; simp; omega)]
                  have HF := Lib.hid (HP.out 0 0 3 (by unfold decN; rw [hE]; rfl) (by unfold decT; rw [hE]; rfl) hE)
                  clear hE hx00 hk9
                  go_wp2
                  go_ret3
                  exact HF.out
                · have q1 : ¬ (1 : Int) < x.toNat := by omega
                  have hE : decE l = 0 := by unfold decE; rw [HCK.out, if_neg (by omega), if_neg (by omega), if_pos (by unfold canonB; rw [HCK.out, HGD.out]; simp; omega)]
                  have HF := Lib.hid (HP.out _ _ _ (by unfold decN; rw [if_pos hE, HCK.out]) (by unfold decT; rw [if_pos hE, HCK.out]) hE)
                  have HEX : Hid (bits BinOp.or IntKind.u64 (u : Int) (IntKind.u64.wrap (IntKind.u64.wrap (bits BinOp.and IntKind.u8 (x.toNat : Int) 127) * 2 ^ (7 * k))) = ((hv (l.take (k + 1)) : Nat) : Int)) := by
                    show _ = _
                    rw [step_u (by omega) (by omega) HULT.out (by omega), HTK.out hkl, HXL.out]
                  have HUU : Hid (hv (l.take (k + 1)) < 18446744073709551616) := by
                    have h1 := canon_value HBY.out (by rw [HCK.out]; omega) (by rw [HCK.out]; exact hkl) ((decE_ok hE).2.2)
                    rw [HCK.out] at h1
                    exact h1
                  clear hE hx00 hk9
                  go_wp2
                  rw [HEX.out, val_dz HUU.out]
                  go_ret3
                  exact HF.out
              · have q1 : ((k : Int) == 9) = false := by simp; omega
                have hE : decE l = 0 := by unfold decE; rw [HCK.out, if_neg (by omega), if_neg (by omega), if_pos (by unfold canonB; rw [HCK.out, HGD.out]; simp; omega)]
                have HF := Lib.hid (HP.out _ _ _ (by unfold decN; rw [if_pos hE, HCK.out]) (by unfold decT; rw [if_pos hE, HCK.out]) hE)
                have HEX : Hid (bits BinOp.or IntKind.u64 (u : Int) (IntKind.u64.wrap (IntKind.u64.wrap (bits BinOp.and IntKind.u8 (x.toNat : Int) 127) * 2 ^ (7 * k))) = ((hv (l.take (k + 1)) : Nat) : Int)) := by
                  show _ = _
                  rw [step_u (by omega) (by omega) HULT.out (by omega), HTK.out hkl, HXL.out]
                have HUU : Hid (hv (l.take (k + 1)) < 18446744073709551616) := by
                  have h1 := canon_value HBY.out (by rw [HCK.out]; omega) (by rw [HCK.out]; exact hkl) ((decE_ok hE).2.2)
                  rw [HCK.out] at h1
                  exact h1
                clear hE hx00 hk9
                go_wp2
                rw [HEX.out, val_dz HUU.out]
                go_ret3
                exact HF.out
        · have j2 : ¬ (p : Int) + k < s.size := by omega
          have hkk : contK l = k ∧ l.length = k := by
            have := HKC.out
            have := contK_le l
            have := HL.out
            omega
          have hE : decE l = 2 := by unfold decE; rw [if_neg (by omega), if_pos (by omega)]
          have HF := Lib.hid (HP.out 0 0 2 (by unfold decN; rw [hE]; rfl) (by unfold decT; rw [hE]; rfl) hE)
          clear hkk hE
          go_wp2
          go_ret3
          exact HF.out
      · obtain rfl : k = 10 := by omega
        have hE : decE l = 3 := by unfold decE; rw [if_pos HKC.out]
        have HF := Lib.hid (HP.out 0 0 3 (by unfold decN; rw [hE]; rfl) (by unfold decT; rw [hE]; rfl) hE)
        clear hE
        go_wp2
        go_ret3
        exact HF.out
end Go.Proofs.Ytbjpifipjcfhkaa
