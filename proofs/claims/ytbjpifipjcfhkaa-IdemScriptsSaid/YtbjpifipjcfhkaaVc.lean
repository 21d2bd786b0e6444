/-
  varint.Put at a number that is not below 0.
-/
import Derived.Test.YtbjpifipjcfhkaaVb
import Derived.ScopeJumps
namespace Go.Proofs.Ytbjpifipjcfhkaa
open Go.RowKit Fx

theorem or_nat (a : Nat) (h : a < 256) : a ||| 128 = a % 128 + 128 := by
  have h1 : a % 128 < 2 ^ 7 := by omega
  have h2 : a = 128 * (a / 128) + a % 128 := by omega
  have h3 : a / 128 = 0 ∨ a / 128 = 1 := by omega
  rcases h3 with h3 | h3
  · have e := Nat.two_pow_add_eq_or_of_lt h1 1
    rw [show a = a % 128 by omega, Nat.or_comm]
    simpa using e.symm.trans (by omega)
  · have e := Nat.two_pow_add_eq_or_of_lt h1 1
    have e2 : a = 2 ^ 7 * 1 ||| a % 128 := by rw [← e]; omega
    rw [e2, Nat.or_comm, ← Nat.or_assoc]
    simp only [Nat.mul_one, show (2 : Nat) ^ 7 = 128 from rfl, Nat.or_self]
    rw [show a % 128 = a % 128 from rfl] at e
    simp only [Nat.mul_one, show (2 : Nat) ^ 7 = 128 from rfl] at e
    rw [← e]
    omega
theorem or_128 (u : Nat) : bits BinOp.or IntKind.u8 ((u : Int) % 256) 128 = (u : Int) % 128 + 128 := by
  have h1 : (u : Int) % 256 = ((u % 256 : Nat) : Int) := by omega
  have h2 := (bits_nat .u8 8 (by decide) wraps_u8 (u % 256) 128 (by omega) (by decide)).2
  rw [h1]
  rw [show ((128 : Int)) = ((128 : Nat) : Int) from rfl, h2, or_nat _ (by omega)]
  omega
set_option maxRecDepth 100000 in
set_option maxHeartbeats 4000000 in
theorem vput_any (n : Int) (w : World) (h0 : 0 ≤ n) (h1 : n ≤ 9223372036854775807) :
    Calls Try.prog 32 #[.int .i64 n] w fun e w' => e = .returned (.string (putB n)) ∧ K0 w w' := by
  obtain ⟨m, rfl⟩ : ∃ m : Nat, n = m := ⟨n.toNat, by omega⟩
  have HM : Hid (zz (m : Int) = 2 * m) := by show _ = _; rw [zz_nat (by omega)]; rfl
  have HLT : Hid (2 * m < 18446744073709551616) := by show _ < _; omega
  have HX : Hid (bits BinOp.xor IntKind.u64 ((m : Int) * 2) ((m : Int) / 9223372036854775808) = ((2 * m : Nat) : Int)) := by
    show _ = _
    have e1 : (m : Int) / 9223372036854775808 = ((0 : Nat) : Int) := by omega
    have e2 : (m : Int) * 2 = ((2 * m : Nat) : Int) := by omega
    rw [e1, e2, bits_xor_u64_nat (2 * m) 0 HLT.out (by decide), Nat.xor_zero]
  go_enter Try.func32, Try.ntmps32
  go_wp2
  refine wp_scope_jumps 0 (fun a' w' => ∃ (u : Nat) (done : List Nat) (v : Value) (u5 u6 u7 u8 u9 u10 u11 u12 u13 u14 u15 u16 u17 u18 u19 u20 u21 u22 u23 u24 u25 u26 u27 : Value), a' = { tmps := #[.int .i64 (m : Int), undef, .string ⟨#[]⟩, .int .u64 (u : Nat), v, u5, u6, u7, u8, u9, u10, u11, u12, u13, u14, u15, u16, u17, u18, u19, u20, u21, u22, u23, u24, u25, u26, u27], defers := [] } ∧ PutR w (2 * m) u done v w') (fun a' _ => (intOf (a'.tmps.getD 3 undef)).toNat) rfl ?_ ?_
  · go_wp2
    rw [HX.out]
    obtain ⟨u, hu0⟩ : ∃ u, u = 2 * m := ⟨_, rfl⟩
    obtain ⟨done, hd0⟩ : ∃ done : List Nat, done = [] := ⟨_, rfl⟩
    obtain ⟨v, hv0⟩ : ∃ v : Value, v = .slice none 0 0 := ⟨_, rfl⟩
    have hr : PutR w (2 * m) u done v w := by rw [hu0, hd0, hv0]; exact PutR.start HLT.out
    rw [← hu0, ← hv0]
    clear hu0 hd0 hv0 h0 h1
    have HR := Lib.hid hr
    have hown := hr.own
    have HL := Lib.hid hr.lt
    have hdl := hr.len
    have hz := hr.k0.size
    obtain ⟨va, vc, rfl⟩ := own_sliceV hown
    clear hr
    by_cases hu : u < 128
    · have i1 : (u : Int) < 128 := by omega
      have i0 : (0 : Int) ≤ u := by omega
      have HU := Lib.hid hu
      go_step3
      go_wp2_with (at_builtin; refine wpList_app1 (v := .slice va done.length vc) rfl rfl Try.underlying94 infoU8v rfl (by decide) rfl (hown.alloc _) rfl (heap_new _ _ _ rfl) rfl rfl ⟨by omega, by decide⟩ (by first | (simp; done) | (simp; omega)) ?_; intro g1 cap1 w1 hA; obtain ⟨hcv, hk1⟩ := HR.out.stop HU.out hA; have HK := Lib.hid hk1; clear hA hk1)
      try simp only [Exit.jump]
      go_ret
      exact ⟨by unfold putB; rw [HM.out]; rfl, HK.out⟩
    · have i1 : (128 : Int) ≤ u := by omega
      have HU := Lib.hid hu
      have HO : Hid (bits BinOp.or IntKind.u8 ((u : Int) % 256) 128 = (u : Int) % 128 + 128) := by
        show _ = _
        exact or_128 u
      go_step3
      go_wp2_with (at_builtin; refine wpList_app1 (v := .slice va done.length vc) rfl rfl Try.underlying94 infoU8v rfl (by decide) rfl (hown.alloc _) rfl (heap_new _ _ _ rfl) rfl rfl ⟨by omega, by decide⟩ (by first | (simp; done) | (simp; omega)) ?_; intro g1 cap1 w1 hA; rw [HO.out] at hA; have hst := Lib.hid (HR.out.step HU.out HLT.out hA); clear hA)
      go_step3
      exact ⟨rfl, u / 128, _, _, _, _, _, _, _, _, _, _, _, _, _, _, _, _, _, _, _, _, _, _, _, _, _, rfl, hst.out⟩

  · rintro a' w' ⟨u, done, v, u5, u6, u7, u8, u9, u10, u11, u12, u13, u14, u15, u16, u17, u18, u19, u20, u21, u22, u23, u24, u25, u26, u27, rfl, hr⟩
    clear h0 h1
    have HR := Lib.hid hr
    have hown := hr.own
    have HL := Lib.hid hr.lt
    have hdl := hr.len
    have hz := hr.k0.size
    obtain ⟨va, vc, rfl⟩ := own_sliceV hown
    clear hr
    by_cases hu : u < 128
    · have i1 : (u : Int) < 128 := by omega
      have i0 : (0 : Int) ≤ u := by omega
      have HU := Lib.hid hu
      go_wp2_with (at_builtin; refine wpList_app1 (v := .slice va done.length vc) rfl rfl Try.underlying94 infoU8v rfl (by decide) rfl (hown.alloc _) rfl (heap_new _ _ _ rfl) rfl rfl ⟨by omega, by decide⟩ (by first | (simp; done) | (simp; omega)) ?_; intro g1 cap1 w1 hA; obtain ⟨hcv, hk1⟩ := HR.out.stop HU.out hA; have HK := Lib.hid hk1; clear hA hk1)
      try simp only [Exit.jump]
      go_ret
      exact ⟨by unfold putB; rw [HM.out]; rfl, HK.out⟩
    · have i1 : (128 : Int) ≤ u := by omega
      have HU := Lib.hid hu
      have HO : Hid (bits BinOp.or IntKind.u8 ((u : Int) % 256) 128 = (u : Int) % 128 + 128) := by
        show _ = _
        exact or_128 u
      go_wp2_with (at_builtin; refine wpList_app1 (v := .slice va done.length vc) rfl rfl Try.underlying94 infoU8v rfl (by decide) rfl (hown.alloc _) rfl (heap_new _ _ _ rfl) rfl rfl ⟨by omega, by decide⟩ (by first | (simp; done) | (simp; omega)) ?_; intro g1 cap1 w1 hA; rw [HO.out] at hA; have hst := Lib.hid (HR.out.step HU.out HLT.out hA); clear hA)
      go_step3
      refine ⟨rfl, ⟨u / 128, _, _, _, _, _, _, _, _, _, _, _, _, _, _, _, _, _, _, _, _, _, _, _, _, _, rfl, hst.out⟩, ?_⟩
      simp [intOf]
      omega

end Go.Proofs.Ytbjpifipjcfhkaa
