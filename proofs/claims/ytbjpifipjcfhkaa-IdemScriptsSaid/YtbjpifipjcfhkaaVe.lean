/-
  The document's Get, walked.
-/
import Derived.Test.YtbjpifipjcfhkaaVd
import Derived.IntWalk
namespace Go.Proofs.Ytbjpifipjcfhkaa
open Go.RowKit Fx

theorem nat_u8 {a b : Nat} (ha : a < 256) (hb : b < 256) (h : UInt8.ofNat (a : Int).toNat = UInt8.ofNat (b : Int).toNat) : a = b := by
  have := congrArg UInt8.toNat h
  simp only [Int.toNat_natCast, UInt8.toNat_ofNat'] at this
  omega
theorem bytesN_inj : ∀ {m m' : List Nat}, (∀ b ∈ m, b < 256) → (∀ b ∈ m', b < 256) → (m.map fun b : Nat => UInt8.ofNat (b : Int).toNat) = (m'.map fun b : Nat => UInt8.ofNat (b : Int).toNat) → m = m'
  | [], [], _, _, _ => rfl
  | [], _ :: _, _, _, h => by cases h
  | _ :: _, [], _, _, h => by cases h
  | a :: m, b :: m', h1, h2, h => by
    simp only [List.map_cons, List.cons.injEq] at h
    rw [nat_u8 (h1 a List.mem_cons_self) (h2 b List.mem_cons_self) h.1, bytesN_inj (fun x hx => h1 x (List.mem_cons_of_mem _ hx)) (fun x hx => h2 x (List.mem_cons_of_mem _ hx)) h.2]
theorem bytesN_data (m : List Nat) : (bytesN m).data.toList = m.map fun b : Nat => UInt8.ofNat (b : Int).toNat := by
  unfold bytesN
  rw [strOfNums_data, List.map_map]
  rfl
theorem bytesN_eq {m m' : List Nat} (h1 : ∀ b ∈ m, b < 256) (h2 : ∀ b ∈ m', b < 256) : bytesN m = bytesN m' ↔ m = m' := by
  refine ⟨fun e => bytesN_inj h1 h2 ?_, fun e => by rw [e]⟩
  rw [← bytesN_data, ← bytesN_data, e]
theorem ext_bytes (s : ByteArray) (p n : Nat) : s.extract p (p + n) = bytesN ((tailN s p).take n) := by
  have h : (s.extract p (p + n)).data.toList = (bytesN ((tailN s p).take n)).data.toList := by
    rw [bytesN_data]
    simp only [ByteArray.data_extract, Array.toList_extract, tailN, List.extract_eq_take_drop, Nat.add_sub_cancel_left, List.map_take, List.map_map]
    rw [List.map_congr_left (g := id)]
    · simp
    · intro x _
      simp [Function.comp]
  cases hs : s.extract p (p + n)
  cases hb : bytesN ((tailN s p).take n)
  rw [hs, hb] at h
  exact congrArg ByteArray.mk (Array.toList_inj.1 h)
theorem take_byte {l : List Nat} (h : ∀ b ∈ l, b < 256) (n : Nat) : ∀ b ∈ l.take n, b < 256 := fun b hb => h b (List.mem_of_mem_take hb)
/-- Is what was read written as it stood? -/
theorem put_again {s : ByteArray} {p : Nat} (hk : contK (tailN s p) < 10) (h : contK (tailN s p) < (tailN s p).length) :
    putB (dz (hv ((tailN s p).take (contK (tailN s p) + 1)) % 18446744073709551616)) = s.extract p (p + contK (tailN s p) + 1) ↔ canonB (tailN s p) = true := by
  rw [Nat.add_assoc, ext_bytes]
  unfold putB
  rw [zz_dz, bytesN_eq (encU_bytes _) (take_byte (tailN_byte s p) _), again_iff (tailN_byte s p) hk h]
theorem list_eq {a b : ByteArray} : (a.toList == b.toList) = decide (a = b) := by
  by_cases h : a = b
  · subst h; simp
  · rw [decide_eq_false h]
    simp only [beq_eq_false_iff_ne, ne_eq]
    intro e
    rw [ByteArray.toList_eq, ByteArray.toList_eq] at e
    refine h ?_
    cases a; cases b
    simp only [ByteArray.mk.injEq]
    exact Array.toList_inj.1 e
theorem w64_in {x : Int} (h1 : -9223372036854775808 ≤ x) (h2 : x ≤ 9223372036854775807) : wrap64 x = x := by unfold wrap64; omega
theorem half_wrap {V : Nat} (h : V < 18446744073709551616) : wrap64 (IntKind.u64.wrap ((V : Int) / 2)) = ((V / 2 : Nat) : Int) := by
  have e1 : IntKind.u64.wrap ((V : Int) / 2) = ((V / 2 : Nat) : Int) := by rw [IntKind.wrap_u64]; omega
  rw [e1, w64_in (by omega) (by omega)]
theorem dz_even {V : Nat} (h : V < 18446744073709551616) (ho : ¬ V % 2 = 1) : wrap64 (IntKind.u64.wrap ((V : Int) / 2)) = dz V := by
  unfold dz
  rw [if_neg ho, half_wrap h]
theorem dz_odd {V : Nat} (h : V < 18446744073709551616) (ho : V % 2 = 1) : wrap64 (wrap64 (-wrap64 (IntKind.u64.wrap ((V : Int) / 2))) - 1) = dz V := by
  unfold dz
  rw [if_pos ho, half_wrap h]
  have h3 : V / 2 < 9223372036854775808 := by omega
  generalize V / 2 = m at h3
  rw [w64_in (x := -(m : Int)) (by omega) (by omega), w64_in (x := -(m : Int) - 1) (by omega) (by omega)]
def RGetPost (w : World) (s : ByteArray) (a : Int) (e : Ending) (w' : World) : Prop := e = .returned (.tuple #[.int .i64 (vgetN s a), .int .i64 (vgetT s a), .int .i64 (vgetE s a)]) ∧ K0 w w'
set_option maxRecDepth 100000 in
set_option maxHeartbeats 4000000 in
theorem rvget_any (s : ByteArray) (a : Int) (w : World) (hs : s.size ≤ 9223372036854775807) (ha : a ≤ 9223372036854775807) :
    Calls Try.prog 46 #[.string s, .int .i64 a] w (RGetPost w s a) := by
  by_cases hbad : a < 0 ∨ s.size < a
  · have HP : Hid (RGetPost w s a (.returned (.tuple #[.int .i64 0, .int .i64 0, .int .i64 1])) w) := by
      show RGetPost _ _ _ _ _
      unfold RGetPost vgetN vgetT vgetE
      rw [if_pos hbad, if_pos hbad, if_pos hbad]
      exact ⟨rfl, Keeps.refl _ _⟩
    have hb2 : a < 0 ∨ (¬ a < 0 ∧ s.size < a) := by omega
    clear hbad
    rcases hb2 with h1 | ⟨h1, h2⟩
    all_goals
      go_enter Try.func46, Try.ntmps46
      go_wp2
      go_ret3
      exact HP.out
  · obtain ⟨p, rfl⟩ : ∃ p : Nat, a = p := ⟨a.toNat, by omega⟩
    have hp : p ≤ s.size := by omega
    have HP : Hid (∀ n t e w', decN (tailN s p) = n → decT p (tailN s p) = t → decE (tailN s p) = e → K0 w w' → RGetPost w s p (.returned (.tuple #[.int .i64 n, .int .i64 t, .int .i64 e])) w') := by
      show ∀ _ _ _ _, _ → _ → _ → _ → _
      rintro n t e w' rfl rfl rfl hk
      unfold RGetPost vgetN vgetT vgetE
      rw [if_neg hbad, if_neg hbad, if_neg hbad]
      exact ⟨rfl, hk⟩
    have HL := Lib.hid (tailN_len s p)
    have HBY := Lib.hid (tailN_byte s p)
    have HGT : Hid (∀ k, p + k < s.size → ∀ h' : k < (tailN s p).length, ∀ h2 : p + k < s.size, (tailN s p)[k] = s[p + k].toNat) := fun k h1 h' h2 => tailN_get h1 h'
    have HPA : Hid (∀ hk : contK (tailN s p) < 10, ∀ h : contK (tailN s p) < (tailN s p).length, putB (dz (hv ((tailN s p).take (contK (tailN s p) + 1)) % 18446744073709551616)) = s.extract p (p + contK (tailN s p) + 1) ↔ canonB (tailN s p) = true) := fun hk h => put_again hk h
    generalize tailN s p = l at HP HL HBY HGT HPA
    have p0 : (0 : Int) ≤ p := by omega
    have p1 : (p : Int) ≤ s.size := by omega
    have b1 : decide ((p : Int) < 0) = false := by simp
    have b2 : decide (s.size < p) = false := by simp; omega
    have b3 : decide ((s.size : Int) < p) = false := by simp; omega
    clear hbad
    go_enter Try.func46, Try.ntmps46
    go_wp2
    go_loop [7] (fun i => ∃ k : Nat, i = .int .i64 k ∧ k ≤ 10 ∧ k ≤ contK l) (fun i => 10 - (intOf i).toNat)
    case atStart => exact ⟨0, rfl, by omega, by omega⟩
    case round =>
      obtain ⟨k, rfl, hk10, hkc⟩ := hrel
      have HKC := Lib.hid hkc
      clear hkc
      have j0 : (0 : Int) ≤ k := by omega
      by_cases h10 : k < 10
      · have j1 : (k : Int) < 10 := by omega
        have j10 : (p : Int) + k ≤ s.size := by have := HKC.out; have := HL.out; have := contK_le l; omega
        have j9 : ((k : Int) == 10) = false := by simp; omega
        by_cases hlen : p + k < s.size
        · have j2 : (p : Int) + k < s.size := by omega
          have hx0 := s[p + k].toNat_lt
          have hkl : k < l.length := by have := HL.out; omega
          have hxl := HGT.out k hlen hkl hlen
          generalize hxx : s[p + k] = x at hx0 hxl
          have HXL := Lib.hid hxl
          by_cases hb : 128 ≤ x.toNat
          · have j3 : (128 : Int) ≤ x.toNat := by omega
            have HKN : Hid (k + 1 ≤ contK l) := contK_ge (by omega) fun i hi hik => by
              by_cases hik2 : i = k
              · subst hik2; rw [HXL.out]; exact hb
              · exact contK_more (by have := HKC.out; omega) hi
            clear hxl
            go_wp2
            go_round
            case rel => exact ⟨k + 1, by go_num, by omega, HKN.out⟩
            case measure => simp [intOf]; omega
          · have j3 : (x.toNat : Int) < 128 := by omega
            have HCK : Hid (contK l = k) := contK_eq hkl (fun i hi hik => contK_more (by have := HKC.out; omega) hi) (by rw [HXL.out]; omega)
            have HKL := Lib.hid hkl
            have hsz : (s.size : Int) ≤ 9223372036854775807 := by omega
            have g1 : (p : Int) + k + 1 ≤ s.size := by omega
            have g2 : (p : Int) ≤ p + k + 1 := by omega
            have g3 : p + k + 1 ≤ s.size := by omega
            clear hxl
            go_wp2
            go_loop [8, 9] (fun uv i => ∃ j : Nat, j ≤ k + 1 ∧ i = .int .i64 ((j : Int) - 1) ∧ uv = .int .u64 ((hv ((l.take (k + 1)).drop j) % 18446744073709551616 : Nat) : Int)) (fun _ i => (intOf i + 1).toNat)
            case atStart => exact ⟨k + 1, by omega, by go_num, by rw [List.drop_eq_nil_of_le (by simp; omega)]; rfl⟩
            case round =>
              obtain ⟨j, hj, rfl, rfl⟩ := hrel
              by_cases hj0 : j = 0
              · subst hj0
                rw [List.drop_zero, show ((0 : Nat) : Int) - 1 = -1 from rfl]
                have hvl : hv (l.take (k + 1)) % 18446744073709551616 < 18446744073709551616 := Nat.mod_lt _ (by omega)
                obtain ⟨V, hV⟩ : ∃ V, V = hv (l.take (k + 1)) % 18446744073709551616 := ⟨_, rfl⟩
                rw [← hV] at hvl ⊢
                have HV := Lib.hid hV
                have HVL := Lib.hid hvl
                clear hV hvl
                by_cases hodd : V % 2 = 1
                · have q2 : ((V : Int) % 2 == 1) = true := by rw [beq_iff_eq]; omega
                  have HDZ : Hid (wrap64 (wrap64 (-wrap64 (IntKind.u64.wrap ((V : Int) / 2))) - 1) = dz V) := dz_odd HVL.out hodd
                  clear hodd
                  go_wp2
                  rw [HDZ.out]
                  obtain ⟨nn, hnn⟩ : ∃ nn, nn = dz V := ⟨_, rfl⟩
                  rw [← hnn]
                  have HNN := Lib.hid hnn
                  have HPUT : Hid (∀ wx, Calls Try.prog 35 #[.int .i64 nn] wx fun e w' => e = .returned (.string (putB nn)) ∧ K0 wx w') := by
                    show ∀ _, _
                    intro wx
                    exact rvput_any nn wx (by rw [HNN.out]; exact dz_in HVL.out)
                  clear hnn
                  cases hcb : canonB l with
                  | true =>
                    have he : (putB nn).toList == (s.extract p (p + k + 1)).toList := by
                      have h1 := (HPA.out (by rw [HCK.out]; omega) (by rw [HCK.out]; exact HKL.out)).2 hcb
                      rw [HCK.out, ← HV.out, ← HNN.out] at h1
                      rw [h1, beq_self_eq_true]
                    have hE : decE l = 0 := by unfold decE; rw [HCK.out, if_neg (by omega), if_neg (by have := HKL.out; omega), if_pos hcb]
                    have hvv : hv (l.take (k + 1)) < 18446744073709551616 := by
                      have h1 := canon_value HBY.out (by rw [HCK.out]; omega) (by rw [HCK.out]; exact HKL.out) hcb
                      rw [HCK.out] at h1
                      exact h1
                    have HF : Hid (∀ w', K0 w w' → RGetPost w s p (.returned (.tuple #[.int .i64 nn, .int .i64 ((p : Int) + k + 1), .int .i64 0])) w') := by
                      show ∀ _, _ → _
                      intro w' hk
                      refine HP.out _ _ _ w' ?_ ?_ hE hk
                      · unfold decN
                        rw [if_pos hE, HCK.out, HNN.out, HV.out, Nat.mod_eq_of_lt hvv]
                      · unfold decT
                        rw [if_pos hE, HCK.out]
                    generalize putB nn = pb at HPUT he
                    clear hE hvv hcb
                    have s1 : IntKind.i64.wrap ((p : Int) + k) = p + k := IntWalk.i64_in _ (by omega)
                    have s2 : IntKind.i64.wrap ((p : Int) + k + 1) = p + k + 1 := IntWalk.i64_in _ (by omega)
                    have s3 : (0 : Int) ≤ p + k + 1 := by omega
                    have s4 : ((p : Int) + k + 1).toNat = p + k + 1 := by omega
                    go_region_with (go_at_call 35; refine (HPUT.out _).mono ?_; rintro e w1 ⟨rfl, hk⟩)
                    all_goals
                      clear s1 s2 s3 s4
                      go_wp2
                      go_ret3
                      exact HF.out _ (K0.tr (Keeps.refl _ _).drew hk)
                  | false =>
                    have he : ((putB nn).toList == (s.extract p (p + k + 1)).toList) = false := by
                      have h1 : ¬ putB nn = s.extract p (p + k + 1) := fun e => by
                        have h2 := (HPA.out (by rw [HCK.out]; omega) (by rw [HCK.out]; exact HKL.out)).1 (by rw [HCK.out, ← HV.out, ← HNN.out]; exact e)
                        rw [hcb] at h2
                        cases h2
                      rw [list_eq]
                      exact decide_eq_false h1
                    have hE : decE l = 3 := by unfold decE; rw [HCK.out, if_neg (by omega), if_neg (by have := HKL.out; omega), if_neg (by rw [hcb]; decide)]
                    have HF : Hid (∀ w', K0 w w' → RGetPost w s p (.returned (.tuple #[.int .i64 0, .int .i64 0, .int .i64 3])) w') := fun w' hk => HP.out 0 0 3 w' (by unfold decN; rw [hE]; rfl) (by unfold decT; rw [hE]; rfl) hE hk
                    generalize putB nn = pb at HPUT he
                    clear hE hcb
                    have s1 : IntKind.i64.wrap ((p : Int) + k) = p + k := IntWalk.i64_in _ (by omega)
                    have s2 : IntKind.i64.wrap ((p : Int) + k + 1) = p + k + 1 := IntWalk.i64_in _ (by omega)
                    have s3 : (0 : Int) ≤ p + k + 1 := by omega
                    have s4 : ((p : Int) + k + 1).toNat = p + k + 1 := by omega
                    go_region_with (go_at_call 35; refine (HPUT.out _).mono ?_; rintro e w1 ⟨rfl, hk⟩)
                    all_goals
                      clear s1 s2 s3 s4
                      go_wp2
                      go_ret3
                      exact HF.out _ (K0.tr (Keeps.refl _ _).drew hk)
                · have q2 : ((V : Int) % 2 == 1) = false := by rw [beq_eq_false_iff_ne]; omega
                  have HDZ : Hid (wrap64 (IntKind.u64.wrap ((V : Int) / 2)) = dz V) := dz_even HVL.out hodd
                  clear hodd
                  go_wp2
                  rw [HDZ.out]
                  obtain ⟨nn, hnn⟩ : ∃ nn, nn = dz V := ⟨_, rfl⟩
                  rw [← hnn]
                  have HNN := Lib.hid hnn
                  have HPUT : Hid (∀ wx, Calls Try.prog 35 #[.int .i64 nn] wx fun e w' => e = .returned (.string (putB nn)) ∧ K0 wx w') := by
                    show ∀ _, _
                    intro wx
                    exact rvput_any nn wx (by rw [HNN.out]; exact dz_in HVL.out)
                  clear hnn
                  cases hcb : canonB l with
                  | true =>
                    have he : (putB nn).toList == (s.extract p (p + k + 1)).toList := by
                      have h1 := (HPA.out (by rw [HCK.out]; omega) (by rw [HCK.out]; exact HKL.out)).2 hcb
                      rw [HCK.out, ← HV.out, ← HNN.out] at h1
                      rw [h1, beq_self_eq_true]
                    have hE : decE l = 0 := by unfold decE; rw [HCK.out, if_neg (by omega), if_neg (by have := HKL.out; omega), if_pos hcb]
                    have hvv : hv (l.take (k + 1)) < 18446744073709551616 := by
                      have h1 := canon_value HBY.out (by rw [HCK.out]; omega) (by rw [HCK.out]; exact HKL.out) hcb
                      rw [HCK.out] at h1
                      exact h1
                    have HF : Hid (∀ w', K0 w w' → RGetPost w s p (.returned (.tuple #[.int .i64 nn, .int .i64 ((p : Int) + k + 1), .int .i64 0])) w') := by
                      show ∀ _, _ → _
                      intro w' hk
                      refine HP.out _ _ _ w' ?_ ?_ hE hk
                      · unfold decN
                        rw [if_pos hE, HCK.out, HNN.out, HV.out, Nat.mod_eq_of_lt hvv]
                      · unfold decT
                        rw [if_pos hE, HCK.out]
                    generalize putB nn = pb at HPUT he
                    clear hE hvv hcb
                    have s1 : IntKind.i64.wrap ((p : Int) + k) = p + k := IntWalk.i64_in _ (by omega)
                    have s2 : IntKind.i64.wrap ((p : Int) + k + 1) = p + k + 1 := IntWalk.i64_in _ (by omega)
                    have s3 : (0 : Int) ≤ p + k + 1 := by omega
                    have s4 : ((p : Int) + k + 1).toNat = p + k + 1 := by omega
                    go_region_with (go_at_call 35; refine (HPUT.out _).mono ?_; rintro e w1 ⟨rfl, hk⟩)
                    all_goals
                      clear s1 s2 s3 s4
                      go_wp2
                      go_ret3
                      exact HF.out _ (K0.tr (Keeps.refl _ _).drew hk)
                  | false =>
                    have he : ((putB nn).toList == (s.extract p (p + k + 1)).toList) = false := by
                      have h1 : ¬ putB nn = s.extract p (p + k + 1) := fun e => by
                        have h2 := (HPA.out (by rw [HCK.out]; omega) (by rw [HCK.out]; exact HKL.out)).1 (by rw [HCK.out, ← HV.out, ← HNN.out]; exact e)
                        rw [hcb] at h2
                        cases h2
                      rw [list_eq]
                      exact decide_eq_false h1
                    have hE : decE l = 3 := by unfold decE; rw [HCK.out, if_neg (by omega), if_neg (by have := HKL.out; omega), if_neg (by rw [hcb]; decide)]
                    have HF : Hid (∀ w', K0 w w' → RGetPost w s p (.returned (.tuple #[.int .i64 0, .int .i64 0, .int .i64 3])) w') := fun w' hk => HP.out 0 0 3 w' (by unfold decN; rw [hE]; rfl) (by unfold decT; rw [hE]; rfl) hE hk
                    generalize putB nn = pb at HPUT he
                    clear hE hcb
                    have s1 : IntKind.i64.wrap ((p : Int) + k) = p + k := IntWalk.i64_in _ (by omega)
                    have s2 : IntKind.i64.wrap ((p : Int) + k + 1) = p + k + 1 := IntWalk.i64_in _ (by omega)
                    have s3 : (0 : Int) ≤ p + k + 1 := by omega
                    have s4 : ((p : Int) + k + 1).toNat = p + k + 1 := by omega
                    go_region_with (go_at_call 35; refine (HPUT.out _).mono ?_; rintro e w1 ⟨rfl, hk⟩)
                    all_goals
                      clear s1 s2 s3 s4
                      go_wp2
                      go_ret3
                      exact HF.out _ (K0.tr (Keeps.refl _ _).drew hk)
              · obtain ⟨i, rfl⟩ : ∃ i, j = i + 1 := ⟨j - 1, by omega⟩
                have hie : ((i + 1 : Nat) : Int) - 1 = i := by omega
                have hil : i < l.length := by omega
                have hpi : p + i < s.size := by omega
                have hyl := HGT.out i hpi hil hpi
                have hy0 := s[p + i].toNat_lt
                have hdr : hv ((l.take (k + 1)).drop i) = l[i] % 128 + 128 * hv ((l.take (k + 1)).drop (i + 1)) := by
                  rw [hv_drop (by simp; omega), List.getElem_take]
                rw [hyl] at hdr
                have HDR := Lib.hid hdr
                rw [hie]
                generalize hv ((l.take (k + 1)).drop (i + 1)) = U at HDR ⊢
                have i0 : (0 : Int) ≤ i := by omega
                have i1 : (p : Int) + i < s.size := by omega
                clear hyl hdr hie
                go_wp2
                go_round
                case rel =>
                  refine ⟨i, by omega, rfl, congrArg _ ?_⟩
                  rw [HDR.out]
                  simp only [IntKind.wrap_u64]
                  omega
                case measure => first | (simp [intOf]; done) | (simp [intOf]; omega)
        · have j2 : ¬ (p : Int) + k < s.size := by omega
          have hkk : contK l = k ∧ l.length = k := by
            have := HKC.out
            have := contK_le l
            have := HL.out
            omega
          have hE : decE l = 2 := by unfold decE; rw [if_neg (by omega), if_pos (by omega)]
          have HF := Lib.hid (HP.out 0 0 2 w (by unfold decN; rw [hE]; rfl) (by unfold decT; rw [hE]; rfl) hE (Keeps.refl _ _))
          clear hkk hE
          go_wp2
          go_ret3
          exact HF.out
      · obtain rfl : k = 10 := by omega
        have hE : decE l = 3 := by unfold decE; rw [if_pos HKC.out]
        have HF := Lib.hid (HP.out 0 0 3 w (by unfold decN; rw [hE]; rfl) (by unfold decT; rw [hE]; rfl) hE (Keeps.refl _ _))
        clear hE
        go_wp2
        go_ret3
        exact HF.out
end Go.Proofs.Ytbjpifipjcfhkaa
