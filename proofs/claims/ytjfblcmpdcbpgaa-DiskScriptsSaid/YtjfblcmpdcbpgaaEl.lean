/-
  The document's disk: Names; are two lists the same?
-/
import Derived.Test.YtjfblcmpdcbpgaaEk
namespace Go.Proofs.Ytjfblcmpdcbpgaa
open Go.RowKit Fx

theorem infoText : (Try.prog.info? 9).map (fun i => (i.zero, i.size, i.bytes)) = some (some (.string ⟨#[]⟩), 1, 16) := by kernel_rfl
/-- The names as they come. -/
def RNamesPost (w : World) (ss : List ByteArray) (e : Ending) (w' : World) : Prop := ∃ a c, e = .returned (.slice a ss.length c) ∧ Strs w' a ss ∧ K0 w w'
theorem keys_take {l : List (ByteArray × FileC)} {k : Nat} (h : k < l.length) : (keysF l).take (k + 1) = (keysF l).take k ++ [l[k].1] := by
  have h1 : k < (keysF l).length := by simpa [keysF] using h
  rw [List.take_succ_eq_append_getElem h1]
  simp [keysF]
set_option maxRecDepth 100000 in
set_option maxHeartbeats 2000000 in
theorem rnamesM_any {w : World} {F : Nat → Prop} {b : Nat} {R : DiskC} (h : RSt w F b R) (hl : R.files.length ≤ 1000) :
    Calls Try.prog 42 #[.pointer (some ⟨b, 0, none⟩)] w (RNamesPost w (if R.fuse = 0 then [] else keysF R.files)) := by
  obtain ⟨v, h⟩ := h
  have HH := Lib.hid h
  have hb := block_lt h.blk
  have hx : w.cell? ⟨b, 1, none⟩ = some v := block_cell h.blk 1
  have hown0 : w.ownsRow w.heap.size 9 1 (.slice none 0 0) 0 [] := World.ownsRow_nil _ _ _ _
  rcases h.form with ⟨hnil, rfl⟩ | ⟨r, cap, rfl, hrb, hrl, hcap, hFr⟩
  · have HK : Hid ((if R.fuse = 0 then [] else keysF R.files) = []) := by show _ = _; rw [hnil]; split <;> rfl
    rw [HK.out]
    clear h hnil
    go_enter Try.func42, Try.ntmps42
    go_wp2
    refine wp_loop_once ?_
    go_wp2
    go_ret
    exact ⟨none, 0, rfl, Strs.nil _ _, Keeps.refl _ _⟩
  · by_cases hf : R.fuse = 0
    · have HU := Lib.hid (rup_no h hf)
      rw [if_pos hf]
      clear h hf
      by_cases hz : R.files.length = 0
      · have HZ : Hid (R.files.length = 0) := hz
        rw [hz] at hx
        clear hz
        go_enter Try.func42, Try.ntmps42
        go_wp2
        refine wp_loop_once ?_
        go_wp2
        go_ret
        exact ⟨none, 0, rfl, Strs.nil _ _, Keeps.refl _ _⟩
      · have i1 : (0 : Int) < R.files.length := by omega
        clear hz
        go_enter Try.func42, Try.ntmps42
        go_wp2
        refine wp_loop_once ?_
        go_wp2_with fail
        refine HU.out.mono ?_
        rintro e w1 ⟨rfl, rfl⟩
        go_wp2
        go_ret
        exact ⟨none, 0, rfl, Strs.nil _ _, Keeps.refl _ _⟩
    · have HU : Hid (∀ wr, K0 w wr → Calls Try.prog 43 #[.pointer (some ⟨b, 0, none⟩)] wr fun e w' => e = .returned (.bool true) ∧ w' = wr) := fun wr hk => rup_yes (h.keep hk (fun _ _ e => e)) hf
      rw [if_neg hf]
      clear h hf
      go_enter Try.func42, Try.ntmps42
      go_wp2
      go_loopw [4, 3] (fun i v wr => ∃ k : Nat, i = .int .i64 k ∧ k ≤ R.files.length ∧ wr.ownsRow w.heap.size 9 1 v k (((keysF R.files).take k).map .string) ∧ K0 w wr) (fun i _ _ => R.files.length - (intOf i).toNat)
      case atStart => exact ⟨0, rfl, by omega, hown0, Keeps.refl _ _⟩
      case round =>
        obtain ⟨k, rfl, hk, hown, hkr⟩ := hrel
        have hkz := hkr.size
        have hat := HH.out.keep hkr (fun _ _ e => e)
        have HAT := Lib.hid hat
        have hb := block_lt hat.blk
        have hx : wr.cell? ⟨b, 1, none⟩ = some (.slice (some ⟨r, 0, none⟩) R.files.length cap) := block_cell hat.blk 1
        have HUR := Lib.hid (HU.out wr hkr)
        have HKR := Lib.hid hkr
        have HOW := Lib.hid hown
        obtain ⟨va, vc, rfl⟩ := own_slice hown
        clear hat hkr
        by_cases hlt : k < R.files.length
        · have c0 := (HAT.out.cell rfl k hlt).1
          have i0 : (0 : Int) ≤ k := by omega
          have i1 : (k : Int) < R.files.length := by omega
          have hrl := World.block_lt_of_cell? _ _ c0
          have HKT := Lib.hid (keys_take hlt)
          generalize R.files[k].1 = nm at c0 HKT
          have HLT := Lib.hid hlt
          clear hlt
          go_wp2_with fail
          refine HUR.out.mono ?_
          rintro e w1 ⟨rfl, rfl⟩
          go_wp2_with (at_builtin; refine wpList_app1 rfl rfl Try.underlying37 infoText rfl (by decide) rfl (hown.alloc _) rfl (heap_new _ _ _ rfl) rfl rfl ⟨by omega, by decide⟩ (by simp; omega) ?_; intro g1 c1 w2 hA)
          have HA := Lib.hid hA
          have HK2 : Hid (K0 w w2) := (HKR.out.alloc _).grown hA.grown (fun k e hlt => absurd (HOW.out.lt k e).1 (by omega))
          clear hA hown
          go_roundw
          case rel => exact ⟨k + 1, by go_num, HLT.out, by rw [HKT.out, List.map_append]; exact HA.out.own, HK2.out⟩
          case measure => have := HLT.out; simp [intOf]; omega
        · obtain rfl : k = R.files.length := by omega
          have HPO : Hid (RNamesPost w (keysF R.files) (.returned (.slice va R.files.length vc)) wr) := by
            have hkl : (keysF R.files).length = R.files.length := by simp [keysF]
            have h1 := HOW.out
            rw [← hkl, List.take_length] at h1
            obtain ⟨a, c, e, hS⟩ := Strs.of_own h1
            rw [hkl] at e
            cases e
            exact ⟨va, vc, by rw [hkl], hS, HKR.out⟩
          clear hown
          go_wp2
          go_ret
          exact HPO.out
set_option maxRecDepth 100000 in
set_option maxHeartbeats 2000000 in
/-- Two lists of texts, told apart. -/
theorem same_any {w : World} {a b : Option Addr} {c d : Nat} {ss ts : List ByteArray} (h1 : Strs w a ss) (h2 : Strs w b ts) :
    Calls Try.prog 41 #[.slice a ss.length c, .slice b ts.length d] w fun e w' => e = .returned (.bool (decide (ss = ts))) ∧ K0 w w' := by
  have m1 := h1.len
  have m2 := h2.len
  by_cases hlen : ss.length = ts.length
  · by_cases hz : ss = []
    · subst hz
      have hz2 : ts = [] := List.eq_nil_of_length_eq_zero hlen.symm
      subst hz2
      clear h1 h2 hlen
      go_enter Try.func41, Try.ntmps41
      go_wp2
      refine wp_loop_once ?_
      go_wp2
      go_ret
      exact ⟨rfl, Keeps.refl _ _⟩
    · obtain ⟨r1, rfl, l1, c1⟩ := h1.row hz
      obtain ⟨r2, rfl, l2, c2⟩ := h2.row (fun e => hz (List.eq_nil_of_length_eq_zero (by rw [hlen, e]; rfl)))
      have H1 := Lib.hid c1
      have H2 := Lib.hid c2
      have HL := Lib.hid hlen
      have q1 : ((ss.length : Int) == ts.length) = true := by simp; omega
      have q2 : (ss.length == ts.length) = true := by simp; omega
      clear h1 h2 c1 c2 hz hlen
      go_enter Try.func41, Try.ntmps41
      go_wp2
      go_loopw [5] (fun i wr => ∃ k : Nat, i = .int .i64 k ∧ k ≤ ss.length ∧ (∀ j (hj : j < ss.length) (hj2 : j < ts.length), j < k → ss[j] = ts[j]) ∧ K0 w wr) (fun i _ => ss.length - (intOf i).toNat)
      case atStart => exact ⟨0, rfl, by omega, fun _ _ _ h => absurd h (Nat.not_lt_zero _), Keeps.refl _ _⟩
      case round =>
        obtain ⟨k, rfl, hk, hq, hkr⟩ := hrel
        have HQ := Lib.hid hq
        have HKR := Lib.hid hkr
        have s1 := Nat.lt_of_lt_of_le l1 hkr.size
        have s2 := Nat.lt_of_lt_of_le l2 hkr.size
        clear hq
        by_cases hlt : k < ss.length
        · have hlt2 : k < ts.length := by have := HL.out; omega
          have d1 := hkr.cell' (H1.out k hlt) (fun e => e)
          have d2 := hkr.cell' (H2.out k hlt2) (fun e => e)
          have i0 : (0 : Int) ≤ k := by omega
          have i1 : (k : Int) < ss.length := by omega
          have i2 : (k : Int) < ts.length := by omega
          by_cases he : ss[k] = ts[k]
          · have HE := Lib.hid he
            rw [he] at d1
            generalize ts[k] = x at d1 d2
            have HLT := Lib.hid hlt
            clear he hkr
            go_wp2_with fail
            go_quiet (fail)
            go_wp2
            go_roundw
            case rel => exact ⟨k + 1, by go_num, HLT.out, fun j hj hj2 h2 => (Nat.lt_succ_iff_lt_or_eq.1 h2).elim (HQ.out j hj hj2) fun e => by subst e; exact HE.out, HKR.out.drewN _⟩
            case measure => have := HLT.out; simp [intOf]; omega
          · have HD : Hid (decide (ss = ts) = false) := by show _ = _; exact decide_eq_false (fun e => he (by simp only [e]))
            generalize ts[k] = x at d2 he
            generalize ss[k] = y at d1 he
            obtain ⟨he1, he2⟩ := toList_ne he
            clear he hkr
            go_wp2_with fail
            go_quiet (fail)
            go_wp2
            go_ret
            exact ⟨by rw [HD.out]; rfl, HKR.out.drewN _⟩
        · have HD : Hid (decide (ss = ts) = true) := by
            show _ = _
            exact decide_eq_true (List.ext_getElem HL.out fun j h1 h2 => HQ.out j h1 h2 (by omega))
          have i1 : ¬ (k : Int) < ss.length := by omega
          clear hkr
          go_wp2
          go_ret
          exact ⟨by rw [HD.out]; rfl, HKR.out⟩
  · have HD : Hid (decide (ss = ts) = false) := by show _ = _; exact decide_eq_false (fun e => hlen (by rw [e]))
    have q1 : ((ss.length : Int) == ts.length) = false := by simp; omega
    clear h1 h2
    go_enter Try.func41, Try.ntmps41
    go_wp2
    go_ret
    exact ⟨by rw [HD.out]; rfl, Keeps.refl _ _⟩
end Go.Proofs.Ytjfblcmpdcbpgaa
