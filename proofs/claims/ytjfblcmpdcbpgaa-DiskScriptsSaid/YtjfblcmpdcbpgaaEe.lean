/-
  The document's disk: find, Used, Up, named, changed.
-/
import Derived.Test.YtjfblcmpdcbpgaaEg
import Derived.BigQuiet
namespace Go.Proofs.Ytjfblcmpdcbpgaa
open Go.RowKit Fx

def RFnd (R : DiskC) (s : ByteArray) (x : Int) : Prop := (∃ i : Nat, ∃ hi : i < R.files.length, x = i ∧ R.files[i].1 = s) ∨ (x = -1 ∧ aget R.files s = none)
theorem aget_no {l : List (ByteArray × FileC)} {s : ByteArray} (h : ∀ i (hi : i < l.length), l[i].1 ≠ s) : aget l s = none := by
  refine aget_out fun hm => ?_
  obtain ⟨p, hp, e⟩ := List.mem_map.1 hm
  obtain ⟨i, hi, rfl⟩ := List.mem_iff_getElem.1 hp
  exact h i hi e
theorem toList_ne {a b : ByteArray} (h : ¬ a = b) : (b.toList == a.toList) = false ∧ (a.toList == b.toList) = false := by
  have : ¬ a.toList = b.toList := fun e => h (by
    rw [ByteArray.toList_eq, ByteArray.toList_eq] at e
    exact data_inj e)
  exact ⟨by simpa using fun e => this e.symm, by simpa using this⟩
set_option maxRecDepth 100000 in
set_option maxHeartbeats 1000000 in
theorem rfind_any {w : World} {F : Nat → Prop} {b : Nat} {R : DiskC} {v : Value} (s : ByteArray) (h : RAt w F b R v) (hl : R.files.length ≤ 1000) :
    Calls Try.prog 49 #[.pointer (some ⟨b, 0, none⟩), .string s] w fun e w' => ∃ x, e = .returned (.int .i64 x) ∧ w' = w ∧ RFnd R s x := by
  have hb := block_lt h.blk
  have hx : w.cell? ⟨b, 1, none⟩ = some v := block_cell h.blk 1
  have HH := Lib.hid h
  rcases h.form with ⟨hnil, rfl⟩ | ⟨r, cap, rfl, hrb, hrl, hcap, hFr⟩
  · have HN := Lib.hid hnil
    clear h hnil
    go_enter Try.func49, Try.ntmps49
    go_wp2
    refine wp_loop_once ?_
    go_wp2
    go_ret
    exact ⟨_, rfl, rfl, .inr ⟨rfl, by rw [HN.out]; rfl⟩⟩
  · clear h
    go_enter Try.func49, Try.ntmps49
    go_wp2
    go_loopw [5] (fun i wr => ∃ k : Nat, i = .int .i64 k ∧ k ≤ R.files.length ∧ (∀ j (hj : j < R.files.length), j < k → R.files[j].1 ≠ s) ∧ wr = w) (fun i _ => R.files.length - (intOf i).toNat)
    case atStart => exact ⟨0, rfl, by omega, fun _ _ h => absurd h (Nat.not_lt_zero _), rfl⟩
    case round =>
      obtain ⟨k, rfl, hk, hq, rfl⟩ := hrel
      have HQ := Lib.hid hq
      clear hq
      by_cases hlt : k < R.files.length
      · have c0 := (HH.out.cell rfl k hlt).1
        have i0 : (0 : Int) ≤ k := by omega
        have i1 : (k : Int) < R.files.length := by omega
        by_cases he : R.files[k].1 = s
        · have HE := Lib.hid he
          rw [he] at c0
          have HLT := Lib.hid hlt
          clear he
          go_wp2
          go_ret
          exact ⟨_, rfl, rfl, .inl ⟨k, HLT.out, rfl, HE.out⟩⟩
        · have HE := Lib.hid he
          generalize R.files[k].1 = x at c0 he
          obtain ⟨he1, he2⟩ := toList_ne he
          have HLT := Lib.hid hlt
          clear he
          go_wp2
          go_roundw
          case rel => exact ⟨k + 1, by go_num, HLT.out, fun j hj h2 => (Nat.lt_succ_iff_lt_or_eq.1 h2).elim (HQ.out j hj) fun e => by subst e; exact HE.out, by first | rfl | trivial⟩
          case measure => have := HLT.out; simp [intOf]; omega
      · obtain rfl : k = R.files.length := by omega
        go_wp2
        go_ret
        exact ⟨_, rfl, rfl, .inr ⟨rfl, aget_no fun i hi => HQ.out i hi hi⟩⟩
theorem szF_take {l : List (ByteArray × FileC)} {k : Nat} (h : k < l.length) : szF (l.take (k + 1)) = szF (l.take k) + l[k].2.bytes.size := by
  unfold szF
  rw [List.take_succ_eq_append_getElem h, List.map_append, List.sum_append]
  simp
theorem szF_take_le (l : List (ByteArray × FileC)) (k : Nat) : szF (l.take k) ≤ szF l := by
  have h : szF l = szF (l.take k) + szF (l.drop k) := by
    unfold szF
    rw [← List.sum_append, ← List.map_append, List.take_append_drop]
  omega
set_option maxRecDepth 100000 in
set_option maxHeartbeats 1000000 in
theorem rused_any {w : World} {F : Nat → Prop} {b : Nat} {R : DiskC} {v : Value} (h : RAt w F b R v) (hl : R.files.length ≤ 1000) (hz : szF R.files ≤ 4194304) :
    Calls Try.prog 44 #[.pointer (some ⟨b, 0, none⟩)] w fun e w' => e = .returned (.int .i64 (szF R.files : Nat)) ∧ w' = w := by
  have hb := block_lt h.blk
  have hx : w.cell? ⟨b, 1, none⟩ = some v := block_cell h.blk 1
  have HH := Lib.hid h
  rcases h.form with ⟨hnil, rfl⟩ | ⟨r, cap, rfl, hrb, hrl, hcap, hFr⟩
  · have HN := Lib.hid hnil
    clear h hnil
    go_enter Try.func44, Try.ntmps44
    go_wp2
    refine wp_loop_once ?_
    go_wp2
    go_ret
    exact ⟨by rw [HN.out]; rfl, rfl⟩
  · clear h
    go_enter Try.func44, Try.ntmps44
    go_wp2
    go_loopw [4, 3] (fun i n wr => ∃ k : Nat, i = .int .i64 k ∧ k ≤ R.files.length ∧ n = .int .i64 (szF (R.files.take k) : Nat) ∧ wr = w) (fun i _ _ => R.files.length - (intOf i).toNat)
    case atStart => exact ⟨0, rfl, by omega, by simp [szF], rfl⟩
    case round =>
      obtain ⟨k, rfl, hk, rfl, rfl⟩ := hrel
      by_cases hlt : k < R.files.length
      · have c1 := (HH.out.cell rfl k hlt).2.1
        have i0 : (0 : Int) ≤ k := by omega
        have i1 : (k : Int) < R.files.length := by omega
        have hz1 := szF_take_le R.files (k + 1)
        have HZ := Lib.hid (szF_take hlt)
        rw [HZ.out] at hz1
        generalize R.files[k].2.bytes = x at c1 HZ hz1
        generalize szF (R.files.take k) = n0 at HZ hz1 ⊢
        have HLT := Lib.hid hlt
        clear hlt
        go_wp2
        go_roundw
        case rel =>
          refine ⟨k + 1, by go_num, HLT.out, ?_, by first | rfl | trivial⟩
          have h8 := HZ.out
          clear HZ
          generalize szF (R.files.take (k + 1)) = c9 at h8 ⊢
          subst h8
          go_num
        case measure => have := HLT.out; simp [intOf]; omega
      · obtain rfl : k = R.files.length := by omega
        rw [List.take_length]
        go_wp2
        go_ret
        exact ⟨rfl, rfl⟩
set_option maxRecDepth 100000 in
set_option maxHeartbeats 1000000 in
theorem rup_any {w : World} {F : Nat → Prop} {b : Nat} {R : DiskC} {v : Value} (h : RAt w F b R v) :
    Calls Try.prog 43 #[.pointer (some ⟨b, 0, none⟩)] w fun e w' => e = .returned (.bool (R.fuse != 0)) ∧ w' = w := by
  have hb := block_lt h.blk
  have hx : w.cell? ⟨b, 2, none⟩ = some (.int .i64 R.fuse) := block_cell h.blk 2
  clear h
  go_enter Try.func43, Try.ntmps43
  go_wp2
  go_ret
  exact ⟨rfl, rfl⟩
set_option maxRecDepth 100000 in
set_option maxHeartbeats 1000000 in
theorem rnamed_any (s : ByteArray) (w : World) : Calls Try.prog 48 #[.string s] w fun e w' => e = .returned (.bool (namedB s)) ∧ w' = w := by
  have HB : Hid (namedB s = (decide (1 ≤ s.size) && decide (s.size ≤ 40))) := by
    show _ = _
    unfold namedB
    by_cases h : s.size = 0
    · simp [h]
    · have : 1 ≤ s.size := by omega
      simp [h, this]
  by_cases h1 : 1 ≤ s.size
  · by_cases h2 : s.size ≤ 40
    · have i1 : (1 : Int) ≤ s.size := by omega
      have i2 : (s.size : Int) ≤ 40 := by omega
      have HC : Hid (namedB s = true) := by show _ = _; rw [HB.out]; simp [h1, h2]
      go_enter Try.func48, Try.ntmps48
      go_wp2
      go_ret
      exact ⟨by rw [HC.out]; rfl, rfl⟩
    · have i1 : (1 : Int) ≤ s.size := by omega
      have i2 : ¬ (s.size : Int) ≤ 40 := by omega
      have HC : Hid (namedB s = false) := by show _ = _; rw [HB.out]; simp [h2]
      go_enter Try.func48, Try.ntmps48
      go_wp2
      go_ret
      exact ⟨by rw [HC.out]; rfl, rfl⟩
  · have i1 : ¬ (1 : Int) ≤ s.size := by omega
    have HC : Hid (namedB s = false) := by show _ = _; rw [HB.out]; simp [h1]
    go_enter Try.func48, Try.ntmps48
    go_wp2
    go_ret
    exact ⟨by rw [HC.out]; rfl, rfl⟩
theorem burn_used (D : DiskC) : (burn D).files = D.files ∧ (burn D).room = D.room := ⟨rfl, rfl⟩
set_option maxRecDepth 100000 in
set_option maxHeartbeats 1000000 in
theorem rchanged_any {w : World} {F : Nat → Prop} {b : Nat} {R : DiskC} (h : RSt w F b R) (hf : -1 ≤ R.fuse ∧ R.fuse ≤ 9223372036854775807) :
    Calls Try.prog 51 #[.pointer (some ⟨b, 0, none⟩)] w fun e w' => e = .returned (.int .i64 0) ∧ RPost w F b (burn R) w' := by
  obtain ⟨v, h⟩ := h
  have hb := block_lt h.blk
  have hx : w.cell? ⟨b, 2, none⟩ = some (.int .i64 R.fuse) := block_cell h.blk 2
  have hfr := block_free h.blk 2
  by_cases h0 : 0 < R.fuse
  · have HB : Hid (burn R = ⟨R.room, R.used, R.fuse - 1, R.files⟩) := by show _ = _; unfold burn; rw [if_pos h0]
    have HP : Hid (RPost w F b (burn R) (w.setCell ⟨b, 2, none⟩ (.int .i64 (R.fuse - 1)))) := by
      show RPost _ _ _ _ _
      rw [HB.out]
      exact ⟨F, ⟨v, h.head ((Keeps.refl (fun k => k = b) w).setC 2 _ (fun _ => rfl)) (setCell_block h.blk 2 _) rfl⟩, fun k e => .inl e, (Keeps.refl F w).setC 2 _ (fun _ => h.fb)⟩
    clear h
    go_enter Try.func51, Try.ntmps51
    go_wp2
    go_ret
    exact ⟨rfl, HP.out⟩
  · have HB : Hid (burn R = R) := by show _ = _; unfold burn; rw [if_neg h0]
    have HP : Hid (RPost w F b (burn R) w) := by
      show RPost _ _ _ _ _
      rw [HB.out]
      exact RPost.same ⟨v, h⟩ (Keeps.refl _ _)
    clear h
    go_enter Try.func51, Try.ntmps51
    go_wp2
    go_ret
    exact ⟨rfl, HP.out⟩
end Go.Proofs.Ytjfblcmpdcbpgaa
