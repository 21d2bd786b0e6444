/-
  A disk's Room and Names; a list of texts in memory.
-/
import Derived.Test.YtjfblcmpdcbpgaaEd
namespace Go.Proofs.Ytjfblcmpdcbpgaa
open Go.RowKit Fx

/-- A list of texts that lies somewhere. -/
structure Strs (w : World) (a : Option Addr) (ss : List ByteArray) : Prop where
  len : ss.length ≤ 9223372036854775807
  row : ss ≠ [] → ∃ b, a = some ⟨b, 0, none⟩ ∧ b < w.heap.size ∧ ∀ i (h : i < ss.length), w.cell? ⟨b, i, none⟩ = some (.string ss[i])
theorem Strs.keep {w w' : World} {a : Option Addr} {ss : List ByteArray} (h : Strs w a ss) (hk : K0 w w') : Strs w' a ss :=
  ⟨h.len, fun hne => by
    obtain ⟨b, h1, h2, h3⟩ := h.row hne
    exact ⟨b, h1, Nat.lt_of_lt_of_le h2 hk.size, fun i hi => hk.cell' (h3 i hi) (fun e => e)⟩⟩
theorem Strs.nil (w : World) (a : Option Addr) : Strs w a [] := ⟨by simp, fun h => absurd rfl h⟩
theorem Strs.of_own {w : World} {base : Nat} {e : TypeId} {v : Value} {ss : List ByteArray} (h : w.ownsRow base e 1 v ss.length (ss.map .string)) : ∃ a c, v = .slice a ss.length c ∧ Strs w a ss := by
  have h0 := h
  rcases h.2 with ⟨rfl, h1⟩ | ⟨g, cap, cur, rfl, hb, hg, hc, hm, _⟩
  · have h2 : ss = [] := List.eq_nil_of_length_eq_zero h1
    subst h2
    exact ⟨none, 0, rfl, Strs.nil _ _⟩
  · refine ⟨_, cap, rfl, by unfold maxLen at hm; omega, fun _ => ⟨g, rfl, block_lt hg, fun i hi => ?_⟩⟩
    rw [h0.cellAt i (by omega), List.getElem?_map, List.getElem?_eq_getElem hi]
    rfl
section
variable {w0 w : World} {db mb : Nat} {D : DiskC} {L : List (ByteArray × (Nat × FileC))}
set_option maxRecDepth 100000 in
set_option maxHeartbeats 1000000 in
theorem room_at (h : DAt w0 w db D mb L) : Calls Try.prog 25 #[.pointer (some ⟨db, 0, none⟩)] w fun e w' => Same w e (.int .i64 D.room) w' := by
  have c1 : w.cell? ⟨db, 0, none⟩ = some (.int .i64 D.room) := block_cell h.blk 0
  have hlt := block_lt h.blk
  clear h
  go_enter Try.func25, Try.ntmps25
  go_wp2
  go_ret
  exact ⟨rfl, Keeps.refl _ _⟩
/-- The names as they come. -/
def NamesPost (w : World) (D : DiskC) (e : Ending) (w' : World) : Prop :=
  ∃ a c ss, e = .returned (.slice a ss.length c) ∧ Strs w' a ss ∧ K0 w w' ∧ (D.fuse = 0 → ss = []) ∧ (¬ D.fuse = 0 → ss.Perm (keysF D.files) ∧ (ss.map fun s => s.data.toList).Pairwise fun x y => x ≤ y)
set_option maxRecDepth 100000 in
set_option maxHeartbeats 2000000 in
theorem names_at (h : DAt w0 w db D mb L) (wf : WfD D) (hl : D.files.length ≤ 1000) : Calls Try.prog 19 #[.pointer (some ⟨db, 0, none⟩)] w (NamesPost w D) := by
  have HA := asked_at h
  unfold askE at HA
  by_cases hf : D.fuse = 0
  · have HF := Lib.hid hf
    rw [if_pos hf] at HA
    have HA := Lib.hid HA
    clear h wf hf
    go_enter Try.func19, Try.ntmps19
    go_wp2_with fail
    refine HA.out.mono ?_
    rintro e w1 ⟨rfl, k1⟩
    have HK := Lib.hid k1
    clear k1
    go_wp2
    go_ret
    exact ⟨none, 0, [], rfl, Strs.nil _ _, HK.out, fun _ => rfl, fun e => absurd HF.out e⟩
  · have HF := Lib.hid hf
    rw [if_neg hf] at HA
    have HA := Lib.hid HA
    have hLl : L.length = D.files.length := by rw [← h.core]; simp [amap]
    have HSR : Hid (∀ w1, K0 w w1 → Calls Try.prog 30 #[.func (.func 47) #[] #[.pointer (some ⟨w1.heap.size, 0, none⟩)]] (w1.alloc (.cells #[.map (some mb)] 57)) fun e w' => ∃ v ss, e = .returned v ∧ NamesAt (w1.heap.size + 1) w' v ss (avals fptr L) ∧ K0 (w1.alloc (.cells #[.map (some mb)] 57)) w') :=
      fun w1 k1 => sorted_any (h.keep k1).map (h.small wf) (by simp [avals]; omega)
    have hka : (avals fptr L).map (·.1) = keysF D.files := by rw [← h.core]; unfold keysF; rw [amap_keys]; simp [avals, Function.comp_def]
    have HKA := Lib.hid hka
    have HH := Lib.hid h
    clear h wf hf hka hl hLl
    go_enter Try.func19, Try.ntmps19
    go_wp2_with fail
    refine HA.out.mono ?_
    rintro e w1 ⟨rfl, k1⟩
    have c3 : w1.cell? ⟨db, 3, none⟩ = some (.map (some mb)) := block_cell (HH.out.keep k1).blk 3
    have hlt := block_lt (HH.out.keep k1).blk
    have K1 := Lib.hid k1
    clear k1
    go_wp2_with fail
    refine (keys_any (some mb) w1).mono ?_
    rintro e w2 ⟨rfl, rfl⟩
    clear c3 hlt
    go_wp2_with fail
    refine (HSR.out w1 K1.out).mono ?_
    rintro e w2 ⟨v, ss, rfl, hN, k2⟩
    obtain ⟨a9, c9, rfl, hS⟩ := Strs.of_own hN.row
    have HP : Hid (NamesPost w D (.returned (.slice a9 ss.length c9)) w2) := ⟨a9, c9, ss, rfl, hS, K0.tr K1.out (K0.tr ((Keeps.refl _ _).alloc _) k2), fun e => absurd e HF.out, fun _ => ⟨by rw [← HKA.out]; exact hN.perm, hN.ord⟩⟩
    clear hN hS k2
    go_wp2
    go_ret
    exact HP.out
end
end Go.Proofs.Ytjfblcmpdcbpgaa
