/-
  DiskCopies, walked: two disks, neither knows of the other one.
-/
import Derived.Test.YtjfblcmpdcbpgaaDv
import Derived.Test.YtjfblcmpdcbpgaaDm
namespace Go.Proofs.Ytjfblcmpdcbpgaa
open Go.RowKit Fx

theorem pairs_nodup {κ α : Type} {l : List (κ × α)} (h : KD l) : l.Nodup := by
  unfold KD at h
  rw [List.Nodup, List.pairwise_map] at h
  exact h.imp (fun hne e => hne (by rw [e]))
theorem perm_same {κ α : Type} [DecidableEq κ] {l1 l2 : List (κ × α)} (h1 : KD l1) (h2 : KD l2) (h : ∀ s, aget l1 s = aget l2 s) : l1.Perm l2 :=
  (List.perm_ext_iff_of_nodup (pairs_nodup h1) (pairs_nodup h2)).2 fun p => by
    obtain ⟨s, x⟩ := p
    exact ⟨fun e => aget_in (by rw [← h]; exact aget_of_mem h1 e), fun e => aget_in (by rw [h]; exact aget_of_mem h2 e)⟩
theorem DAt.base {w0 w1 w : World} {db mb : Nat} {D : DiskC} {L : List (ByteArray × (Nat × FileC))} (h : DAt w1 w db D mb L) (hk : K0 w0 w1) : DAt w0 w db D mb L :=
  ⟨K0.tr hk h.k0, h.blk, h.core, h.map, h.fil, h.apart, h.ne, ⟨Nat.le_trans hk.size h.new.1, Nat.le_trans hk.size h.new.2⟩, fun s p e => ⟨Nat.le_trans hk.size (h.fnew s p e).1, (h.fnew s p e).2⟩, h.keys⟩
theorem inD_lt {w0 w : World} {db mb : Nat} {D : DiskC} {L : List (ByteArray × (Nat × FileC))} (h : DAt w0 w db D mb L) {k : Nat} (e : inD db mb L k) : k < w.heap.size := by
  rcases e with rfl | rfl | ⟨s, p, h1, rfl⟩
  · exact block_lt h.blk
  · exact h.map.lt
  · exact block_lt (h.fil s p h1)
theorem inD_ge {w0 w : World} {db mb : Nat} {D : DiskC} {L : List (ByteArray × (Nat × FileC))} (h : DAt w0 w db D mb L) {k : Nat} (e : inD db mb L k) : w0.heap.size ≤ k := by
  rcases e with rfl | rfl | ⟨s, p, h1, rfl⟩
  · exact h.new.1
  · exact h.new.2
  · exact (h.fnew s p h1).1
/-- Two disks that share nothing. -/
def Pair (w0 w : World) (db : Nat) (D : DiskC) (cb : Nat) (C : DiskC) : Prop :=
  ∃ mb L mb2 L2, DAt w0 w db D mb L ∧ DAt w0 w cb C mb2 L2 ∧ ∀ k, inD db mb L k → ¬ inD cb mb2 L2 k
section
variable {w0 w w' : World} {db cb : Nat} {D C D' : DiskC}
theorem Pair.swap (h : Pair w0 w db D cb C) : Pair w0 w cb C db D := by
  obtain ⟨mb, L, mb2, L2, h1, h2, h3⟩ := h
  exact ⟨mb2, L2, mb, L, h2, h1, fun k e1 e2 => h3 k e2 e1⟩
theorem Pair.keep (h : Pair w0 w db D cb C) (hk : K0 w w') : Pair w0 w' db D cb C := by
  obtain ⟨mb, L, mb2, L2, h1, h2, h3⟩ := h
  exact ⟨mb, L, mb2, L2, h1.keep hk, h2.keep hk, h3⟩
theorem Pair.k0 (h : Pair w0 w db D cb C) : K0 w0 w := by
  obtain ⟨_, _, _, _, h1, _⟩ := h
  exact h1.k0
theorem pair_next {mb mb2 : Nat} {L L2 : List (ByteArray × (Nat × FileC))} (h2 : DAt w0 w cb C mb2 L2) (h1 : DAt w0 w db D mb L) (h3 : ∀ k, inD db mb L k → ¬ inD cb mb2 L2 k) (hn : DNext w0 w db mb L D' w') : Pair w0 w' db D' cb C := by
  obtain ⟨L', q1, q2, q3⟩ := hn
  refine ⟨mb, L', mb2, L2, q1, h2.keepS q3 (fun k e => ⟨inD_ge h1 e, fun e2 => h3 k e (.inl e2), fun e2 => h3 k e (.inr (.inl e2)), fun s p e2 e3 => h3 k e (.inr (.inr ⟨s, p, e2, e3⟩))⟩), fun k e e2 => ?_⟩
  have hlt := inD_lt h2 e2
  rcases e with rfl | rfl | ⟨s, p, e3, rfl⟩
  · exact h3 _ (.inl rfl) e2
  · exact h3 _ (.inr (.inl rfl)) e2
  · rcases q2 s p e3 with ⟨t, q, e4, e5⟩ | e4
    · exact h3 _ (.inr (.inr ⟨t, q, e4, e5⟩)) e2
    · omega
theorem pair_app (h : Pair w0 w db D cb C) (wf : WfD D) (s t : ByteArray) (ht : t.size ≤ 1000000) : Calls Try.prog 11 #[.pointer (some ⟨db, 0, none⟩), .string s, .string t] w fun e w' => e = .returned (.int .i64 (dappE D s t)) ∧ Pair w0 w' db (dappC D s t) cb C := by
  obtain ⟨mb, L, mb2, L2, h1, h2, h3⟩ := h
  exact (append_k h1 wf s t ht).mono fun e w' hq => ⟨hq.1, pair_next h2 h1 h3 hq.2⟩
theorem pair_drop (h : Pair w0 w db D cb C) (wf : WfD D) (s : ByteArray) : Calls Try.prog 16 #[.pointer (some ⟨db, 0, none⟩), .string s] w fun e w' => e = .returned (.int .i64 (fileE D s)) ∧ Pair w0 w' db (ddropC D s) cb C := by
  obtain ⟨mb, L, mb2, L2, h1, h2, h3⟩ := h
  exact (drop_k h1 wf s).mono fun e w' hq => ⟨hq.1, pair_next h2 h1 h3 hq.2⟩
theorem pair_read (h : Pair w0 w db D cb C) (s : ByteArray) : Calls Try.prog 14 #[.pointer (some ⟨db, 0, none⟩), .string s] w fun e w' => e = .returned (.tuple #[.string (dreadV D s), .int .i64 (fileE D s)]) ∧ Pair w0 w' db D cb C := by
  have h0 := h
  obtain ⟨mb, L, mb2, L2, h1, h2, h3⟩ := h
  exact (read_at h1 s).mono fun e w' hq => ⟨hq.1, h0.keep hq.2⟩
/-- A copy of a disk with one file. -/
theorem pair_copy (h : DOk w0 w db D) {n : ByteArray} {x : FileC} (hf : D.files = [(n, x)]) : Calls Try.prog 15 #[.pointer (some ⟨db, 0, none⟩)] w fun e w' => ∃ cb, e = .returned (.pointer (some ⟨cb, 0, none⟩)) ∧ Pair w0 w' db D cb D := by
  obtain ⟨⟨mb, L, h1⟩, wf⟩ := h
  refine (copy_at h1 wf (by rw [hf]; simp)).mono fun e w' hq => ?_
  obtain ⟨F2, rfl, ⟨mb2, L2, h2⟩, hag⟩ := hq
  have hkd : KD F2 := by
    have := h2.keys.amap (fun p : Nat × FileC => p.2)
    rw [h2.core] at this
    exact this
  have hp := perm_same hkd wf.keys hag
  rw [hf] at hp
  have hF : F2 = D.files := by rw [hf]; exact List.perm_singleton.1 hp
  rw [hF] at h2
  refine ⟨_, rfl, mb, L, mb2, L2, h1.keep h2.k0, h2.base h1.k0, fun k e1 e2 => ?_⟩
  have := inD_lt h1 e1
  have := inD_ge h2 e2
  omega
end
theorem cop1 {one t : ByteArray} (h : one.size ≤ 300) (h2 : t.size ≤ 300) : dappC ⟨2000, one.size, -1, [(tA, ⟨one, 0⟩)]⟩ tA t = ⟨2000, one.size + t.size, -1, [(tA, ⟨one ++ t, 0⟩)]⟩ := by
  rw [dapp_eq rfl tA_named' (by show ((one.size : Int)) + _ ≤ 2000; omega)]
  simp [oldF, aget, aput]
theorem cop2 (one : ByteArray) : ddropC ⟨2000, one.size, -1, [(tA, ⟨one, 0⟩)]⟩ tA = ⟨2000, 0, -1, []⟩ := by
  have hg : aget [(tA, (⟨one, 0⟩ : FileC))] tA = some ⟨one, 0⟩ := by simp [aget]
  unfold ddropC
  rw [if_pos (fileE_one rfl hg)]
  simp [burn, oldF, aget, adel]
theorem cop3 {t : ByteArray} (h2 : t.size ≤ 300) : dappC ⟨2000, 0, -1, []⟩ tB t = ⟨2000, t.size, -1, [(tB, ⟨t, 0⟩)]⟩ := by
  rw [dapp_eq rfl tB_named (by show (0 : Int) + _ ≤ 2000; omega)]
  simp [oldF, aget, aput, noFile, empty_app]
set_option maxRecDepth 100000 in
set_option maxHeartbeats 4000000 in
theorem copies_any (one t : ByteArray) (w0 : World) (hs1 : one.size ≤ maxLen) (hs2 : t.size ≤ maxLen) :
    Calls Try.prog 4 #[.string one, .string t] w0 fun e w' => Same w0 e (.bool true) w' := by
  have b1 : (one.size : Int) ≤ 9223372036854775807 := by unfold maxLen at hs1; omega
  have b2 : (t.size : Int) ≤ 9223372036854775807 := by unfold maxLen at hs2; omega
  clear hs1 hs2
  by_cases q1 : 300 < (one.size : Int)
  · go_enter Try.func4, Try.ntmps4
    go_wp2_with fail
    refine (live_any _).mono ?_
    rintro e w2 ⟨rfl, k2⟩
    go_wp2
    go_ret
    exact ⟨rfl, k2⟩
  · by_cases q2 : 300 < (t.size : Int)
    · go_enter Try.func4, Try.ntmps4
      go_wp2_with fail
      refine (live_any _).mono ?_
      rintro e w2 ⟨rfl, k2⟩
      go_wp2
      go_ret
      exact ⟨rfl, k2⟩
    · have z1 : one.size ≤ 300 := by omega
      have z2 : t.size ≤ 300 := by omega
      have Z1 := Lib.hid z1
      have Z2 := Lib.hid z2
      have wf1 : WfD ⟨2000, one.size, -1, [(tA, ⟨one, 0⟩)]⟩ := by rw [← apart1 z1]; exact (WfD.new (by omega)).app _ _
      have WF1 := Lib.hid wf1
      have WF2 : Hid (WfD ⟨2000, 0, -1, []⟩) := by show WfD _; rw [← cop2 one]; exact wf1.drop _
      have H0 := Lib.hid (st_new 2000 w0 (by omega))
      clear wf1
      go_enter Try.func4, Try.ntmps4
      go_wp2_with fail
      refine H0.out.mono ?_
      rintro e w1 ⟨db, rfl, h1⟩
      have A1 := st_app h1 tA one (by omega)
      rw [apart1 z1] at A1
      have A1 := Lib.hid A1
      clear h1
      go_wp2_with fail
      refine A1.out.mono ?_
      rintro e w2 ⟨rfl, h2⟩
      have C1 := Lib.hid (pair_copy h2 rfl)
      clear h2
      go_wp2_with fail
      refine C1.out.mono ?_
      rintro e w3 ⟨cb, rfl, h3⟩
      have A2 := pair_app h3 WF1.out tA t (by omega)
      rw [cop1 z1 z2] at A2
      have A2 := Lib.hid A2
      clear h3
      go_wp2_with fail
      refine A2.out.mono ?_
      rintro e w4 ⟨rfl, h4⟩
      have D1 := pair_drop h4.swap WF1.out tA
      rw [cop2] at D1
      have D1 := Lib.hid D1
      clear h4
      go_wp2_with fail
      refine D1.out.mono ?_
      rintro e w5 ⟨rfl, h5⟩
      have A3 := pair_app h5 WF2.out tB t (by omega)
      rw [cop3 z2] at A3
      have A3 := Lib.hid A3
      clear h5
      go_wp2_with fail
      refine A3.out.mono ?_
      rintro e w6 ⟨rfl, h6⟩
      have R1 := pair_read h6.swap tA
      rw [dread_eq (x := ⟨one ++ t, 0⟩) rfl (by simp [aget]), fileE_one (x := ⟨one ++ t, 0⟩) rfl (by simp [aget])] at R1
      have R1 := Lib.hid R1
      clear h6
      go_wp2_with fail
      refine R1.out.mono ?_
      rintro e w7 ⟨rfl, h7⟩
      have R2 := pair_read h7 tB
      rw [fileE_out rfl (by simp [aget, ab])] at R2
      have R2 := Lib.hid R2
      clear h7
      generalize dreadV ⟨2000, (one.size : Int) + t.size, -1, [(tA, ⟨one ++ t, 0⟩)]⟩ tB = xx at R2
      go_wp2_with fail
      refine R2.out.mono ?_
      rintro e w8 ⟨rfl, h8⟩
      have R3 := pair_read h8.swap tB
      rw [dread_eq (x := ⟨t, 0⟩) rfl (by simp [aget]), fileE_one (x := ⟨t, 0⟩) rfl (by simp [aget])] at R3
      have R3 := Lib.hid R3
      clear h8
      go_wp2_with fail
      refine R3.out.mono ?_
      rintro e w9 ⟨rfl, h9⟩
      have R4 := pair_read h9 tA
      rw [fileE_out rfl (by simp [aget, ba])] at R4
      have R4 := Lib.hid R4
      clear h9
      generalize dreadV ⟨2000, (t.size : Int), -1, [(tB, ⟨t, 0⟩)]⟩ tA = xy at R4
      go_wp2_with fail
      refine R4.out.mono ?_
      rintro e w10 ⟨rfl, h10⟩
      have HK := Lib.hid h10.k0
      clear h10
      go_wp2_with fail
      refine (live_any _).mono ?_
      rintro e w11 ⟨rfl, k11⟩
      have HF := Lib.hid (K0.tr HK.out k11)
      clear k11
      go_wp2
      go_ret
      exact ⟨rfl, HF.out⟩
end Go.Proofs.Ytjfblcmpdcbpgaa
