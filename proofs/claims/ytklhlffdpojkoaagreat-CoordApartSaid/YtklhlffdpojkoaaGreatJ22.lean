/-
  A coordinator's calls: New, a group that is there, May, Leave, Group, Commit, Committed.
-/
import Derived.Test.YtklhlffdpojkoaaGreatJ21
namespace Go.Proofs.YtklhlffdpojkoaaGreat
open Go.RowKit Go.Shelf Fx

theorem zeroPtr (w : World) : (zeroValue 61).run Tryz.prog w = .ok (.pointer none) w := by kernel_rfl
section
variable {w0 w : World} {cb : Nat} {C : CoordC} {Y : CLay}
theorem CAt.agetL (h : CAt w0 w cb C Y) (s : ByteArray) : aget C.gs s = (aget Y.L s).map (·.2) := by rw [← h.core, aget_core]
theorem CAt.some (h : CAt w0 w cb C Y) {s : ByteArray} {g : GroupC} (e : aget C.gs s = Option.some g) : ∃ b, aget Y.L s = Option.some (b, g) := by
  rw [h.agetL] at e
  cases h1 : aget Y.L s with
  | none => rw [h1] at e; cases e
  | some p =>
    rw [h1] at e
    obtain ⟨b, g1⟩ := p
    cases e
    exact ⟨b, rfl⟩
theorem CAt.none (h : CAt w0 w cb C Y) {s : ByteArray} (e : aget C.gs s = Option.none) : aget Y.L s = Option.none := by
  rw [h.agetL] at e
  cases h1 : aget Y.L s with
  | none => rfl
  | some p => rw [h1] at e; cases e
set_option maxRecDepth 100000 in
set_option maxHeartbeats 1000000 in
theorem group_nil (s : ByteArray) (w : World) : Calls Tryz.prog 41 #[.pointer Option.none, .string s] w fun e w' => Same w e (.tuple #[.pointer Option.none, .int .i64 1]) w' := by
  go_enter Tryz.func41, Tryz.ntmps41
  go_wp2
  go_ret2
  exact ⟨rfl, Keeps.refl _ _⟩
set_option maxRecDepth 100000 in
set_option maxHeartbeats 1000000 in
theorem group_none (h : CAt w0 w cb C Y) (s : ByteArray) (e : aget Y.L s = Option.none) : Calls Tryz.prog 41 #[.pointer (Option.some ⟨cb, 0, Option.none⟩), .string s] w fun e w' => Same w e (.tuple #[.pointer Option.none, .int .i64 11]) w' := by
  have c2 : w.cell? ⟨cb, 2, Option.none⟩ = Option.some (.map (Option.some Y.gb)) := block_cell h.blk 2
  have hlt := block_lt h.blk
  have hm := Lib.hid h.map
  have HV : Hid (aget (avals gptr Y.L) s = Option.none) := by show _ = _; rw [aget_avals, e]; rfl
  clear h e
  go_enter Tryz.func41, Tryz.ntmps41
  go_wp2_with (at_lookup; refine wpList_look (strKey Tryz.underlying9) rfl rfl Tryz.underlying67 zeroPtr rfl s rfl hm.out _ HV.out ?_)
  go_ret2
  exact ⟨rfl, Keeps.refl _ _⟩
set_option maxRecDepth 100000 in
set_option maxHeartbeats 1000000 in
theorem group_some (h : CAt w0 w cb C Y) (s : ByteArray) {b : Nat} {g : GroupC} (e : aget Y.L s = Option.some (b, g)) : Calls Tryz.prog 41 #[.pointer (Option.some ⟨cb, 0, Option.none⟩), .string s] w fun e w' => Same w e (.tuple #[.pointer (Option.some ⟨b, 0, Option.none⟩), .int .i64 0]) w' := by
  have c2 : w.cell? ⟨cb, 2, Option.none⟩ = Option.some (.map (Option.some Y.gb)) := block_cell h.blk 2
  have hlt := block_lt h.blk
  have hm := Lib.hid h.map
  have HV : Hid (aget (avals gptr Y.L) s = Option.some (.pointer (Option.some ⟨b, 0, Option.none⟩))) := by show _ = _; rw [aget_avals, e]; rfl
  clear h e
  go_enter Tryz.func41, Tryz.ntmps41
  go_wp2_with (at_lookup; refine wpList_look (strKey Tryz.underlying9) rfl rfl Tryz.underlying67 zeroPtr rfl s rfl hm.out _ HV.out ?_)
  go_ret2
  exact ⟨rfl, Keeps.refl _ _⟩
def cmayE (C : CoordC) (s : ByteArray) (m gn : Int) : Int := match aget C.gs s with
  | Option.none => if m = -1 ∧ gn = -1 then 0 else 11
  | Option.some g => if m = -1 ∧ gn = -1 then (if g.phase = 0 then 0 else 11) else knowsE g m gn
/-- Each group has room for n more steps. -/
def COk (n : Nat) (C : CoordC) : Prop := ∀ s g, aget C.gs s = Option.some g → Ok n g
set_option maxRecDepth 100000 in
set_option maxHeartbeats 2000000 in
theorem may_at (h : CAt w0 w cb C Y) (s : ByteArray) (m gn : Int) {n : Nat} (ok : COk n C) (hm : -9223372036854775808 ≤ m ∧ m ≤ 9223372036854775807) :
    Calls Tryz.prog 18 #[.pointer (Option.some ⟨cb, 0, Option.none⟩), .string s, .int .i64 m, .int .i64 gn] w fun e w' => Same w e (.int .i64 (cmayE C s m gn)) w' := by
  unfold cmayE
  cases hg : aget C.gs s with
  | none =>
    have G := Lib.hid (group_none h s (h.none hg))
    clear hg h ok
    dsimp only
    by_cases h1 : m = -1
    · by_cases h2 : gn = -1
      · rw [if_pos ⟨h1, h2⟩]
        subst h1 h2
        go_enter Tryz.func18, Tryz.ntmps18
        go_wp2_with fail
        refine G.out.mono ?_
        rintro e w1 ⟨rfl, k1⟩
        go_wp2
        go_ret
        exact ⟨rfl, k1⟩
      · rw [if_neg (fun e => h2 e.2)]
        subst h1
        go_enter Tryz.func18, Tryz.ntmps18
        go_wp2_with fail
        refine G.out.mono ?_
        rintro e w1 ⟨rfl, k1⟩
        go_wp2
        go_ret
        exact ⟨rfl, k1⟩
    · rw [if_neg (fun e => h1 e.1)]
      go_enter Tryz.func18, Tryz.ntmps18
      go_wp2_with fail
      refine G.out.mono ?_
      rintro e w1 ⟨rfl, k1⟩
      go_wp2
      go_ret
      exact ⟨rfl, k1⟩
  | some g =>
    obtain ⟨b, hb⟩ := h.some hg
    have hok := ok s g hg
    obtain ⟨i, hi, h3, hix, hgr⟩ := h.at hb
    have G := Lib.hid (group_some h s hb)
    have V := Lib.hid (fun (wx : World) (hk : K0 w wx) => view_any wx _ b g (hgr.keep hk fun _ _ e => e) (by have := hok.wf.len; omega) hok.bnd)
    have KN := Lib.hid (fun (wx : World) (hk : K0 w wx) => knows_any wx _ b g m gn (hgr.keep hk fun _ _ e => e) hok.wf hm)
    have vf := view_field0
    clear hg h ok hb hgr h3 hix hi hok
    dsimp only
    by_cases h1 : m = -1
    · by_cases h2 : gn = -1
      · rw [if_pos ⟨h1, h2⟩]
        subst h1 h2
        by_cases hp : g.phase = 0
        · rw [if_pos hp]
          go_enter Tryz.func18, Tryz.ntmps18
          go_wp2_with fail
          refine G.out.mono ?_
          rintro e w1 ⟨rfl, k1⟩
          go_wp2_with fail
          refine (V.out _ k1).mono ?_
          intro e w2 hq
          obtain ⟨a, c, rfl, _, k2⟩ := hq.seen
          rw [hp]
          clear hq
          go_wp2
          go_ret
          exact ⟨rfl, K0.tr k1 k2⟩
        · rw [if_neg hp]
          go_enter Tryz.func18, Tryz.ntmps18
          go_wp2_with fail
          refine G.out.mono ?_
          rintro e w1 ⟨rfl, k1⟩
          go_wp2_with fail
          refine (V.out _ k1).mono ?_
          intro e w2 hq
          obtain ⟨a, c, rfl, _, k2⟩ := hq.seen
          clear hq
          go_wp2
          go_ret
          exact ⟨rfl, K0.tr k1 k2⟩
      · rw [if_neg (fun e => h2 e.2)]
        subst h1
        go_enter Tryz.func18, Tryz.ntmps18
        go_wp2_with fail
        refine G.out.mono ?_
        rintro e w1 ⟨rfl, k1⟩
        go_wp2_with fail
        refine (KN.out _ k1).mono ?_
        rintro e w2 ⟨rfl, k2⟩
        go_wp2
        go_ret
        exact ⟨rfl, K0.tr k1 k2⟩
    · rw [if_neg (fun e => h1 e.1)]
      go_enter Tryz.func18, Tryz.ntmps18
      go_wp2_with fail
      refine G.out.mono ?_
      rintro e w1 ⟨rfl, k1⟩
      go_wp2_with fail
      refine (KN.out _ k1).mono ?_
      rintro e w2 ⟨rfl, k2⟩
      go_wp2
      go_ret
      exact ⟨rfl, K0.tr k1 k2⟩
def cleaveE (C : CoordC) (s : ByteArray) (m now : Int) : Int := match aget C.gs s with
  | Option.none => 11
  | Option.some g => leaveE g m now
def cleaveC (C : CoordC) (s : ByteArray) (m now : Int) : CoordC := match aget C.gs s with
  | Option.none => C
  | Option.some g => ⟨C.s, C.r, aput C.gs s (leaveG g m now), C.off⟩
set_option maxRecDepth 100000 in
set_option maxHeartbeats 2000000 in
theorem leave_at (h : CAt w0 w cb C Y) (s : ByteArray) (m now : Int) {n : Nat} (ok : COk n C) (hm : -9223372036854775808 ≤ m ∧ m ≤ 9223372036854775807) :
    Calls Tryz.prog 17 #[.pointer (Option.some ⟨cb, 0, Option.none⟩), .string s, .int .i64 m, .int .i64 now] w fun e w' => e = .returned (.int .i64 (cleaveE C s m now)) ∧ CSt w0 w' cb (cleaveC C s m now) := by
  unfold cleaveE cleaveC
  cases hg : aget C.gs s with
  | none =>
    have G := Lib.hid (group_none h s (h.none hg))
    have HH := Lib.hid h
    clear hg h ok
    dsimp only
    go_enter Tryz.func17, Tryz.ntmps17
    go_wp2_with fail
    refine G.out.mono ?_
    rintro e w1 ⟨rfl, k1⟩
    go_wp2
    go_ret
    exact ⟨rfl, Y, HH.out.keep k1⟩
  | some g =>
    obtain ⟨b, hb⟩ := h.some hg
    have hok := ok s g hg
    obtain ⟨i, hi, h3, hix, hgr⟩ := h.at hb
    have G := Lib.hid (group_some h s hb)
    have HL := Lib.hid (fun (wx : World) (hk : K0 w wx) => leave_any wx _ b g m now (hgr.keep hk fun _ _ e => e) hok.wf hm)
    have HH := Lib.hid h
    have HIX := Lib.hid hix
    have HB := Lib.hid hb
    clear hg h ok hb hgr h3 hix hok
    dsimp only
    go_enter Tryz.func17, Tryz.ntmps17
    go_wp2_with fail
    refine G.out.mono ?_
    rintro e w1 ⟨rfl, k1⟩
    go_wp2_with fail
    refine (HL.out _ k1).mono ?_
    rintro e w2 ⟨rfl, hp⟩
    rw [HIX.out] at hp
    obtain ⟨Y', h4, _⟩ := (HH.out.keep k1).turn HB.out hp
    have HF := Lib.hid h4
    clear h4 hp
    go_wp2
    go_ret
    exact ⟨rfl, Y', HF.out⟩
end
end Go.Proofs.YtklhlffdpojkoaaGreat

/-
  The document's coordinator: Leave and May.
-/
namespace Go.Proofs.YtklhlffdpojkoaaGreat
open Go.RowKit Go.Shelf Fx

section
variable {w w' : World} {F : Nat → Prop} {cb : Nat} {C : CoordC} {Y : RLay} {v : Value}
set_option maxRecDepth 100000 in
set_option maxHeartbeats 4000000 in
theorem rcleave_any (s : ByteArray) (m now : Int) (h : RCAt w F cb C Y v) (hw : ∀ g, aget C.gs s = some g → WfG g) :
    Calls Tryz.prog 30 #[.pointer (some ⟨cb, 0, none⟩), .string s, .int .i64 m, .int .i64 now] w fun e w' => e = .returned (.int .i64 (cleaveE C s m now)) ∧ RCpost w F cb (cleaveC C s m now) w' := by
  have HFI := Lib.hid (rcfind_any s h)
  have HH := Lib.hid h
  have HA := Lib.hid (h.agetL s)
  have HW := Lib.hid hw
  clear h hw
  cases hf : aget Y.L s with
  | none =>
    rw [hf] at HFI HA
    have HP : Hid (∀ wx, K0 w wx → (Ending.returned (.int .i64 11) = .returned (.int .i64 (cleaveE C s m now)) ∧ RCpost w F cb (cleaveC C s m now) wx)) := fun wx hk => by
      unfold cleaveE cleaveC
      rw [HA.out]
      exact ⟨rfl, RCpost.same ⟨_, _, HH.out⟩ hk⟩
    clear hf
    go_enter Tryz.func30, Tryz.ntmps30
    go_wp2_with fail
    refine HFI.out.mono ?_
    rintro e w1 ⟨rfl, k1⟩
    dsimp only [ptrOf]
    have HK1 := Lib.hid k1
    clear k1
    go_wp2
    go_ret
    exact HP.out _ HK1.out
  | some p =>
    obtain ⟨b, g⟩ := p
    rw [hf] at HFI HA
    have hA : aget C.gs s = some g := HA.out
    have HB : Hid (∀ wx, K0 w wx → Calls Tryz.prog 54 #[.pointer (some ⟨b, 0, none⟩), .int .i64 m, .int .i64 now] wx fun e w' => e = .returned (.int .i64 (cleaveE C s m now)) ∧ RCpost w F cb (cleaveC C s m now) w') := fun wx hk => by
      have h1 := HH.out.keep hk (fun _ _ e => e)
      obtain ⟨i, hi, _, hix, hg⟩ := h1.at hf
      refine (rleave_any wx (Y.fp i) b g m now hg (HW.out g hA)).mono ?_
      rintro e w' ⟨rfl, hq⟩
      unfold cleaveE cleaveC
      rw [hA]
      exact ⟨rfl, RCpost.trans hk HH.out.lt (h1.turn hf (hix ▸ hq))⟩
    clear hf hA
    go_enter Tryz.func30, Tryz.ntmps30
    go_wp2_with fail
    refine HFI.out.mono ?_
    rintro e w1 ⟨rfl, k1⟩
    dsimp only [ptrOf]
    have HK1 := Lib.hid k1
    clear k1
    go_wp2_with fail
    refine (HB.out _ HK1.out).mono ?_
    rintro e w2 ⟨rfl, hq⟩
    have HQ := Lib.hid hq
    clear hq
    go_wp2
    go_ret
    exact ⟨rfl, HQ.out⟩
set_option maxRecDepth 100000 in
set_option maxHeartbeats 4000000 in
theorem rcmay_any (s : ByteArray) (m gn : Int) (h : RCAt w F cb C Y v) (hw : ∀ g, aget C.gs s = some g → WfG g ∧ g.ones.length ≤ 1000) :
    Calls Tryz.prog 31 #[.pointer (some ⟨cb, 0, none⟩), .string s, .int .i64 m, .int .i64 gn] w fun e w' => e = .returned (.int .i64 (cmayE C s m gn)) ∧ K0 w w' := by
  have HFI := Lib.hid (rcfind_any s h)
  have HH := Lib.hid h
  have HA := Lib.hid (h.agetL s)
  have HW := Lib.hid hw
  clear h hw
  cases hf : aget Y.L s with
  | none =>
    rw [hf] at HFI HA
    by_cases hm : m = -1
    · subst hm
      by_cases hg : gn = -1
      · subst hg
        have HP : Hid (cmayE C s (-1) (-1) = 0) := by show _ = _; unfold cmayE; rw [HA.out]; rfl
        rw [HP.out]
        clear hf
        go_enter Tryz.func31, Tryz.ntmps31
        go_wp2_with fail
        refine HFI.out.mono ?_
        rintro e w1 ⟨rfl, k1⟩
        dsimp only [ptrOf]
        have HK1 := Lib.hid k1
        clear k1
        go_wp2
        go_ret
        exact ⟨rfl, HK1.out⟩
      · have HP : Hid (cmayE C s (-1) gn = 11) := by show _ = _; unfold cmayE; rw [HA.out]; simp [hg]
        rw [HP.out]
        clear hf
        go_enter Tryz.func31, Tryz.ntmps31
        go_wp2_with fail
        refine HFI.out.mono ?_
        rintro e w1 ⟨rfl, k1⟩
        dsimp only [ptrOf]
        have HK1 := Lib.hid k1
        clear k1
        go_wp2
        go_ret
        exact ⟨rfl, HK1.out⟩
    · have HP : Hid (cmayE C s m gn = 11) := by show _ = _; unfold cmayE; rw [HA.out]; simp [hm]
      rw [HP.out]
      clear hf
      go_enter Tryz.func31, Tryz.ntmps31
      go_wp2_with fail
      refine HFI.out.mono ?_
      rintro e w1 ⟨rfl, k1⟩
      dsimp only [ptrOf]
      have HK1 := Lib.hid k1
      clear k1
      go_wp2
      go_ret
      exact ⟨rfl, HK1.out⟩
  | some p =>
    obtain ⟨b, g⟩ := p
    rw [hf] at HFI HA
    have hA : aget C.gs s = some g := HA.out
    have HPH : Hid (∀ wx, K0 w wx → wx.cell? ⟨b, 2, none⟩ = some (.int .i64 g.phase) ∧ b < wx.heap.size) := fun wx hk => by
      have h1 := HH.out.keep hk (fun _ _ e => e)
      obtain ⟨i, hi, _, hix, v2, L2, hg⟩ := h1.at hf
      exact ⟨block_cell hg.blk 2, block_lt hg.blk⟩
    have HB : Hid (∀ wx, K0 w wx → Calls Tryz.prog 55 #[.pointer (some ⟨b, 0, none⟩), .int .i64 m, .int .i64 gn] wx fun e w' => e = .returned (.int .i64 (knowsE g m gn)) ∧ w' = wx) := fun wx hk => by
      have h1 := HH.out.keep hk (fun _ _ e => e)
      obtain ⟨i, hi, _, hix, v2, L2, hg⟩ := h1.at hf
      exact rknows_any wx (Y.fp i) b g v2 L2 m gn hg (by have := hg.len; have := (HW.out g hA).2; omega)
    by_cases hm : m = -1 ∧ gn = -1
    · obtain ⟨rfl, rfl⟩ := hm
      by_cases hp : g.phase = 0
      · have HP : Hid (cmayE C s (-1) (-1) = 0) := by show _ = _; unfold cmayE; rw [hA]; simp [hp]
        rw [HP.out]
        clear hf hA
        go_enter Tryz.func31, Tryz.ntmps31
        go_wp2_with fail
        refine HFI.out.mono ?_
        rintro e w1 ⟨rfl, k1⟩
        dsimp only [ptrOf]
        have HK1 := Lib.hid k1
        clear k1
        obtain ⟨p2, pl⟩ := HPH.out _ HK1.out
        generalize g.phase = ph at *
        subst hp
        go_wp2
        go_ret
        exact ⟨rfl, HK1.out⟩
      · have HP : Hid (cmayE C s (-1) (-1) = 11) := by show _ = _; unfold cmayE; rw [hA]; simp [hp]
        rw [HP.out]
        clear hf hA
        go_enter Tryz.func31, Tryz.ntmps31
        go_wp2_with fail
        refine HFI.out.mono ?_
        rintro e w1 ⟨rfl, k1⟩
        dsimp only [ptrOf]
        have HK1 := Lib.hid k1
        clear k1
        obtain ⟨p2, pl⟩ := HPH.out _ HK1.out
        go_wp2
        go_ret
        exact ⟨rfl, HK1.out⟩
    · have HP : Hid (cmayE C s m gn = knowsE g m gn) := by show _ = _; unfold cmayE; rw [hA]; simp [hm]
      rw [HP.out]
      clear hf hA
      by_cases hm1 : m = -1
      · have hg1 : ¬ gn = -1 := fun e => hm ⟨hm1, e⟩
        subst hm1
        clear hm
        go_enter Tryz.func31, Tryz.ntmps31
        go_wp2_with fail
        refine HFI.out.mono ?_
        rintro e w1 ⟨rfl, k1⟩
        dsimp only [ptrOf]
        have HK1 := Lib.hid k1
        clear k1
        go_wp2_with fail
        refine (HB.out _ HK1.out).mono ?_
        rintro e w2 ⟨rfl, rfl⟩
        go_wp2
        go_ret
        exact ⟨rfl, HK1.out⟩
      · clear hm
        go_enter Tryz.func31, Tryz.ntmps31
        go_wp2_with fail
        refine HFI.out.mono ?_
        rintro e w1 ⟨rfl, k1⟩
        dsimp only [ptrOf]
        have HK1 := Lib.hid k1
        clear k1
        go_wp2_with fail
        refine (HB.out _ HK1.out).mono ?_
        rintro e w2 ⟨rfl, rfl⟩
        go_wp2
        go_ret
        exact ⟨rfl, HK1.out⟩
end
end Go.Proofs.YtklhlffdpojkoaaGreat

/-
  The document's coordinator: Tick.
-/
namespace Go.Proofs.YtklhlffdpojkoaaGreat
open Go.RowKit Go.Shelf Fx

def tickL (now : Int) (gs : List (ByteArray × GroupC)) (k : Nat) : List (ByteArray × GroupC) := (gs.take k).map (fun p => (p.1, tickG p.2 now)) ++ gs.drop k
theorem tickL_zero (now : Int) (gs : List (ByteArray × GroupC)) : tickL now gs 0 = gs := by unfold tickL; simp
theorem tickL_all (now : Int) (gs : List (ByteArray × GroupC)) : tickL now gs gs.length = gs.map (fun p => (p.1, tickG p.2 now)) := by unfold tickL; simp
theorem tickL_len (now : Int) (gs : List (ByteArray × GroupC)) (k : Nat) (hk : k ≤ gs.length) : (tickL now gs k).length = gs.length := by unfold tickL; simp; omega
theorem tickL_keys (now : Int) (gs : List (ByteArray × GroupC)) (k : Nat) : (tickL now gs k).map (·.1) = gs.map (·.1) := by
  unfold tickL
  rw [List.map_append, List.map_map]
  conv => rhs; rw [← List.take_append_drop k gs, List.map_append]
  rfl
theorem tickL_get (now : Int) (gs : List (ByteArray × GroupC)) {k : Nat} (hk : k < gs.length) : ∃ h : k < (tickL now gs k).length, (tickL now gs k)[k] = gs[k] := by
  refine ⟨by rw [tickL_len now gs k (by omega)]; exact hk, ?_⟩
  unfold tickL
  rw [List.getElem_append_right (by simp; omega)]
  simp [Nat.min_eq_left (show k ≤ gs.length by omega)]
theorem setG_aput {l : List (ByteArray × GroupC)} (hd : KD l) (x : GroupC) : ∀ {i : Nat} (hi : i < l.length), l.set i (l[i].1, x) = aput l l[i].1 x := by
  induction l with
  | nil => intro i hi; exact absurd hi (Nat.not_lt_zero _)
  | cons p l ih =>
    intro i hi
    have hd2 : KD l := (List.nodup_cons.1 hd).2
    have hp := (List.nodup_cons.1 hd).1
    cases i with
    | zero => simp [aput]
    | succ i =>
      have hi' : i < l.length := by simpa using hi
      have hne : p.1 ≠ l[i].1 := fun e => hp (List.mem_map.2 ⟨l[i], List.getElem_mem hi', e.symm⟩)
      have := ih hd2 hi'
      simp only [List.set_cons_succ, List.getElem_cons_succ, aput, if_neg hne, this]
theorem tickL_succ (now : Int) {gs : List (ByteArray × GroupC)} (hd : KD gs) {k : Nat} (hk : k < gs.length) : aput (tickL now gs k) gs[k].1 (tickG gs[k].2 now) = tickL now gs (k + 1) := by
  obtain ⟨h1, h2⟩ := tickL_get now gs hk
  have hd2 : KD (tickL now gs k) := by unfold KD; rw [tickL_keys]; exact hd
  have h3 := setG_aput hd2 (tickG gs[k].2 now) h1
  rw [h2] at h3
  rw [← h3]
  unfold tickL
  rw [List.set_append_right _ _ (by simp; omega)]
  have e1 : k - ((gs.take k).map fun p => (p.1, tickG p.2 now)).length = 0 := by simp; omega
  rw [e1, List.drop_eq_getElem_cons hk, List.set_cons_zero, List.take_succ_eq_append_getElem hk, List.map_append, List.append_assoc]
  rfl
section
variable {w w' : World} {F : Nat → Prop} {cb : Nat} {C : CoordC} {Y : RLay} {v : Value}
theorem RCpost.step {w1 w2 : World} {F1 : Nat → Prop} {C' : CoordC} (hF : ∀ k, F1 k → F k ∨ w.heap.size ≤ k) (hk : Keeps F w w1) (h : RCpost w1 F1 cb C' w2) : RCpost w F cb C' w2 := by
  obtain ⟨F2, h1, h2, h3⟩ := h
  exact ⟨F2, h1, fun k e => (h2 k e).elim (hF k) (fun e => .inr (Nat.le_trans hk.size e)), hk.trans h3 fun k hk' e => (hF k e).elim id fun e => by omega⟩
set_option maxRecDepth 100000 in
set_option maxHeartbeats 4000000 in
theorem rctick_any (now : Int) (h : RCst w F cb C) (hd : KD C.gs) {n : Nat} (ok : ∀ p ∈ C.gs, Ok (n + 2) p.2) :
    Calls Tryz.prog 35 #[.pointer (some ⟨cb, 0, none⟩), .int .i64 now] w fun e w' => e = .returned (.tuple #[]) ∧ RCpost w F cb ⟨C.s, C.r, C.gs.map (fun p => (p.1, tickG p.2 now)), C.off⟩ w' := by
  have HH := Lib.hid h
  have HD := Lib.hid hd
  have HOK := Lib.hid ok
  clear h hd ok
  go_enter Tryz.func35, Tryz.ntmps35
  go_wp2
  go_loopw [4] (fun i wr => ∃ k : Nat, i = .int .i64 k ∧ k ≤ C.gs.length ∧ RCpost w F cb ⟨C.s, C.r, tickL now C.gs k, C.off⟩ wr) (fun i _ => C.gs.length - (intOf i).toNat)
  case atStart => exact ⟨0, rfl, by omega, by rw [tickL_zero]; exact RCpost.same HH.out (Keeps.refl _ _)⟩
  case round =>
    obtain ⟨k, rfl, hk, F1, ⟨Y1, v1, h1⟩, hF, hkk⟩ := hrel
    have HF := Lib.hid hF
    have HKK := Lib.hid hkk
    have H1 := Lib.hid h1
    have hlen : Y1.L.length = C.gs.length := by
      have h9 := congrArg List.length h1.core
      unfold gcore at h9
      rw [List.length_map] at h9
      rw [h9]
      exact tickL_len now C.gs k hk
    have HLE := Lib.hid hlen
    have x1 : wr.cell? ⟨cb, 2, none⟩ = some v1 := block_cell h1.blk 2
    have xb := block_lt h1.blk
    have hkd1 : KD (gcore Y1.L) := by rw [h1.core]; unfold KD; show ((tickL now C.gs k).map (·.1)).Nodup; rw [tickL_keys]; exact HD.out
    have i0 : (0 : Int) ≤ k := by omega
    by_cases hlt : k < C.gs.length
    · have hlt1 : k < Y1.L.length := by omega
      rcases h1.form with ⟨hnil, _⟩ | ⟨r, cap, rfl, hrb, hrl, hcap, hFr, hcm⟩
      · rw [hnil] at hlt1; exact absurd hlt1 (Nat.not_lt_zero _)
      obtain ⟨_, c1⟩ := h1.cell rfl k hlt1
      have i1 : (k : Int) < Y1.L.length := by omega
      have hcore : (Y1.L[k].1, Y1.L[k].2.2) = C.gs[k] := by
        obtain ⟨q1, q2⟩ := tickL_get now C.gs hlt
        rw [← q2]
        have h9 : gcore Y1.L = tickL now C.gs k := h1.core
        simp only [← h9]
        simp [gcore]
      have hget : aget Y1.L Y1.L[k].1 = some Y1.L[k].2 := by
        refine aget_of_mem ?_ (List.getElem_mem hlt1)
        unfold KD at hkd1 ⊢
        unfold gcore at hkd1
        rw [List.map_map] at hkd1
        exact hkd1
      have HT : Hid (Calls Tryz.prog 60 #[.pointer (some ⟨Y1.L[k].2.1, 0, none⟩), .int .i64 now] wr fun e w' => e = .returned (.tuple #[]) ∧ RCpost w F cb ⟨C.s, C.r, tickL now C.gs (k + 1), C.off⟩ w') := by
        obtain ⟨i, hi, hgi, hix, hg⟩ := h1.at (s := Y1.L[k].1) (b := Y1.L[k].2.1) (g := Y1.L[k].2.2) hget
        have hok : Ok (n + 2) Y1.L[k].2.2 := by
          have h9 := HOK.out C.gs[k] (List.getElem_mem hlt)
          rw [← hcore] at h9
          exact h9
        refine (rtick_any wr (Y1.fp i) Y1.L[k].2.1 Y1.L[k].2.2 now hg hok.wf (hok.emp.drop now _) (hok.wf.drop now _ (by have := hok.gen; omega))).mono ?_
        rintro e w' ⟨rfl, hq⟩
        have h8 := h1.turn hget (hix ▸ hq)
        refine ⟨rfl, RCpost.step HF.out HKK.out ?_⟩
        have h7 : aput (tickL now C.gs k) Y1.L[k].1 (tickG Y1.L[k].2.2 now) = tickL now C.gs (k + 1) := by
          have h6 := tickL_succ now HD.out hlt
          rw [← hcore] at h6
          exact h6
        rw [← h7]
        exact h8
      generalize Y1.L[k].2.1 = yb at c1 HT
      have HLT := Lib.hid hlt
      clear h1 hF hkk hcore hget hkd1 hlen
      go_wp2_with fail
      refine HT.out.mono ?_
      rintro e w2 ⟨rfl, hq⟩
      have HQ := Lib.hid hq
      clear hq
      go_wp2
      go_roundw
      case rel => exact ⟨k + 1, by go_num, HLT.out, HQ.out⟩
      case measure => have := HLT.out; simp [intOf]; omega
    · obtain rfl : k = C.gs.length := by omega
      obtain ⟨va, vc, rfl⟩ := y_own_slice h1.row
      have i1 : ¬ (C.gs.length : Int) < Y1.L.length := by omega
      have HP : Hid (RCpost w F cb ⟨C.s, C.r, C.gs.map (fun p => (p.1, tickG p.2 now)), C.off⟩ wr) := by
        rw [tickL_all] at h1
        exact ⟨F1, ⟨Y1, _, h1⟩, hF, hkk⟩
      clear h1 hF hkk hkd1
      go_wp2
      go_end0
      exact ⟨rfl, HP.out⟩
end
end Go.Proofs.YtklhlffdpojkoaaGreat

/-
  A coordinator's calls: Group, Commit, Committed, New.
-/
namespace Go.Proofs.YtklhlffdpojkoaaGreat
open Go.RowKit Go.Shelf Fx

set_option maxRecDepth 100000 in
set_option maxHeartbeats 1000000 in
theorem view_nil (w : World) : Calls Tryz.prog 40 #[.pointer none] w fun e w' => Same w e (.agg #[.int .i64 0, .int .i64 0, .int .i64 0, .int .i64 0, .slice none 0 0]) w' := by
  have HB : Hid ((w.alloc (.cells #[.int .i64 0, .int .i64 0, .int .i64 0, .int .i64 0, .slice none 0 0] 57)).heap[w.heap.size]? = some (.cells #[.int .i64 0, .int .i64 0, .int .i64 0, .int .i64 0, .slice none 0 0] 57 (0, 0))) := heap_new _ _ _ rfl
  go_enter Tryz.func40, Tryz.ntmps40
  go_wp2
  (try simp only [Exit.inBlock, Exit.then])
  refine bodyPost_ret (results_cell_row rfl _ _ _ _ _ _ _ rfl HB.out Tryz.underlying57 rfl (by kernel_rfl)) rfl ?_
  exact ⟨rfl, (Keeps.refl _ _).alloc _⟩
section
variable {w0 w : World} {cb : Nat} {C : CoordC} {Y : CLay}
set_option maxRecDepth 100000 in
set_option maxHeartbeats 2000000 in
theorem cgroup_some (h : CAt w0 w cb C Y) (s : ByteArray) {n : Nat} (ok : COk n C) {g : GroupC} (hg : aget C.gs s = some g) :
    Calls Tryz.prog 22 #[.pointer (some ⟨cb, 0, none⟩), .string s] w fun e w' => ∃ a c, e = .returned (.agg #[.int .i64 g.phase, .int .i64 g.gen, .int .i64 g.next, .int .i64 g.til, .slice a g.ones.length c]) ∧ ViewAt w' w.heap.size (.slice a g.ones.length c) g.ones ∧ K0 w w' := by
  obtain ⟨b, hb⟩ := h.some hg
  have hok := ok s g hg
  obtain ⟨i, hi, h3, hix, hgr⟩ := h.at hb
  have HB : Hid ((w.alloc (.cells #[.int .i64 0, .int .i64 0, .int .i64 0, .int .i64 0, .slice none 0 0] 57)).heap[w.heap.size]? = some (.cells #[.int .i64 0, .int .i64 0, .int .i64 0, .int .i64 0, .slice none 0 0] 57 (0, 0))) := heap_new _ _ _ rfl
  have HK := Lib.hid ((Keeps.refl (fun _ => False) w).alloc (.cells #[.int .i64 0, .int .i64 0, .int .i64 0, .int .i64 0, .slice none 0 0] 57))
  have G := Lib.hid (group_some (h.keep HK.out) s hb)
  have V := Lib.hid (fun (wx : World) (hk : K0 w wx) => view_any wx _ b g (hgr.keep hk fun _ _ e => e) (by have := hok.wf.len; omega) hok.bnd)
  clear hg h ok hb hgr h3 hix hi hok
  go_enter Tryz.func22, Tryz.ntmps22
  go_wp2_with fail
  refine G.out.mono ?_
  rintro e w1 ⟨rfl, k1⟩
  go_wp2_with fail
  refine (V.out _ (K0.tr HK.out k1)).mono ?_
  intro e w2 hq
  obtain ⟨a, c, rfl, hv, k2⟩ := hq.seen
  have k3 := K0.tr k1 k2
  have b2 : w2.heap[w.heap.size]? = some (.cells #[.int .i64 0, .int .i64 0, .int .i64 0, .int .i64 0, .slice none 0 0] 57 (0, 0)) := (k3.block _ (block_lt HB.out) (fun e => e)).trans HB.out
  have q0 := block_cell b2 0
  have q1 := block_cell b2 1
  have q2 := block_cell b2 2
  have q3 := block_cell b2 3
  have q4 := block_cell b2 4
  have f0 := block_free b2 0
  have f1 := block_free b2 1
  have f2 := block_free b2 2
  have f3 := block_free b2 3
  have f4 := block_free b2 4
  have hlt := block_lt b2
  have hlt1 : w.heap.size < w1.heap.size := by have := k1.size; simp at this; omega
  have HF : Hid ((((((w2.setCell ⟨w.heap.size, 0, none⟩ (.int .i64 g.phase)).setCell ⟨w.heap.size, 1, none⟩ (.int .i64 g.gen)).setCell ⟨w.heap.size, 2, none⟩ (.int .i64 g.next)).setCell ⟨w.heap.size, 3, none⟩ (.int .i64 g.til)).setCell ⟨w.heap.size, 4, none⟩ (.slice a g.ones.length c)).heap[w.heap.size]? = some (.cells #[.int .i64 g.phase, .int .i64 g.gen, .int .i64 g.next, .int .i64 g.til, .slice a g.ones.length c] 57 (0, 0))) :=
    setCell_block (setCell_block (setCell_block (setCell_block (setCell_block b2 0 _) 1 _) 2 _) 3 _) 4 _
  have HP : Hid (Keeps (fun k => k = w.heap.size) w2 (((((w2.setCell ⟨w.heap.size, 0, none⟩ (.int .i64 g.phase)).setCell ⟨w.heap.size, 1, none⟩ (.int .i64 g.gen)).setCell ⟨w.heap.size, 2, none⟩ (.int .i64 g.next)).setCell ⟨w.heap.size, 3, none⟩ (.int .i64 g.til)).setCell ⟨w.heap.size, 4, none⟩ (.slice a g.ones.length c))) :=
    (((((Keeps.refl (fun k => k = w.heap.size) w2).setC 0 _ (fun _ => rfl)).setC 1 _ (fun _ => rfl)).setC 2 _ (fun _ => rfl)).setC 3 _ (fun _ => rfl)).setC 4 _ (fun _ => rfl)
  have HV := Lib.hid hv
  have HK2 := Lib.hid (K0.tr HK.out k3)
  clear hv k1 k2 k3 hq b2
  go_wp2
  (try simp only [Exit.inBlock, Exit.then])
  refine bodyPost_ret (results_cell_row rfl _ _ _ _ _ _ _ rfl HF.out Tryz.underlying57 rfl (by kernel_rfl)) rfl ?_
  refine ⟨a, c, rfl, ?_, (HK2.out.trans HP.out (fun k hk e => by omega))⟩
  have := HV.out.keep HP.out (fun k e => .inl (by omega))
  obtain ⟨C1, e1, e2, e3⟩ := this
  exact ⟨C1, e1, own_base e2 (by omega), fun x hx => ⟨(e3 x hx).1.keep still_str (Keeps.refl (fun _ => False) _) (fun _ _ _ e => e) (fun k _ e => by omega), (e3 x hx).2.keep still_part (Keeps.refl (fun _ => False) _) (fun _ _ _ e => e) (fun k _ e => by omega)⟩⟩
set_option maxRecDepth 100000 in
set_option maxHeartbeats 2000000 in
theorem ccommit_at (h : CAt w0 w cb C Y) (s t : ByteArray) (i at_ : Int) :
    Calls Tryz.prog 19 #[.pointer (some ⟨cb, 0, none⟩), .string s, .agg #[.string t, .int .i64 i], .int .i64 at_] w fun e w' => e = .returned (.int .i64 (commitE C.off ⟨s, t, i⟩ at_)) ∧ CAt w0 w' cb ⟨C.s, C.r, C.gs, commitC C.off ⟨s, t, i⟩ at_⟩ Y ∧ Keeps (fun k => k = Y.ob) w w' := by
  have HK := Lib.hid ((Keeps.refl (fun _ => False) w).alloc (.cells #[.string t, .int .i64 i] 34))
  have HBB : Hid ((w.alloc (.cells #[.string t, .int .i64 i] 34)).heap[w.heap.size]? = some (.cells #[.string t, .int .i64 i] 34)) := heap_new _ _ _ rfl
  generalize hwb : w.alloc (.cells #[.string t, .int .i64 i] 34) = wb at HK HBB
  have HWB := Lib.hid hwb
  have hb := h.keep HK.out
  have c3 : wb.cell? ⟨cb, 3, none⟩ = some (.pointer (some ⟨Y.tb, 0, none⟩)) := block_cell hb.blk 3
  have d0 : wb.cell? ⟨w.heap.size, 0, none⟩ = some (.string t) := block_cell HBB.out 0
  have d1 : wb.cell? ⟨w.heap.size, 1, none⟩ = some (.int .i64 i) := block_cell HBB.out 1
  have hlt := block_lt hb.blk
  have hlt2 := block_lt HBB.out
  have HC := Lib.hid (fun (wx : World) (hk : K0 wb wx) => commit_any wx Y.tb Y.ob C.off s t i at_ (hb.keep hk).off)
  have HH := Lib.hid hb
  have n1 : ¬ cb = Y.ob := h.ne2
  have n2 : ¬ w.heap.size = Y.ob := fun e => by have := h.off.map.lt; omega
  have hkk : K0 wb wb.drew := (Keeps.refl _ _).drew
  clear h hwb hb
  go_enter Tryz.func19, Tryz.ntmps19
  go_wp2_with fail
  rw [HWB.out]
  clear HWB
  go_region_held3 (fun w' => w'.cell? ⟨cb, 3, none⟩ = some (.pointer (some ⟨Y.tb, 0, none⟩)) ∧ w'.cell? ⟨w.heap.size, 0, none⟩ = some (.string t) ∧ w'.cell? ⟨w.heap.size, 1, none⟩ = some (.int .i64 i))
    (first | go_keep | (go_split_ands; refine ⟨?_, ?_, ?_⟩ <;> first | assumption | exact Keeps.cell' (by assumption) (by assumption) (by assumption)))
    (first | (go_at_call 49; refine (HC.out _ hkk).mono ?_; rintro e w' ⟨rfl, ho, hp⟩))
  have HF := Lib.hid ((HH.out.keep hkk).offs ho hp)
  have HKF := Lib.hid (((K0.tr HK.out hkk).mono (fun _ _ e => absurd e id)).trans hp (fun _ _ e => e))
  clear ho hp
  go_wp2
  go_ret
  exact ⟨rfl, HF.out, HKF.out⟩
set_option maxRecDepth 100000 in
set_option maxHeartbeats 2000000 in
theorem cget_at (h : CAt w0 w cb C Y) (s t : ByteArray) (i : Int) :
    Calls Tryz.prog 14 #[.pointer (some ⟨cb, 0, none⟩), .string s, .agg #[.string t, .int .i64 i]] w fun e w' => Same w e (.tuple #[.int .i64 (getV C.off ⟨s, t, i⟩).1, .bool (getV C.off ⟨s, t, i⟩).2]) w' := by
  have HK := Lib.hid ((Keeps.refl (fun _ => False) w).alloc (.cells #[.string t, .int .i64 i] 34))
  have HBB : Hid ((w.alloc (.cells #[.string t, .int .i64 i] 34)).heap[w.heap.size]? = some (.cells #[.string t, .int .i64 i] 34)) := heap_new _ _ _ rfl
  generalize hwb : w.alloc (.cells #[.string t, .int .i64 i] 34) = wb at HK HBB
  have HWB := Lib.hid hwb
  have hb := h.keep HK.out
  have c3 : wb.cell? ⟨cb, 3, none⟩ = some (.pointer (some ⟨Y.tb, 0, none⟩)) := block_cell hb.blk 3
  have d0 : wb.cell? ⟨w.heap.size, 0, none⟩ = some (.string t) := block_cell HBB.out 0
  have d1 : wb.cell? ⟨w.heap.size, 1, none⟩ = some (.int .i64 i) := block_cell HBB.out 1
  have hlt := block_lt hb.blk
  have hlt2 := block_lt HBB.out
  have HC := Lib.hid (fun (wx : World) (hk : K0 wb wx) => get_any wx Y.tb Y.ob C.off s t i (hb.keep hk).off)
  have hkk : K0 wb wb.drew := (Keeps.refl _ _).drew
  clear h hwb hb
  go_enter Tryz.func14, Tryz.ntmps14
  go_wp2_with fail
  rw [HWB.out]
  clear HWB
  go_region_held3 (fun w' => w'.cell? ⟨cb, 3, none⟩ = some (.pointer (some ⟨Y.tb, 0, none⟩)) ∧ w'.cell? ⟨w.heap.size, 0, none⟩ = some (.string t) ∧ w'.cell? ⟨w.heap.size, 1, none⟩ = some (.int .i64 i))
    (first | go_keep | (go_split_ands; refine ⟨?_, ?_, ?_⟩ <;> first | assumption | exact Keeps.cell' (by assumption) (by assumption) (fun e => e)))
    (first | (go_at_call 43; refine (HC.out _ hkk).mono ?_; rintro e w' ⟨rfl, hp⟩))
  have HF := Lib.hid (K0.tr HK.out (K0.tr hkk hp))
  clear hp
  go_wp2
  go_ret2
  exact ⟨rfl, HF.out⟩
end
def newC (s r : Int) : CoordC := ⟨s, r, [], ⟨1000, []⟩⟩
set_option maxRecDepth 100000 in
set_option maxHeartbeats 2000000 in
theorem cnew_bad (s r : Int) (w : World) (h : newBad s r) : Calls Tryz.prog 6 #[.int .i64 s, .int .i64 r] w fun e w' => Same w e (.tuple #[.pointer none, .int .i64 1]) w' := by
  have HN := Lib.hid (new_bad s r w h)
  clear h
  go_enter Tryz.func6, Tryz.ntmps6
  go_wp2_with fail
  refine HN.out.mono ?_
  rintro e w1 ⟨rfl, k1⟩
  go_wp2
  go_ret2
  exact ⟨rfl, k1⟩
set_option maxRecDepth 100000 in
set_option maxHeartbeats 2000000 in
theorem cnew_any (s r : Int) (w : World) (h1 : 1 ≤ s ∧ s ≤ 100000) (h2 : 1 ≤ r ∧ r ≤ 100000) :
    Calls Tryz.prog 6 #[.int .i64 s, .int .i64 r] w fun e w' => ∃ cb, e = .returned (.tuple #[.pointer (some ⟨cb, 0, none⟩), .int .i64 0]) ∧ CSt w w' cb (newC s r) := by
  have HN := Lib.hid (new_any s r w h1 h2)
  have HO := Lib.hid (fun (w : World) => offNew_any 1000 w (by omega) (by omega))
  have hmm := @run_makeMap Tryz.prog
  clear h1 h2
  go_enter Tryz.func6, Tryz.ntmps6
  go_wp2_with fail
  refine HN.out.mono ?_
  rintro e w1 ⟨rfl, _, k1, z1⟩
  have Z1 := Lib.hid z1
  clear z1
  go_wp2_with fail
  refine (HO.out w1).mono ?_
  rintro e w2 ⟨rfl, ho, k2, z2⟩
  have Z2 := Lib.hid z2
  clear z2
  have HOF := Lib.hid ho
  have HK := Lib.hid (K0.tr k1 k2)
  clear ho k1 k2
  go_wp2
  go_ret2
  refine ⟨_, rfl, ⟨w2.heap.size, w1.heap.size + 1, w1.heap.size, [], fun _ _ => False⟩, ?_⟩
  have e2 : (w2.alloc (.map #[] 0)).heap.size = w2.heap.size + 1 := by simp
  have z1 := Z1.out
  have z2 := Z2.out
  have q : ∀ o, ((w2.alloc (.map #[] 0)).alloc o).heap.size = w2.heap.size + 2 := by simp
  exact ⟨(HK.out.alloc _).alloc _, heap_new _ _ _ (by simp), rfl, (mapAt_new w2).of_block (Below.heap_alloc _ _ _ (by simp)), HOF.out.keep (S := fun _ => False) (((Keeps.refl _ _).alloc _).alloc _) (fun e => e) (fun e => e), by show w2.heap.size + 1 ≠ w2.heap.size; omega, by show w2.heap.size + 1 ≠ w1.heap.size; omega, by show w2.heap.size ≠ w1.heap.size + 1; omega, by show w2.heap.size ≠ w1.heap.size; omega, ⟨by show w.heap.size ≤ w2.heap.size + 1; omega, by show w.heap.size ≤ w2.heap.size; omega, by show w.heap.size ≤ w1.heap.size + 1; omega, by show w.heap.size ≤ w1.heap.size; omega⟩, fun i hi => absurd hi (Nat.not_lt_zero _), fun i k hi => absurd hi (Nat.not_lt_zero _), fun i j k hi => absurd hi (Nat.not_lt_zero _)⟩
end Go.Proofs.YtklhlffdpojkoaaGreat

/-
  The document's coordinator: New.
-/
namespace Go.Proofs.YtklhlffdpojkoaaGreat
open Go.RowKit Go.Shelf Fx

set_option maxRecDepth 100000 in
set_option maxHeartbeats 4000000 in
theorem rcnew_any (s r : Int) (w : World) :
    Calls Tryz.prog 8 #[.int .i64 s, .int .i64 r] w fun e w' => ∃ cb F, e = .returned (.pointer (some ⟨cb, 0, none⟩)) ∧ RCst w' F cb (newC s r) ∧ (∀ k, F k → w.heap.size ≤ k) ∧ K0 w w' := by
  go_enter Tryz.func8, Tryz.ntmps8
  go_wp2
  go_ret
  have b1 := (((Keeps.refl (fun _ => False) (w.alloc (.cells #[.int .i64 1000, .slice none 0 0] 73))).alloc (.cells #[.int .i64 s, .int .i64 r, .slice none 0 0, .pointer (some ⟨w.heap.size, 0, none⟩)] 76)).block w.heap.size (by simp) (fun e => e)).trans (heap_new _ _ _ rfl)
  have b2 : ((w.alloc (.cells #[.int .i64 1000, .slice none 0 0] 73)).alloc (.cells #[.int .i64 s, .int .i64 r, .slice none 0 0, .pointer (some ⟨w.heap.size, 0, none⟩)] 76)).heap[w.heap.size + 1]? = some (.cells #[.int .i64 s, .int .i64 r, .slice none 0 0, .pointer (some ⟨w.heap.size, 0, none⟩)] 76 (0, 0)) := by
    have hs : (w.alloc (.cells #[.int .i64 1000, .slice none 0 0] 73)).heap.size = w.heap.size + 1 := by simp
    have h9 := heap_new (w.alloc (.cells #[.int .i64 1000, .slice none 0 0] 73)) (.cells #[.int .i64 s, .int .i64 r, .slice none 0 0, .pointer (some ⟨w.heap.size, 0, none⟩)] 76) _ rfl
    rw [hs] at h9
    exact h9
  have l1 := block_lt b1
  have l2 := block_lt b2
  refine ⟨w.heap.size + 1, fun k => k = w.heap.size ∨ k = w.heap.size + 1, rfl, ⟨⟨w.heap.size, [], fun k => k = w.heap.size, fun _ _ => False⟩, .slice none 0 0, ⟨b2, World.ownsRow_nil _ _ _ _, rfl, ⟨.slice none 0 0, ⟨b1, World.ownsRow_nil _ _ _ _, rfl, fun k e => by have e : k = w.heap.size := e; rw [e]; exact l1, fun k e => by cases e⟩⟩, fun i hi => absurd hi (Nat.not_lt_zero _), .inr rfl, fun k e => ?_, fun k e => by (cases e), fun k e => ⟨.inl e, by have e : k = w.heap.size := e; omega, fun i hi => absurd hi (Nat.not_lt_zero _)⟩, fun i k hi => absurd hi (Nat.not_lt_zero _), fun i j k hi => absurd hi (Nat.not_lt_zero _)⟩⟩, fun k e => by rcases e with e | e <;> omega, ((Keeps.refl _ _).alloc _).alloc _⟩
  rcases e with e | e
  · rw [e]; exact l1
  · rw [e]; exact l2
end Go.Proofs.YtklhlffdpojkoaaGreat

/-
  The program's coordinator: Beat and Drop.
-/
namespace Go.Proofs.YtklhlffdpojkoaaGreat
open Go.RowKit Go.Shelf Fx

section
variable {w0 w w' : World} {cb : Nat} {C : CoordC} {Y : CLay}
def cbeatE (C : CoordC) (s : ByteArray) (m gn now : Int) : Int := match aget C.gs s with
  | Option.none => 11
  | Option.some g => beatE g m gn now
def cbeatC (C : CoordC) (s : ByteArray) (m gn now : Int) : CoordC := match aget C.gs s with
  | Option.none => C
  | Option.some g => ⟨C.s, C.r, aput C.gs s (beatG g m gn now), C.off⟩
set_option maxRecDepth 100000 in
set_option maxHeartbeats 2000000 in
theorem cbeat_at (h : CAt w0 w cb C Y) (s : ByteArray) (m gn now : Int) {n : Nat} (ok : COk n C) (hm : -9223372036854775808 ≤ m ∧ m ≤ 9223372036854775807) :
    Calls Tryz.prog 16 #[.pointer (Option.some ⟨cb, 0, Option.none⟩), .string s, .int .i64 m, .int .i64 gn, .int .i64 now] w fun e w' => e = .returned (.int .i64 (cbeatE C s m gn now)) ∧ CSt w0 w' cb (cbeatC C s m gn now) := by
  unfold cbeatE cbeatC
  cases hg : aget C.gs s with
  | none =>
    have G := Lib.hid (group_none h s (h.none hg))
    have HH := Lib.hid h
    clear hg h ok
    dsimp only
    go_enter Tryz.func16, Tryz.ntmps16
    go_wp2_with fail
    refine G.out.mono ?_
    rintro e w1 ⟨rfl, k1⟩
    go_wp2
    go_ret
    exact ⟨rfl, Y, HH.out.keep k1⟩
  | some g =>
    obtain ⟨b, hb⟩ := h.some hg
    have hok := ok s g hg
    obtain ⟨i, hi, h3, hix, hgr⟩ := h.at hb
    have G := Lib.hid (group_some h s hb)
    have HL := Lib.hid (fun (wx : World) (hk : K0 w wx) => beat_any wx _ b g m gn now (hgr.keep hk fun _ _ e => e) hok.wf hm)
    have HH := Lib.hid h
    have HIX := Lib.hid hix
    have HB := Lib.hid hb
    clear hg h ok hb hgr h3 hix hok
    dsimp only
    go_enter Tryz.func16, Tryz.ntmps16
    go_wp2_with fail
    refine G.out.mono ?_
    rintro e w1 ⟨rfl, k1⟩
    go_wp2_with fail
    refine (HL.out _ k1).mono ?_
    rintro e w2 ⟨rfl, hp⟩
    rw [HIX.out] at hp
    obtain ⟨Y', h4, _⟩ := (HH.out.keep k1).turn HB.out hp
    have HF := Lib.hid h4
    clear h4 hp
    go_wp2
    go_ret
    exact ⟨rfl, Y', HF.out⟩
set_option maxRecDepth 100000 in
set_option maxHeartbeats 2000000 in
theorem cdrop_at (h : CAt w0 w cb C Y) (t : ByteArray) (hw : ∀ p ∈ C.off.all, OkP p) (hl : C.off.all.length ≤ 100000) :
    Calls Tryz.prog 20 #[.pointer (some ⟨cb, 0, none⟩), .string t] w fun e w' => e = .returned (.int .i64 (dropN C.off t)) ∧ ∃ L2, CAt w0 w' cb ⟨C.s, C.r, C.gs, ⟨C.off.room, L2⟩⟩ Y ∧ L2.Perm (dropO C.off t).all := by
  have c3 : w.cell? ⟨cb, 3, none⟩ = some (.pointer (some ⟨Y.tb, 0, none⟩)) := block_cell h.blk 3
  have hlt := block_lt h.blk
  have HC := Lib.hid (fun (wx : World) (hk : K0 w wx) => offdrop_any t (h.keep hk).off hw hl)
  have HH := Lib.hid h
  clear h hw
  go_enter Tryz.func20, Tryz.ntmps20
  go_wp2_with fail
  refine (HC.out _ (Keeps.refl _ _)).mono ?_
  rintro e w1 ⟨rfl, ⟨L2, ho, hpp⟩, hp⟩
  have HF := Lib.hid (HH.out.offs ho hp)
  have HPP := Lib.hid hpp
  clear ho hp hpp
  go_wp2
  go_ret
  exact ⟨rfl, L2, HF.out, HPP.out⟩
end
end Go.Proofs.YtklhlffdpojkoaaGreat

/-
  The document's coordinator: Names.
-/
namespace Go.Proofs.YtklhlffdpojkoaaGreat
open Go.RowKit Go.Shelf Fx

theorem infoTextY : (Tryz.prog.info? 9).map (fun i => (i.zero, i.size, i.bytes)) = some (some (.string ⟨#[]⟩), 1, 16) := by kernel_rfl
def namesOf (L : List NameP) : List ByteArray := L.map (·.1)
theorem namesOf_take {L : List NameP} {k : Nat} (h : k < L.length) : (namesOf L).take (k + 1) = (namesOf L).take k ++ [L[k].1] := by
  have h1 : k < (namesOf L).length := by simpa [namesOf] using h
  rw [List.take_succ_eq_append_getElem h1]
  simp [namesOf]
theorem namesOf_gs {L : List NameP} : namesOf L = (gcore L).map (·.1) := by unfold namesOf gcore; rw [List.map_map]; rfl
def RNamesP (w : World) (ss : List ByteArray) (e : Ending) (w' : World) : Prop := ∃ v, e = .returned v ∧ w'.ownsRow w.heap.size 9 1 v ss.length (ss.map .string) ∧ K0 w w'
section
variable {w : World} {F : Nat → Prop} {cb : Nat} {C : CoordC}
set_option maxRecDepth 100000 in
set_option maxHeartbeats 4000000 in
theorem rcnames_any (h : RCst w F cb C) (hl : C.gs.length ≤ 1000) :
    Calls Tryz.prog 37 #[.pointer (some ⟨cb, 0, none⟩)] w (RNamesP w (C.gs.map (·.1))) := by
  obtain ⟨Y, v, h⟩ := h
  have HH := Lib.hid h
  have HNG : Hid (C.gs.map (·.1) = namesOf Y.L) := by show _ = _; rw [namesOf_gs, h.core]
  have hlen : Y.L.length ≤ 1000 := by
    have h9 := congrArg List.length h.core
    unfold gcore at h9
    rw [List.length_map] at h9
    omega
  rw [HNG.out]
  have hb := block_lt h.blk
  have hx : w.cell? ⟨cb, 2, none⟩ = some v := block_cell h.blk 2
  have hown0 : w.ownsRow w.heap.size 9 1 (.slice none 0 0) 0 [] := World.ownsRow_nil _ _ _ _
  have HO0 := Lib.hid hown0
  rcases h.form with ⟨hnil, rfl⟩ | ⟨r, cap, rfl, hrb, hrl, hcap, hFr, hcm⟩
  · have HK : Hid (namesOf Y.L = []) := by show _ = _; rw [hnil]; rfl
    rw [HK.out]
    clear h hnil
    go_enter Tryz.func37, Tryz.ntmps37
    go_wp2
    refine wp_loop_once ?_
    go_wp2
    go_ret
    exact ⟨_, rfl, HO0.out, Keeps.refl _ _⟩
  · clear h
    go_enter Tryz.func37, Tryz.ntmps37
    go_wp2
    go_loopw [4, 3] (fun i v wr => ∃ k : Nat, i = .int .i64 k ∧ k ≤ Y.L.length ∧ wr.ownsRow w.heap.size 9 1 v k (((namesOf Y.L).take k).map .string) ∧ K0 w wr) (fun i _ _ => Y.L.length - (intOf i).toNat)
    case atStart => exact ⟨0, rfl, by omega, hown0, Keeps.refl _ _⟩
    case round =>
      obtain ⟨k, rfl, hk, hown, hkr⟩ := hrel
      have hkz := hkr.size
      have hat := HH.out.keep hkr (fun _ _ e => e)
      have HAT := Lib.hid hat
      have hb := block_lt hat.blk
      have hx : wr.cell? ⟨cb, 2, none⟩ = some (.slice (some ⟨r, 0, none⟩) Y.L.length cap) := block_cell hat.blk 2
      have HKR := Lib.hid hkr
      have HOW := Lib.hid hown
      obtain ⟨va, vc, rfl⟩ := y_own_slice hown
      clear hat hkr
      by_cases hlt : k < Y.L.length
      · have c0 := (HAT.out.cell rfl k hlt).1
        have i0 : (0 : Int) ≤ k := by omega
        have i1 : (k : Int) < Y.L.length := by omega
        have hrl := World.block_lt_of_cell? _ _ c0
        have HKT := Lib.hid (namesOf_take hlt)
        generalize Y.L[k].1 = nm at c0 HKT
        have HLT := Lib.hid hlt
        clear hlt
        go_wp2_with (at_builtin; refine wpList_app1 rfl rfl Tryz.underlying31 infoTextY rfl (by decide) rfl (hown.alloc _) rfl (heap_new _ _ _ rfl) rfl rfl ⟨by omega, by decide⟩ (by simp; omega) ?_; intro g1 c1 w2 hA)
        have HA := Lib.hid hA
        have HK2 : Hid (K0 w w2) := (HKR.out.alloc _).grown hA.grown (fun k e hlt => absurd (HOW.out.lt k e).1 (by omega))
        clear hA hown
        go_roundw
        case rel => exact ⟨k + 1, by go_num, HLT.out, by rw [HKT.out, List.map_append]; exact HA.out.own, HK2.out⟩
        case measure => have := HLT.out; simp [intOf]; omega
      · obtain rfl : k = Y.L.length := by omega
        have HPO : Hid (RNamesP w (namesOf Y.L) (.returned (.slice va Y.L.length vc)) wr) := by
          have hkl : (namesOf Y.L).length = Y.L.length := by simp [namesOf]
          have h1 := HOW.out
          rw [← hkl, List.take_length] at h1
          exact ⟨_, by rw [hkl], h1, HKR.out⟩
        clear hown
        go_wp2
        go_ret
        exact HPO.out
end
end Go.Proofs.YtklhlffdpojkoaaGreat

/-
  The phases: what makes the two Beats answer alike.
-/
namespace Go.Proofs.YtklhlffdpojkoaaGreat
open Go.RowKit Go.Shelf Fx

/-- A phase is one of four, and nobody is in an empty group. -/
structure PhG (g : GroupC) : Prop where
  four : g.phase = 0 ∨ g.phase = 1 ∨ g.phase = 2 ∨ g.phase = 3
  none : g.phase = 0 → g.ones = []
theorem PhG.new (s r : Int) : PhG (newG s r) := ⟨.inl rfl, fun _ => rfl⟩
theorem beat_same {g : GroupC} (h : PhG g) (m gn now : Int) : rbeatE g m gn now = beatE g m gn now := by
  unfold rbeatE beatE
  split
  case isFalse => rfl
  case isTrue =>
    split
    case isFalse => rfl
    case isTrue hk =>
      have h0 : g.phase ≠ 0 := fun e => by
        have h1 := h.none e
        unfold knownE hasM at hk
        rw [h1] at hk
        simp at hk
      rcases h.four with e | e | e | e
      · exact absurd e h0
      · simp [e]
      · simp [e]
      · simp [e]
theorem PhG.touch {g : GroupC} (h : PhG g) (m t : Int) : PhG (touchG g m t) := by
  refine ⟨h.four, fun e => ?_⟩
  have h1 := h.none e
  unfold touchG
  simp [h1]
theorem PhG.beat {g : GroupC} (h : PhG g) (m gn now : Int) : PhG (beatG g m gn now) := by
  unfold beatG
  split
  · split
    · exact h.touch _ _
    · exact h
  · exact h
theorem PhG.anew (g : GroupC) (now : Int) : PhG (anewG g now) := by
  unfold anewG
  split
  case isTrue h => exact ⟨.inl rfl, fun _ => List.eq_nil_of_length_eq_zero h⟩
  case isFalse h => exact ⟨.inr (.inl rfl), fun e => absurd (show (1 : Int) = 0 from e) (by decide)⟩
theorem PhG.close (g : GroupC) (now : Int) : PhG (closeG g now) := by
  unfold closeG
  split
  case isTrue h => exact ⟨.inl rfl, fun _ => List.eq_nil_of_length_eq_zero h⟩
  case isFalse h => exact ⟨.inr (.inr (.inl rfl)), fun e => absurd (show (2 : Int) = 0 from e) (by decide)⟩
theorem PhG.fil {g : GroupC} (h : PhG g) (q : OneC → Bool) : PhG (filG g q) := by
  refine ⟨h.four, fun e => ?_⟩
  have h1 := h.none e
  unfold filG
  simp [h1]
theorem PhG.drop {g : GroupC} (h : PhG g) (now : Int) (q : OneC → Bool) : PhG (dropG g now q) := by
  unfold dropG
  split
  · exact h.fil q
  · split
    · exact PhG.anew _ _
    · split
      · exact PhG.close _ _
      · exact h.fil q
theorem PhG.leave {g : GroupC} (h : PhG g) (m now : Int) : PhG (leaveG g m now) := by
  unfold leaveG
  split
  · split
    · exact h.drop _ _
    · exact h
  · exact h
theorem PhG.tick {g : GroupC} (h : PhG g) (now : Int) : PhG (tickG g now) := by
  unfold tickG
  split
  · split
    · exact h.drop _ _
    · split
      · exact PhG.close _ _
      · split
        · exact (h.drop _ _).drop _ _
        · exact h.drop _ _
  · exact h
theorem PhG.start (g : GroupC) (now : Int) : PhG (startG g now) := by
  unfold startG
  split
  case isTrue h => exact ⟨.inr (.inl h), fun e => by rw [h] at e; cases e⟩
  case isFalse => exact PhG.anew _ _
theorem PhG.join (g : GroupC) (m : Int) (topics : List ByteArray) (now : Int) : PhG (joinG g m topics now) := by
  unfold joinG finG
  split
  · exact PhG.close _ _
  · have h := PhG.start (addG g m) now
    refine ⟨h.four, fun e => ?_⟩
    have h1 := h.none e
    unfold setG
    simp [h1]
theorem PhG.share (g : GroupC) (l : List ShareC) : PhG (shareG g l) := ⟨.inr (.inr (.inr rfl)), fun e => absurd (show (3 : Int) = 0 from e) (by decide)⟩
theorem PhG.syncT {g : GroupC} (h : PhG g) (m now : Int) : PhG (syncTouch g m now) := by
  unfold syncTouch
  first | exact h.touch _ _ | (split <;> first | exact h.touch _ _ | exact h)
theorem PhG.sync {g : GroupC} (h : PhG g) (m gn : Int) (tops : List TopC) (round : Bool) (now : Int) : PhG (syncG g m gn tops round now) := by
  unfold syncG
  split
  · split
    · split
      · exact h
      · split
        · split
          · split
            · exact PhG.share _ _
            · exact h.syncT _ _
          · exact h.syncT _ _
        · exact h.syncT _ _
    · exact h
  · exact h
end Go.Proofs.YtklhlffdpojkoaaGreat
