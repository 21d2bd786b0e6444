/-
  A coordinator's calls: New, a group that is there, May, Leave, Group, Commit, Committed.
-/
import Derived.Test.YtklhlffdpojkoaaCa
namespace Go.Proofs.Ytklhlffdpojkoaa
open Go.RowKit Go.Shelf Fx

theorem zeroPtr (w : World) : (zeroValue 45).run Try.prog w = .ok (.pointer none) w := by kernel_rfl
section
variable {w0 w : World} {cb : Nat} {C : CoordC} {Y : CLay}
theorem CAt.agetL (h : CAt w0 w cb C Y) (s : ByteArray) : aget C.gs s = (aget Y.L s).map (·.2) := by rw [← h.core, aget_core]
theorem CAt.some (h : CAt w0 w cb C Y) {s : ByteArray} {g : GroupC} (e : aget C.gs s = Option.some g) : ∃ b, aget Y.L s = Option.some (b, g) := by
  rw [h.agetL] at e
  cases h1 : aget Y.L s with
  | none => rw [h1] at e; cases e
  | some p =>
    rw [h1] at e
    obtain ⟨b, g1⟩ := p
    cases e
    exact ⟨b, rfl⟩
theorem CAt.none (h : CAt w0 w cb C Y) {s : ByteArray} (e : aget C.gs s = Option.none) : aget Y.L s = Option.none := by
  rw [h.agetL] at e
  cases h1 : aget Y.L s with
  | none => rfl
  | some p => rw [h1] at e; cases e
set_option maxRecDepth 100000 in
set_option maxHeartbeats 1000000 in
theorem group_nil (s : ByteArray) (w : World) : Calls Try.prog 16 #[.pointer Option.none, .string s] w fun e w' => Same w e (.tuple #[.pointer Option.none, .int .i64 1]) w' := by
  go_enter Try.func16, Try.ntmps16
  go_wp2
  go_ret2
  exact ⟨rfl, Keeps.refl _ _⟩
set_option maxRecDepth 100000 in
set_option maxHeartbeats 1000000 in
theorem group_none (h : CAt w0 w cb C Y) (s : ByteArray) (e : aget Y.L s = Option.none) : Calls Try.prog 16 #[.pointer (Option.some ⟨cb, 0, Option.none⟩), .string s] w fun e w' => Same w e (.tuple #[.pointer Option.none, .int .i64 11]) w' := by
  have c2 : w.cell? ⟨cb, 2, Option.none⟩ = Option.some (.map (Option.some Y.gb)) := block_cell h.blk 2
  have hlt := block_lt h.blk
  have hm := Lib.hid h.map
  have HV : Hid (aget (avals gptr Y.L) s = Option.none) := by show _ = _; rw [aget_avals, e]; rfl
  clear h e
  go_enter Try.func16, Try.ntmps16
  go_wp2_with (at_lookup; refine wpList_look (strKey Try.underlying9) rfl rfl Try.underlying51 zeroPtr rfl s rfl hm.out _ HV.out ?_)
  go_ret2
  exact ⟨rfl, Keeps.refl _ _⟩
set_option maxRecDepth 100000 in
set_option maxHeartbeats 1000000 in
theorem group_some (h : CAt w0 w cb C Y) (s : ByteArray) {b : Nat} {g : GroupC} (e : aget Y.L s = Option.some (b, g)) : Calls Try.prog 16 #[.pointer (Option.some ⟨cb, 0, Option.none⟩), .string s] w fun e w' => Same w e (.tuple #[.pointer (Option.some ⟨b, 0, Option.none⟩), .int .i64 0]) w' := by
  have c2 : w.cell? ⟨cb, 2, Option.none⟩ = Option.some (.map (Option.some Y.gb)) := block_cell h.blk 2
  have hlt := block_lt h.blk
  have hm := Lib.hid h.map
  have HV : Hid (aget (avals gptr Y.L) s = Option.some (.pointer (Option.some ⟨b, 0, Option.none⟩))) := by show _ = _; rw [aget_avals, e]; rfl
  clear h e
  go_enter Try.func16, Try.ntmps16
  go_wp2_with (at_lookup; refine wpList_look (strKey Try.underlying9) rfl rfl Try.underlying51 zeroPtr rfl s rfl hm.out _ HV.out ?_)
  go_ret2
  exact ⟨rfl, Keeps.refl _ _⟩
def cmayE (C : CoordC) (s : ByteArray) (m gn : Int) : Int := match aget C.gs s with
  | Option.none => if m = -1 ∧ gn = -1 then 0 else 11
  | Option.some g => if m = -1 ∧ gn = -1 then (if g.phase = 0 then 0 else 11) else knowsE g m gn
/-- Each group has room for n more steps. -/
def COk (n : Nat) (C : CoordC) : Prop := ∀ s g, aget C.gs s = Option.some g → Ok n g
set_option maxRecDepth 100000 in
set_option maxHeartbeats 2000000 in
theorem may_at (h : CAt w0 w cb C Y) (s : ByteArray) (m gn : Int) {n : Nat} (ok : COk n C) (hm : -9223372036854775808 ≤ m ∧ m ≤ 9223372036854775807) :
    Calls Try.prog 7 #[.pointer (Option.some ⟨cb, 0, Option.none⟩), .string s, .int .i64 m, .int .i64 gn] w fun e w' => Same w e (.int .i64 (cmayE C s m gn)) w' := by
  unfold cmayE
  cases hg : aget C.gs s with
  | none =>
    have G := Lib.hid (group_none h s (h.none hg))
    clear hg h ok
    dsimp only
    by_cases h1 : m = -1
    · by_cases h2 : gn = -1
      · rw [if_pos ⟨h1, h2⟩]
        subst h1 h2
        go_enter Try.func7, Try.ntmps7
        go_wp2_with fail
        refine G.out.mono ?_
        rintro e w1 ⟨rfl, k1⟩
        go_wp2
        go_ret
        exact ⟨rfl, k1⟩
      · rw [if_neg (fun e => h2 e.2)]
        subst h1
        go_enter Try.func7, Try.ntmps7
        go_wp2_with fail
        refine G.out.mono ?_
        rintro e w1 ⟨rfl, k1⟩
        go_wp2
        go_ret
        exact ⟨rfl, k1⟩
    · rw [if_neg (fun e => h1 e.1)]
      go_enter Try.func7, Try.ntmps7
      go_wp2_with fail
      refine G.out.mono ?_
      rintro e w1 ⟨rfl, k1⟩
      go_wp2
      go_ret
      exact ⟨rfl, k1⟩
  | some g =>
    obtain ⟨b, hb⟩ := h.some hg
    have hok := ok s g hg
    obtain ⟨i, hi, h3, hix, hgr⟩ := h.at hb
    have G := Lib.hid (group_some h s hb)
    have V := Lib.hid (fun (wx : World) (hk : K0 w wx) => view_any wx _ b g (hgr.keep hk fun _ _ e => e) (by have := hok.wf.len; omega) hok.bnd)
    have KN := Lib.hid (fun (wx : World) (hk : K0 w wx) => knows_any wx _ b g m gn (hgr.keep hk fun _ _ e => e) hok.wf hm)
    have vf := view_field0
    clear hg h ok hb hgr h3 hix hi hok
    dsimp only
    by_cases h1 : m = -1
    · by_cases h2 : gn = -1
      · rw [if_pos ⟨h1, h2⟩]
        subst h1 h2
        by_cases hp : g.phase = 0
        · rw [if_pos hp]
          go_enter Try.func7, Try.ntmps7
          go_wp2_with fail
          refine G.out.mono ?_
          rintro e w1 ⟨rfl, k1⟩
          go_wp2_with fail
          refine (V.out _ k1).mono ?_
          intro e w2 hq
          obtain ⟨a, c, rfl, _, k2⟩ := hq.seen
          rw [hp]
          clear hq
          go_wp2
          go_ret
          exact ⟨rfl, K0.tr k1 k2⟩
        · rw [if_neg hp]
          go_enter Try.func7, Try.ntmps7
          go_wp2_with fail
          refine G.out.mono ?_
          rintro e w1 ⟨rfl, k1⟩
          go_wp2_with fail
          refine (V.out _ k1).mono ?_
          intro e w2 hq
          obtain ⟨a, c, rfl, _, k2⟩ := hq.seen
          clear hq
          go_wp2
          go_ret
          exact ⟨rfl, K0.tr k1 k2⟩
      · rw [if_neg (fun e => h2 e.2)]
        subst h1
        go_enter Try.func7, Try.ntmps7
        go_wp2_with fail
        refine G.out.mono ?_
        rintro e w1 ⟨rfl, k1⟩
        go_wp2_with fail
        refine (KN.out _ k1).mono ?_
        rintro e w2 ⟨rfl, k2⟩
        go_wp2
        go_ret
        exact ⟨rfl, K0.tr k1 k2⟩
    · rw [if_neg (fun e => h1 e.1)]
      go_enter Try.func7, Try.ntmps7
      go_wp2_with fail
      refine G.out.mono ?_
      rintro e w1 ⟨rfl, k1⟩
      go_wp2_with fail
      refine (KN.out _ k1).mono ?_
      rintro e w2 ⟨rfl, k2⟩
      go_wp2
      go_ret
      exact ⟨rfl, K0.tr k1 k2⟩
def cleaveE (C : CoordC) (s : ByteArray) (m now : Int) : Int := match aget C.gs s with
  | Option.none => 11
  | Option.some g => leaveE g m now
def cleaveC (C : CoordC) (s : ByteArray) (m now : Int) : CoordC := match aget C.gs s with
  | Option.none => C
  | Option.some g => ⟨C.s, C.r, aput C.gs s (leaveG g m now), C.off⟩
set_option maxRecDepth 100000 in
set_option maxHeartbeats 2000000 in
theorem leave_at (h : CAt w0 w cb C Y) (s : ByteArray) (m now : Int) {n : Nat} (ok : COk n C) (hm : -9223372036854775808 ≤ m ∧ m ≤ 9223372036854775807) :
    Calls Try.prog 9 #[.pointer (Option.some ⟨cb, 0, Option.none⟩), .string s, .int .i64 m, .int .i64 now] w fun e w' => e = .returned (.int .i64 (cleaveE C s m now)) ∧ CSt w0 w' cb (cleaveC C s m now) := by
  unfold cleaveE cleaveC
  cases hg : aget C.gs s with
  | none =>
    have G := Lib.hid (group_none h s (h.none hg))
    have HH := Lib.hid h
    clear hg h ok
    dsimp only
    go_enter Try.func9, Try.ntmps9
    go_wp2_with fail
    refine G.out.mono ?_
    rintro e w1 ⟨rfl, k1⟩
    go_wp2
    go_ret
    exact ⟨rfl, Y, HH.out.keep k1⟩
  | some g =>
    obtain ⟨b, hb⟩ := h.some hg
    have hok := ok s g hg
    obtain ⟨i, hi, h3, hix, hgr⟩ := h.at hb
    have G := Lib.hid (group_some h s hb)
    have HL := Lib.hid (fun (wx : World) (hk : K0 w wx) => leave_any wx _ b g m now (hgr.keep hk fun _ _ e => e) hok.wf hm)
    have HH := Lib.hid h
    have HIX := Lib.hid hix
    have HB := Lib.hid hb
    clear hg h ok hb hgr h3 hix hok
    dsimp only
    go_enter Try.func9, Try.ntmps9
    go_wp2_with fail
    refine G.out.mono ?_
    rintro e w1 ⟨rfl, k1⟩
    go_wp2_with fail
    refine (HL.out _ k1).mono ?_
    rintro e w2 ⟨rfl, hp⟩
    rw [HIX.out] at hp
    obtain ⟨Y', h4, _⟩ := (HH.out.keep k1).turn HB.out hp
    have HF := Lib.hid h4
    clear h4 hp
    go_wp2
    go_ret
    exact ⟨rfl, Y', HF.out⟩
end
end Go.Proofs.Ytklhlffdpojkoaa
