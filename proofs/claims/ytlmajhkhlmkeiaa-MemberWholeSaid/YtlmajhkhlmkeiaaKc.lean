/-
  SameParts at any two lists; a group of the program and one of the reference side by side.
-/
import Derived.Test.YtlmajhkhlmkeiaaKj
import Derived.Test.YtlmajhkhlmkeiaaGu
import Derived.Deep.DeepCutAuto
namespace Go.Proofs.Ytlmajhkhlmkeiaa
open Go.RowKit Go.Shelf Fx

set_option maxRecDepth 100000 in
set_option maxHeartbeats 2000000 in
theorem sameParts_any (w : World) (a1 a2 : Option Addr) (c1 c2 : Nat) (l1 l2 : List PartC) (h1 : SlAt 2 rPart w a1 c1 l1) (h2 : SlAt 2 rPart w a2 c2 l2) :
    Calls Try.prog 37 #[.slice a1 l1.length c1, .slice a2 l2.length c2] w fun e w' => ∃ x, e = .returned (.bool x) ∧ ∃ n, w' = w.drewN n := by
  have hm := h1.len
  have hm2 := h2.len
  have H1 := Lib.hid h1
  have H2 := Lib.hid h2
  clear h1 h2
  by_cases hll : l1.length = l2.length
  · rw [← hll] at hm2 ⊢
    have HLL := Lib.hid hll
    clear hll
    have hne : ((l1.length : Int) != l1.length) = false := by simp
    go_enter Try.func37, Try.ntmps37
    go_wp2
    go_loopw [5] (fun i wr => ∃ k : Nat, i = .int .i64 k ∧ k ≤ l1.length ∧ ∃ n, wr = w.drewN n) (fun i _ => l1.length - (intOf i).toNat)
    case atStart => exact ⟨0, rfl, by omega, 0, rfl⟩
    case round =>
      obtain ⟨k, rfl, hk, n, rfl⟩ := hrel
      by_cases hlt : k < l1.length
      · have hlt2 : k < l2.length := by rw [← HLL.out]; exact hlt
        obtain ⟨b1, off1, rfl, r1⟩ := H1.out.row hlt
        obtain ⟨b2, off2, rfl, r2⟩ := H2.out.row hlt2
        obtain ⟨x0, x1, hb1⟩ := part_cells r1 (Below.refl _ _) k hlt
        obtain ⟨y0, y1, hb2⟩ := part_cells r2 (Below.refl _ _) k hlt2
        clear r1 r2
        have i0 : (0 : Int) ≤ k := by omega
        have i1 : (k : Int) < l1.length := by omega
        have q3 := h41c
        generalize l1[k].topic = s1 at x0
        generalize l1[k].index = n1 at x1
        generalize l2[k].topic = s2 at y0
        generalize l2[k].index = n2 at y1
        have q1 := fun w9 : World => neq41 s1 s2 n1 n2 w9
        generalize (!(s1.toList == s2.toList && n1 == n2)) = bv at q1
        have HHLT := Lib.hid hlt
        clear hlt2
        cases bv with
        | false =>
          go_wp2_with fail
          go_quiet (fail)
          go_wp2
          go_roundw
          case rel => exact ⟨k + 1, by go_num, HHLT.out, n + _, rfl⟩
          case measure => have := HHLT.out; simp [intOf]; omega
        | true =>
          go_wp2_with fail
          go_quiet (fail)
          go_wp2
          go_ret
          exact ⟨_, rfl, _, World.drewN_drewN _ _ _⟩
      · clear hk
        go_wp2
        go_ret
        exact ⟨_, rfl, n, rfl⟩
  · have hne : ((l1.length : Int) != l2.length) = true := by simp; omega
    clear hll
    go_enter Try.func37, Try.ntmps37
    go_wp2
    go_ret
    exact ⟨_, rfl, 0, rfl⟩
theorem same_out {w : World} {G1 G2 : Nat → Prop} {v1 v2 : Value} {l1 l2 : List PartC} (h1 : Out 2 rPart w G1 v1 l1) (h2 : Out 2 rPart w G2 v2 l2) :
    Calls Try.prog 37 #[v1, v2] w fun e w' => ∃ x, e = .returned (.bool x) ∧ K0 w w' := by
  obtain ⟨a1, c1, rfl, s1, _⟩ := h1
  obtain ⟨a2, c2, rfl, s2, _⟩ := h2
  refine (sameParts_any w a1 a2 c1 c2 l1 l2 s1 s2).mono fun e w' hq => ?_
  obtain ⟨x, rfl, n, rfl⟩ := hq
  exact ⟨x, rfl, (Keeps.refl _ _).drewN _⟩
/-- A group of the program and one of the reference, apart, made since w0 or out of E; all else is as it was. -/
def Pair (E : Nat → Prop) (w0 w : World) (b1 b2 : Nat) (g1 g2 : GroupC) : Prop :=
  ∃ F1 F2, Grp w F1 b1 g1 ∧ RGrp w F2 b2 g2 ∧ (∀ k, F1 k → ¬ F2 k) ∧ (∀ k, F1 k ∨ F2 k → E k ∨ w0.heap.size ≤ k) ∧ Keeps E w0 w
theorem RGrp.ltF {w : World} {F : Nat → Prop} {b : Nat} {g : GroupC} (h : RGrp w F b g) : ∀ k, F k → k < w.heap.size := by obtain ⟨_, _, h⟩ := h; exact h.lt
section
variable {E : Nat → Prop} {w0 w w' : World} {b1 b2 : Nat} {g1 g2 g' : GroupC} {F1 F2 : Nat → Prop}
theorem Pair.keeps (h : Pair E w0 w b1 b2 g1 g2) : Keeps E w0 w := by obtain ⟨_, _, _, _, _, _, h⟩ := h; exact h
theorem Pair.keep (h : Pair E w0 w b1 b2 g1 g2) (hk : K0 w w') : Pair E w0 w' b1 b2 g1 g2 := by
  obtain ⟨F1, F2, a1, a2, a3, a4, a5⟩ := h
  exact ⟨F1, F2, a1.keep hk fun _ _ e => e, a2.keep hk fun _ _ e => e, a3, a4, a5.trans hk fun _ _ e => e.elim⟩
theorem Pair.left (h1 : Grp w F1 b1 g1) (h2 : RGrp w F2 b2 g2) (h3 : ∀ k, F1 k → ¬ F2 k) (h4 : ∀ k, F1 k ∨ F2 k → E k ∨ w0.heap.size ≤ k) (h5 : Keeps E w0 w) (hq : GrpPost w F1 b1 g' w') : Pair E w0 w' b1 b2 g' g2 := by
  obtain ⟨F', q1, q2, q3⟩ := hq
  refine ⟨F', F2, q1, h2.keep q3 fun k e e2 => h3 k e2 e, fun k e e2 => ?_, fun k e => ?_, h5.trans q3 fun k hk e => (h4 k (.inl e)).elim id fun e => by omega⟩
  · rcases q2 k e with e3 | e3
    · exact h3 k e3 e2
    · have := h2.ltF k e2; omega
  · rcases e with e | e
    · rcases q2 k e with e | e
      · exact h4 k (.inl e)
      · exact .inr (Nat.le_trans h5.size e)
    · exact h4 k (.inr e)
theorem Pair.right (h1 : Grp w F1 b1 g1) (h2 : RGrp w F2 b2 g2) (h3 : ∀ k, F1 k → ¬ F2 k) (h4 : ∀ k, F1 k ∨ F2 k → E k ∨ w0.heap.size ≤ k) (h5 : Keeps E w0 w) (hq : RGrpPost w F2 b2 g' w') : Pair E w0 w' b1 b2 g1 g' := by
  obtain ⟨F', q1, q2, q3⟩ := hq
  refine ⟨F1, F', h1.keep q3 fun k e e2 => h3 k e e2, q1, fun k e e2 => ?_, fun k e => ?_, h5.trans q3 fun k hk e => (h4 k (.inr e)).elim id fun e => by omega⟩
  · rcases q2 k e2 with e3 | e3
    · exact h3 k e e3
    · have := h1.ltF k e; omega
  · rcases e with e | e
    · exact h4 k (.inl e)
    · rcases q2 k e with e | e
      · exact h4 k (.inr e)
      · exact .inr (Nat.le_trans h5.size e)
/-- From here on: whatever the two have now may turn. -/
theorem Pair.base (h : Pair E w0 w b1 b2 g1 g2) : ∃ E', (∀ k, E' k → k < w.heap.size) ∧ (∀ k, E' k → E k ∨ w0.heap.size ≤ k) ∧ ∀ w1, K0 w w1 → Pair E' w1 w1 b1 b2 g1 g2 := by
  obtain ⟨F1, F2, a1, a2, a3, a4, a5⟩ := h
  refine ⟨fun k => F1 k ∨ F2 k, fun k e => e.elim (a1.ltF k) (a2.ltF k), a4, fun w1 hk => ⟨F1, F2, a1.keep hk fun _ _ e => e, a2.keep hk fun _ _ e => e, a3, fun k e => .inl e, Keeps.refl _ _⟩⟩
theorem Pair.back {E' : Nat → Prop} {w1 w2 : World} {g3 g4 : GroupC} (h : Keeps E w0 w) (hk : K0 w w1) (hE : ∀ k, E' k → E k ∨ w0.heap.size ≤ k) (h2 : Pair E' w1 w2 b1 b2 g3 g4) : Pair E w0 w2 b1 b2 g3 g4 := by
  obtain ⟨F1, F2, a1, a2, a3, a4, a5⟩ := h2
  have h01 : Keeps E w0 w1 := h.trans hk fun _ _ e => e.elim
  refine ⟨F1, F2, a1, a2, a3, fun k e => (a4 k e).elim (hE k) fun e => .inr (Nat.le_trans h01.size e), h01.trans a5 fun k hk' e => (hE k e).elim id fun e => by omega⟩
end
end Go.Proofs.Ytlmajhkhlmkeiaa

/-
  The calls of both groups, side by side.
-/
namespace Go.Proofs.Ytlmajhkhlmkeiaa
open Go.RowKit Go.Shelf Fx

section
variable {E : Nat → Prop} {w0 w w' : World} {b1 b2 n : Nat} {g1 g2 : GroupC}
theorem out_pair {α : Type} {k : Nat} {R : Rdr α} (hR : Still R) {F : Nat → Prop} {tv : Value} {l : List α} (h : Out k R w0 (fun k => ¬ E k) tv l) (hk : Keeps E w0 w) (hF : ∀ k, F k → E k ∨ w0.heap.size ≤ k) : Out k R w (fun k => ¬ F k) tv l :=
  h.keep hR hk (fun _ _ e => e) (fun j hj e e2 => (hF j e2).elim e (fun e3 => by omega))
theorem pair_join (h : Pair E w0 w b1 b2 g1 g2) (ok : Ok (n + 1) g1) (m now : Int) (hm : -9223372036854775808 ≤ m ∧ m ≤ 9223372036854775807) (tv : Value) (topics : List ByteArray) (ht : Out 1 rStr w0 (fun k => ¬ E k) tv topics) :
    Calls Try.prog 11 #[.pointer (some ⟨b1, 0, none⟩), .int .i64 m, tv, .int .i64 now] w fun e w' => (∃ x y, e = .returned (.tuple #[.int .i64 x, .int .i64 y])) ∧ Pair E w0 w' b1 b2 (if joinE g1 m topics now = 0 then joinG g1 m topics now else g1) g2 := by
  obtain ⟨F1, F2, a1, a2, a3, a4, a5⟩ := h
  refine (join_any w F1 b1 g1 m now tv topics a1 ok.wf hm (by have := ok.next; omega) (out_pair still_str ht a5 fun k e => a4 k (.inl e))).mono fun e w' hq => ⟨⟨_, _, hq.1⟩, Pair.left a1 a2 a3 a4 a5 hq.2⟩
theorem pair_rjoin (h : Pair E w0 w b1 b2 g1 g2) (ok : Ok (n + 1) g2) (m now : Int) (hm : -9223372036854775808 ≤ m ∧ m ≤ 9223372036854775807) (tv : Value) (topics : List ByteArray) (htl : topics.length ≤ 1000) (ht : Out 1 rStr w0 (fun k => ¬ E k) tv topics) :
    Calls Try.prog 35 #[.pointer (some ⟨b2, 0, none⟩), .int .i64 m, tv, .int .i64 now] w fun e w' => (∃ x y, e = .returned (.tuple #[.int .i64 x, .int .i64 y])) ∧ Pair E w0 w' b1 b2 g1 (if joinE g2 m topics now = 0 then joinG g2 m topics now else g2) := by
  obtain ⟨F1, F2, a1, a2, a3, a4, a5⟩ := h
  refine (rjoin_any w F2 b2 g2 m now tv topics a2 ok.wf hm (by have := ok.next; omega) htl (out_pair still_str ht a5 fun k e => a4 k (.inr e))).mono fun e w' hq => ⟨⟨_, _, hq.1⟩, Pair.right a1 a2 a3 a4 a5 hq.2⟩
theorem pair_sync (h : Pair E w0 w b1 b2 g1 g2) (ok : Ok n g1) (m gn now : Int) (hm : -9223372036854775808 ≤ m ∧ m ≤ 9223372036854775807) (tv : Value) (tops : List TopC) (round : Bool) (ht : Out 2 rTop w0 (fun k => ¬ E k) tv tops) :
    Calls Try.prog 13 #[.pointer (some ⟨b1, 0, none⟩), .int .i64 m, .int .i64 gn, tv, .bool round, .int .i64 now] w fun e w' => (∃ pv ps, e = .returned (.tuple #[pv, .int .i64 (syncE g1 m gn tops now)]) ∧ Out 2 rPart w' (fun k => w.heap.size ≤ k) pv ps ∧ (∀ a c j, pv = .slice (some a) c j → ps ≠ [] → True)) ∧ Pair E w0 w' b1 b2 (syncG g1 m gn tops round now) g2 := by
  obtain ⟨F1, F2, a1, a2, a3, a4, a5⟩ := h
  refine (sync_any w F1 b1 g1 m gn now tv tops round a1 ok.wf ok.bnd hm (out_pair still_top ht a5 fun k e => a4 k (.inl e))).mono fun e w' hq => ?_
  obtain ⟨pv, F', h1, h2, h3, h4, h5, h6⟩ := hq
  refine ⟨?_, Pair.left a1 a2 a3 a4 a5 ⟨F', h2, h3, h4⟩⟩
  by_cases h0 : syncE g1 m gn tops now = 0
  · exact ⟨pv, _, h1, (h5 h0).keep still_part (Keeps.refl (fun _ => False) _) (fun _ _ _ e => e) (fun _ _ e => e.2), fun _ _ _ _ _ => trivial⟩
  · exact ⟨pv, [], h1, by rw [h6 h0]; exact Out.nil _ _ _ _, fun _ _ _ _ _ => trivial⟩
theorem pair_rsync (h : Pair E w0 w b1 b2 g1 g2) (ok : Ok n g2) (m gn now : Int) (tv : Value) (tops : List TopC) (round : Bool) (ht : Out 2 rTop w0 (fun k => ¬ E k) tv tops) :
    Calls Try.prog 36 #[.pointer (some ⟨b2, 0, none⟩), .int .i64 m, .int .i64 gn, tv, .bool round, .int .i64 now] w fun e w' => (∃ pv ps, e = .returned (.tuple #[pv, .int .i64 (syncE g2 m gn tops now)]) ∧ Out 2 rPart w' (fun _ => True) pv ps) ∧ Pair E w0 w' b1 b2 g1 (syncG g2 m gn tops round now) ∧ ∃ F2, (∀ k, F2 k → E k ∨ w0.heap.size ≤ k) ∧ Keeps F2 w w' ∧ (∃ v1, RGrp w F2 b2 v1) := by
  obtain ⟨F1, F2, a1, a2, a3, a4, a5⟩ := h
  refine (rsync_any w F2 b2 g2 m gn now tv tops round a2 ok.wf ok.bnd (ok.sync m gn tops round now).bnd (out_pair still_top ht a5 fun k e => a4 k (.inr e))).mono fun e w' hq => ?_
  obtain ⟨pv, F', h1, h2, h3, h4, ps, h5, _⟩ := hq
  exact ⟨⟨pv, ps, h1, h5⟩, Pair.right a1 a2 a3 a4 a5 ⟨F', h2, h3, h4⟩, F2, fun k e => a4 k (.inr e), h4, _, a2⟩
theorem pair_beat (h : Pair E w0 w b1 b2 g1 g2) (ok : Ok n g1) (m gn now : Int) (hm : -9223372036854775808 ≤ m ∧ m ≤ 9223372036854775807) :
    Calls Try.prog 15 #[.pointer (some ⟨b1, 0, none⟩), .int .i64 m, .int .i64 gn, .int .i64 now] w fun e w' => e = .returned (.int .i64 (beatE g1 m gn now)) ∧ Pair E w0 w' b1 b2 (beatG g1 m gn now) g2 := by
  obtain ⟨F1, F2, a1, a2, a3, a4, a5⟩ := h
  exact (beat_any w F1 b1 g1 m gn now a1 ok.wf hm).mono fun e w' hq => ⟨hq.1, Pair.left a1 a2 a3 a4 a5 hq.2⟩
theorem pair_rbeat (h : Pair E w0 w b1 b2 g1 g2) (ok : Ok n g2) (m gn now : Int) :
    Calls Try.prog 38 #[.pointer (some ⟨b2, 0, none⟩), .int .i64 m, .int .i64 gn, .int .i64 now] w fun e w' => e = .returned (.int .i64 (rbeatE g2 m gn now)) ∧ Pair E w0 w' b1 b2 g1 (beatG g2 m gn now) := by
  obtain ⟨F1, F2, a1, a2, a3, a4, a5⟩ := h
  exact (rbeat_any w F2 b2 g2 m gn now a2 ok.wf).mono fun e w' hq => ⟨hq.1, Pair.right a1 a2 a3 a4 a5 hq.2⟩
theorem pair_leave (h : Pair E w0 w b1 b2 g1 g2) (ok : Ok (n + 1) g1) (m now : Int) (hm : -9223372036854775808 ≤ m ∧ m ≤ 9223372036854775807) :
    Calls Try.prog 16 #[.pointer (some ⟨b1, 0, none⟩), .int .i64 m, .int .i64 now] w fun e w' => e = .returned (.int .i64 (leaveE g1 m now)) ∧ Pair E w0 w' b1 b2 (leaveG g1 m now) g2 := by
  obtain ⟨F1, F2, a1, a2, a3, a4, a5⟩ := h
  exact (leave_any w F1 b1 g1 m now a1 ok.wf hm).mono fun e w' hq => ⟨hq.1, Pair.left a1 a2 a3 a4 a5 hq.2⟩
theorem pair_rleave (h : Pair E w0 w b1 b2 g1 g2) (ok : Ok (n + 1) g2) (m now : Int) :
    Calls Try.prog 39 #[.pointer (some ⟨b2, 0, none⟩), .int .i64 m, .int .i64 now] w fun e w' => e = .returned (.int .i64 (leaveE g2 m now)) ∧ Pair E w0 w' b1 b2 g1 (leaveG g2 m now) := by
  obtain ⟨F1, F2, a1, a2, a3, a4, a5⟩ := h
  exact (rleave_any w F2 b2 g2 m now a2 ok.wf).mono fun e w' hq => ⟨hq.1, Pair.right a1 a2 a3 a4 a5 hq.2⟩
theorem pair_tick (h : Pair E w0 w b1 b2 g1 g2) (ok : Ok (n + 2) g1) (now : Int) :
    Calls Try.prog 14 #[.pointer (some ⟨b1, 0, none⟩), .int .i64 now] w fun e w' => e = .returned (.tuple #[]) ∧ Pair E w0 w' b1 b2 (tickG g1 now) g2 := by
  obtain ⟨F1, F2, a1, a2, a3, a4, a5⟩ := h
  exact (tick_any w F1 b1 g1 now a1 ok.wf ok.emp (by have := ok.gen; omega)).mono fun e w' hq => ⟨hq.1, Pair.left a1 a2 a3 a4 a5 hq.2⟩
theorem pair_rtick (h : Pair E w0 w b1 b2 g1 g2) (ok : Ok (n + 2) g2) (now : Int) :
    Calls Try.prog 40 #[.pointer (some ⟨b2, 0, none⟩), .int .i64 now] w fun e w' => e = .returned (.tuple #[]) ∧ Pair E w0 w' b1 b2 g1 (tickG g2 now) := by
  obtain ⟨F1, F2, a1, a2, a3, a4, a5⟩ := h
  exact (rtick_any w F2 b2 g2 now a2 ok.wf (ok.emp.drop now _) (ok.wf.drop now _ (by have := ok.gen; omega))).mono fun e w' hq => ⟨hq.1, Pair.right a1 a2 a3 a4 a5 hq.2⟩
theorem pair_knows (h : Pair E w0 w b1 b2 g1 g2) (ok : Ok n g1) (m gn : Int) (hm : -9223372036854775808 ≤ m ∧ m ≤ 9223372036854775807) :
    Calls Try.prog 17 #[.pointer (some ⟨b1, 0, none⟩), .int .i64 m, .int .i64 gn] w fun e w' => e = .returned (.int .i64 (knowsE g1 m gn)) ∧ Pair E w0 w' b1 b2 g1 g2 := by
  have h0 := h
  obtain ⟨F1, F2, a1, a2, a3, a4, a5⟩ := h
  exact (knows_any w F1 b1 g1 m gn a1 ok.wf hm).mono fun e w' hq => ⟨hq.1, h0.keep hq.2⟩
theorem pair_rknows (h : Pair E w0 w b1 b2 g1 g2) (ok : Ok n g2) (m gn : Int) :
    Calls Try.prog 41 #[.pointer (some ⟨b2, 0, none⟩), .int .i64 m, .int .i64 gn] w fun e w' => e = .returned (.int .i64 (knowsE g2 m gn)) ∧ Pair E w0 w' b1 b2 g1 g2 := by
  have h0 := h
  obtain ⟨F1, F2, a1, ⟨v, L, a2⟩, a3, a4, a5⟩ := h
  exact (rknows_any w F2 b2 g2 v L m gn a2 (by have := ok.wf.len; have := a2.len; omega)).mono fun e w' hq => ⟨hq.1, by rw [hq.2]; exact h0⟩
theorem pair_view (h : Pair E w0 w b1 b2 g1 g2) (ok : Ok n g1) : Calls Try.prog 12 #[.pointer (some ⟨b1, 0, none⟩)] w fun e w' => SeenPost w g1 e w' ∧ Pair E w0 w' b1 b2 g1 g2 := by
  have h0 := h
  obtain ⟨F1, F2, a1, a2, a3, a4, a5⟩ := h
  exact (view_any w F1 b1 g1 a1 (by have := ok.wf.len; omega) ok.bnd).mono fun e w' hq => ⟨hq.seen, h0.keep (by obtain ⟨_, _, _, h⟩ := hq; exact h)⟩
end
end Go.Proofs.Ytlmajhkhlmkeiaa

/-
  step: one call on both groups.
-/
namespace Go.Proofs.Ytlmajhkhlmkeiaa
open Go.RowKit Go.Shelf Fx

structure OpC where
  do_ : Int
  m : Int
  gn : Int
  now : Int
  topics : List ByteArray
  parts : List TopC
  round : Bool
  ta : Option Addr
  tc : Nat
  pa : Option Addr
  pc : Nat
def opCells (o : OpC) : Array Value := #[.int .i64 o.do_, .int .i64 o.m, .slice o.ta o.topics.length o.tc, .int .i64 o.gn, .slice o.pa o.parts.length o.pc, .bool o.round, .int .i64 o.now]
def stepGn (g : GroupC) (gn : Int) : Int := if -100 ≤ gn ∧ gn ≤ 100 then gn + g.gen else gn
def stepG (g : GroupC) (sg : Int) (o : OpC) : GroupC :=
  if o.do_ = 0 then (if joinE g o.m o.topics o.now = 0 then joinG g o.m o.topics o.now else g)
  else if o.do_ = 1 then syncG g o.m sg o.parts o.round o.now
  else if o.do_ = 2 then beatG g o.m sg o.now
  else if o.do_ = 3 then leaveG g o.m o.now
  else if o.do_ = 4 then tickG g o.now
  else g
theorem Pair.gen {E : Nat → Prop} {w0 w : World} {b1 b2 : Nat} {g1 g2 : GroupC} (h : Pair E w0 w b1 b2 g1 g2) : w.cell? ⟨b2, 3, none⟩ = some (.int .i64 g2.gen) ∧ b2 < w.heap.size := by
  obtain ⟨_, _, _, ⟨v, L, h⟩, _⟩ := h
  exact ⟨block_cell h.blk 3, block_lt h.blk⟩
def BRel (E' : Nat → Prop) (wa : World) (b1 b2 : Nat) (P1 P2 : GroupC → Prop) (w' : World) : Prop := ∃ gx gy, Pair E' wa w' b1 b2 gx gy ∧ P1 gx ∧ P2 gy
def StepPost (E : Nat → Prop) (w0 : World) (b1 b2 : Nat) (g1 g2 : GroupC) (o : OpC) (w' : World) : Prop :=
  ∃ (sg : Int) (h1 h2 : GroupC), Pair E w0 w' b1 b2 h1 h2 ∧ (h1 = stepG g1 sg o ∨ h1 = g1) ∧ (h2 = stepG g2 sg o ∨ h2 = g2)
theorem touch_idem (g : GroupC) (m t : Int) : touchG (touchG g m t) m t = touchG g m t := by
  unfold touchG
  simp only [List.map_map]
  congr 1
  apply List.map_congr_left
  intro o _
  show touchO m t (touchO m t o) = touchO m t o
  unfold touchO
  by_cases h : o.member = m
  · rw [if_pos h, if_pos (by exact h)]
  · rw [if_neg h, if_neg h]
theorem known_touch (g : GroupC) (m t x gn : Int) : knownE (touchG g m t) x gn = knownE g x gn := by
  have h : hasM (touchG g m t) x = hasM g x := by
    unfold hasM touchG
    rw [List.any_map]
    congr 1
    funext o
    show ((touchO m t o).member == x) = (o.member == x)
    unfold touchO
    split <;> rfl
  have h2 : (touchG g m t).gen = g.gen := rfl
  unfold knownE
  rw [h, h2]
theorem beat_idem (g : GroupC) (m gn now : Int) : beatG (beatG g m gn now) m gn now = beatG g m gn now := by
  by_cases ht : timeOk now = true
  · by_cases hk : knownE g m gn = 0
    · have e : beatG g m gn now = touchG g m (now + g.session) := by unfold beatG; rw [if_pos ht, if_pos hk]
      rw [e]
      unfold beatG
      rw [if_pos ht, known_touch, if_pos hk]
      exact touch_idem g m (now + g.session)
    · have e : beatG g m gn now = g := by unfold beatG; rw [if_pos ht, if_neg hk]
      rw [e, e]
  · have e : beatG g m gn now = g := by unfold beatG; rw [if_neg ht]
    rw [e, e]
theorem mem_anew {g : GroupC} {now : Int} {o : OneC} (h : o ∈ (anewG g now).ones) : ∃ o' ∈ g.ones, o'.member = o.member := by
  unfold anewG at h
  split at h
  · exact ⟨o, h, rfl⟩
  · obtain ⟨o', h', rfl⟩ := List.mem_map.1 h
    exact ⟨o', h', rfl⟩
theorem mem_close {g : GroupC} {now : Int} {o : OneC} (h : o ∈ (closeG g now).ones) : ∃ o' ∈ g.ones, o'.member = o.member := by
  unfold closeG at h
  split at h
  · exact ⟨o, (List.mem_filter.1 h).1, rfl⟩
  · exact ⟨o, (List.mem_filter.1 h).1, rfl⟩
theorem mem_drop {g : GroupC} {now : Int} {q : OneC → Bool} {o : OneC} (h : o ∈ (dropG g now q).ones) : ∃ o' ∈ (filG g q).ones, o'.member = o.member := by
  unfold dropG at h
  split at h
  · exact ⟨o, h, rfl⟩
  · split at h
    · exact mem_anew h
    · split at h
      · exact mem_close h
      · exact ⟨o, h, rfl⟩
theorem leave_idem (g : GroupC) (m now : Int) : leaveG (leaveG g m now) m now = leaveG g m now := by
  by_cases ht : timeOk now = true
  · by_cases hk : hasM g m = true
    · have e : leaveG g m now = dropG g now (fun o => o.member == m) := by unfold leaveG; rw [if_pos ht, if_pos hk]
      rw [e]
      have hn : hasM (dropG g now (fun o => o.member == m)) m = false := by
        unfold hasM
        rw [List.any_eq_false]
        intro o ho
        obtain ⟨o', ho', e'⟩ := mem_drop ho
        have h2 := (List.mem_filter.1 ho').2
        rw [← e']
        simpa using h2
      unfold leaveG
      rw [if_pos ht, if_neg (by rw [hn]; simp)]
    · have e : leaveG g m now = g := by unfold leaveG; rw [if_pos ht, if_neg hk]
      rw [e, e]
  · have e : leaveG g m now = g := by unfold leaveG; rw [if_neg ht]
    rw [e, e]
end Go.Proofs.Ytlmajhkhlmkeiaa

/-
  step: one call on both groups, case by case.
-/
namespace Go.Proofs.Ytlmajhkhlmkeiaa
open Go.RowKit Go.Shelf Fx

set_option maxRecDepth 100000 in
set_option maxHeartbeats 8000000 in
theorem step_0 {E : Nat → Prop} {w0 w : World} {b1 b2 n : Nat} {g1 g2 : GroupC} (h : Pair E w0 w b1 b2 g1 g2) (ok : Ok (n + 2) g1) (ok2 : Ok (n + 2) g2) (o : OpC) (hdk : o.do_ = 0) (hm : -9223372036854775808 ≤ o.m ∧ o.m ≤ 9223372036854775807) (htl : o.topics.length ≤ 1000)
    (ht : Out 1 rStr w0 (fun k => ¬ E k) (.slice o.ta o.topics.length o.tc) o.topics) (hp : Out 2 rTop w0 (fun k => ¬ E k) (.slice o.pa o.parts.length o.pc) o.parts) :
    Calls Try.prog 19 #[.pointer (some ⟨b1, 0, none⟩), .pointer (some ⟨b2, 0, none⟩), .agg #[.int .i64 o.do_, .int .i64 o.m, .slice o.ta o.topics.length o.tc, .int .i64 o.gn, .slice o.pa o.parts.length o.pc, .bool o.round, .int .i64 o.now]] w fun e w' => (∃ x, e = .returned (.bool x)) ∧ StepPost E w0 b1 b2 g1 g2 o w' := by
  have HDK := Lib.hid hdk
  clear hdk
  obtain ⟨E', hEl, hEs, hmk⟩ := h.base
  have hka : K0 w (w.alloc (.cells #[.int .i64 o.do_, .int .i64 o.m, .slice o.ta o.topics.length o.tc, .int .i64 o.gn, .slice o.pa o.parts.length o.pc, .bool o.round, .int .i64 o.now] 48)) := (Keeps.refl _ _).alloc _
  have HA : Hid ((w.alloc (.cells #[.int .i64 o.do_, .int .i64 o.m, .slice o.ta o.topics.length o.tc, .int .i64 o.gn, .slice o.pa o.parts.length o.pc, .bool o.round, .int .i64 o.now] 48)).heap[w.heap.size]? = some (.cells #[.int .i64 o.do_, .int .i64 o.m, .slice o.ta o.topics.length o.tc, .int .i64 o.gn, .slice o.pa o.parts.length o.pc, .bool o.round, .int .i64 o.now] 48 (0, 0))) := heap_new _ _ _ rfl
  have HP := Lib.hid (hmk _ hka)
  have h05 : Keeps E w0 (w.alloc (.cells #[.int .i64 o.do_, .int .i64 o.m, .slice o.ta o.topics.length o.tc, .int .i64 o.gn, .slice o.pa o.parts.length o.pc, .bool o.round, .int .i64 o.now] 48)) := h.keeps.trans hka (fun _ _ e => e.elim)
  have HT := Lib.hid (out_pair still_str ht h05 hEs)
  have HPP := Lib.hid (out_pair still_top hp h05 hEs)
  have HBK : Hid (∀ w2 g3 g4, Pair E' (w.alloc (.cells #[.int .i64 o.do_, .int .i64 o.m, .slice o.ta o.topics.length o.tc, .int .i64 o.gn, .slice o.pa o.parts.length o.pc, .bool o.round, .int .i64 o.now] 48)) w2 b1 b2 g3 g4 → Pair E w0 w2 b1 b2 g3 g4) := fun w2 g3 g4 h2 => Pair.back h.keeps hka hEs h2
  have HNB : Hid (¬ E' w.heap.size) := fun e => Nat.lt_irrefl _ (hEl _ e)
  have HBO : Hid (∀ w2 g3 g4, Pair E' (w.alloc (.cells #[.int .i64 o.do_, .int .i64 o.m, .slice o.ta o.topics.length o.tc, .int .i64 o.gn, .slice o.pa o.parts.length o.pc, .bool o.round, .int .i64 o.now] 48)) w2 b1 b2 g3 g4 → w2.heap[w.heap.size]? = some (.cells #[.int .i64 o.do_, .int .i64 o.m, .slice o.ta o.topics.length o.tc, .int .i64 o.gn, .slice o.pa o.parts.length o.pc, .bool o.round, .int .i64 o.now] 48 (0, 0))) := fun w2 g3 g4 h2 => (h2.keeps.block _ (block_lt HA.out) HNB.out).trans HA.out
  have HOK := Lib.hid ok
  have HOK2 := Lib.hid ok2
  have HM := Lib.hid hm
  have hgen := ok2.wf.gen
  obtain ⟨cg, hb2⟩ := HP.out.gen
  have c0 : (w.alloc (.cells #[.int .i64 o.do_, .int .i64 o.m, .slice o.ta o.topics.length o.tc, .int .i64 o.gn, .slice o.pa o.parts.length o.pc, .bool o.round, .int .i64 o.now] 48)).cell? ⟨w.heap.size, 0, none⟩ = some (.int .i64 o.do_) := block_cell HA.out 0
  have c1 : (w.alloc (.cells #[.int .i64 o.do_, .int .i64 o.m, .slice o.ta o.topics.length o.tc, .int .i64 o.gn, .slice o.pa o.parts.length o.pc, .bool o.round, .int .i64 o.now] 48)).cell? ⟨w.heap.size, 1, none⟩ = some (.int .i64 o.m) := block_cell HA.out 1
  have c2 : (w.alloc (.cells #[.int .i64 o.do_, .int .i64 o.m, .slice o.ta o.topics.length o.tc, .int .i64 o.gn, .slice o.pa o.parts.length o.pc, .bool o.round, .int .i64 o.now] 48)).cell? ⟨w.heap.size, 2, none⟩ = some (.slice o.ta o.topics.length o.tc) := block_cell HA.out 2
  have c3 : (w.alloc (.cells #[.int .i64 o.do_, .int .i64 o.m, .slice o.ta o.topics.length o.tc, .int .i64 o.gn, .slice o.pa o.parts.length o.pc, .bool o.round, .int .i64 o.now] 48)).cell? ⟨w.heap.size, 3, none⟩ = some (.int .i64 o.gn) := block_cell HA.out 3
  have c4 : (w.alloc (.cells #[.int .i64 o.do_, .int .i64 o.m, .slice o.ta o.topics.length o.tc, .int .i64 o.gn, .slice o.pa o.parts.length o.pc, .bool o.round, .int .i64 o.now] 48)).cell? ⟨w.heap.size, 4, none⟩ = some (.slice o.pa o.parts.length o.pc) := block_cell HA.out 4
  have c5 : (w.alloc (.cells #[.int .i64 o.do_, .int .i64 o.m, .slice o.ta o.topics.length o.tc, .int .i64 o.gn, .slice o.pa o.parts.length o.pc, .bool o.round, .int .i64 o.now] 48)).cell? ⟨w.heap.size, 5, none⟩ = some (.bool o.round) := block_cell HA.out 5
  have c6 : (w.alloc (.cells #[.int .i64 o.do_, .int .i64 o.m, .slice o.ta o.topics.length o.tc, .int .i64 o.gn, .slice o.pa o.parts.length o.pc, .bool o.round, .int .i64 o.now] 48)).cell? ⟨w.heap.size, 6, none⟩ = some (.int .i64 o.now) := block_cell HA.out 6
  have clt := block_lt HA.out
  clear h hka h05 ht hp hmk ok ok2 hm hEl hEs
  generalize hgg : g2.gen = gg at cg hgen
  have HGG := Lib.hid hgg
  clear hgg
  go_enter Try.func19, Try.ntmps19
  go_upto_region 2 with fail
  go_cut [23] (fun tv wq => tv = .bool (decide (-100 ≤ o.gn) && decide (o.gn ≤ 100)) ∧ wq = (w.alloc (.cells #[.int .i64 o.do_, .int .i64 o.m, .slice o.ta o.topics.length o.tc, .int .i64 o.gn, .slice o.pa o.parts.length o.pc, .bool o.round, .int .i64 o.now] 48)))
  case first =>
    by_cases q1 : -100 ≤ o.gn
    · by_cases q2 : o.gn ≤ 100
      · go_wp2
        go_meet
        case rel => exact ⟨by simp [q1, q2], rfl⟩
      · go_wp2
        go_meet
        case rel => exact ⟨by first | (simp [q1, q2]; done) | (simp [q1, q2]; intros; omega), rfl⟩
    · go_wp2
      go_meet
      case rel => exact ⟨by first | (simp [q1]; done) | (simp [q1]; intros; omega), rfl⟩
  case rest =>
    obtain ⟨rfl, rfl⟩ := hcut
    go_upto_if 23 with fail
    go_cut [7] (fun gv wq => gv = .int .i64 (stepGn g2 o.gn) ∧ wq = (w.alloc (.cells #[.int .i64 o.do_, .int .i64 o.m, .slice o.ta o.topics.length o.tc, .int .i64 o.gn, .slice o.pa o.parts.length o.pc, .bool o.round, .int .i64 o.now] 48)))
    case first =>
      by_cases q1 : -100 ≤ o.gn ∧ o.gn ≤ 100
      · have e9 : (decide (-100 ≤ o.gn) && decide (o.gn ≤ 100)) = true := by simp [q1]
        have HS : Hid (stepGn g2 o.gn = o.gn + gg) := by show _ = _; unfold stepGn; rw [if_pos q1, HGG.out]
        rw [e9]
        obtain ⟨q2, q3⟩ := q1
        go_wp2
        go_meet
        case rel => exact ⟨by rw [HS.out], rfl⟩
      · have e9 : (decide (-100 ≤ o.gn) && decide (o.gn ≤ 100)) = false := by
          cases hd : (decide (-100 ≤ o.gn) && decide (o.gn ≤ 100)) with
          | false => rfl
          | true => exact absurd (by simpa using hd) q1
        have HS : Hid (stepGn g2 o.gn = o.gn) := by show _ = _; unfold stepGn; rw [if_neg q1]
        rw [e9]
        clear q1
        go_wp2
        go_meet
        case rel => exact ⟨by rw [HS.out], rfl⟩
    case rest =>
      obtain ⟨rfl, rfl⟩ := hcut
      have hmr := HM.out
      clear cg hb2
      generalize hwa : w.alloc (.cells #[.int .i64 o.do_, .int .i64 o.m, .slice o.ta o.topics.length o.tc, .int .i64 o.gn, .slice o.pa o.parts.length o.pc, .bool o.round, .int .i64 o.now] 48) = wa at *
      clear hwa
      generalize hdo : o.do_ = dd at c0
      have HDO := Lib.hid hdo
      clear hdo
      generalize hsg : stepGn g2 o.gn = sg
      have HSG := Lib.hid hsg
      clear hsg
      have d0 : dd = 0 := by have := HDO.out; have h9 := HDK.out; omega
      have HD : Hid (∀ g, stepG g sg o = if joinE g o.m o.topics o.now = 0 then joinG g o.m o.topics o.now else g) := fun g => by unfold stepG; rw [if_pos (HDO.out.trans d0)]
      subst d0
      go_wp2_with fail
      refine (pair_join HP.out (HOK.out.le (m := n + 1) (by omega)) o.m o.now HM.out _ o.topics HT.out).mono ?_
      rintro e w1 ⟨⟨x1, y1, rfl⟩, p1⟩
      have P1 := Lib.hid p1
      have HB1 := Lib.hid (HBO.out _ _ _ p1)
      clear p1 c0 c1 c2 c3 c4 c5 c6 clt
      have c1 : w1.cell? ⟨w.heap.size, 1, none⟩ = some (.int .i64 o.m) := block_cell HB1.out 1
      have c2 : w1.cell? ⟨w.heap.size, 2, none⟩ = some (.slice o.ta o.topics.length o.tc) := block_cell HB1.out 2
      have c6 : w1.cell? ⟨w.heap.size, 6, none⟩ = some (.int .i64 o.now) := block_cell HB1.out 6
      have clt := block_lt HB1.out
      go_wp2_with fail
      refine (pair_rjoin P1.out (HOK2.out.le (m := n + 1) (by omega)) o.m o.now HM.out _ o.topics htl HT.out).mono ?_
      rintro e w2 ⟨⟨x2, y2, rfl⟩, p2⟩
      have HF : Hid (StepPost E w0 b1 b2 g1 g2 o w2) := ⟨sg, _, _, HBK.out _ _ _ p2, .inl (HD.out _).symm, .inl (HD.out _).symm⟩
      clear p2 c1 c2 c6 clt
      by_cases hx : x1 = x2
      · go_wp2
        go_ret
        exact ⟨⟨_, rfl⟩, HF.out⟩
      · go_wp2
        go_ret
        exact ⟨⟨_, rfl⟩, HF.out⟩
set_option maxRecDepth 100000 in
set_option maxHeartbeats 8000000 in
theorem step_1 {E : Nat → Prop} {w0 w : World} {b1 b2 n : Nat} {g1 g2 : GroupC} (h : Pair E w0 w b1 b2 g1 g2) (ok : Ok (n + 2) g1) (ok2 : Ok (n + 2) g2) (o : OpC) (hdk : o.do_ = 1) (hm : -9223372036854775808 ≤ o.m ∧ o.m ≤ 9223372036854775807) (htl : o.topics.length ≤ 1000)
    (ht : Out 1 rStr w0 (fun k => ¬ E k) (.slice o.ta o.topics.length o.tc) o.topics) (hp : Out 2 rTop w0 (fun k => ¬ E k) (.slice o.pa o.parts.length o.pc) o.parts) :
    Calls Try.prog 19 #[.pointer (some ⟨b1, 0, none⟩), .pointer (some ⟨b2, 0, none⟩), .agg #[.int .i64 o.do_, .int .i64 o.m, .slice o.ta o.topics.length o.tc, .int .i64 o.gn, .slice o.pa o.parts.length o.pc, .bool o.round, .int .i64 o.now]] w fun e w' => (∃ x, e = .returned (.bool x)) ∧ StepPost E w0 b1 b2 g1 g2 o w' := by
  have HDK := Lib.hid hdk
  clear hdk
  obtain ⟨E', hEl, hEs, hmk⟩ := h.base
  have hka : K0 w (w.alloc (.cells #[.int .i64 o.do_, .int .i64 o.m, .slice o.ta o.topics.length o.tc, .int .i64 o.gn, .slice o.pa o.parts.length o.pc, .bool o.round, .int .i64 o.now] 48)) := (Keeps.refl _ _).alloc _
  have HA : Hid ((w.alloc (.cells #[.int .i64 o.do_, .int .i64 o.m, .slice o.ta o.topics.length o.tc, .int .i64 o.gn, .slice o.pa o.parts.length o.pc, .bool o.round, .int .i64 o.now] 48)).heap[w.heap.size]? = some (.cells #[.int .i64 o.do_, .int .i64 o.m, .slice o.ta o.topics.length o.tc, .int .i64 o.gn, .slice o.pa o.parts.length o.pc, .bool o.round, .int .i64 o.now] 48 (0, 0))) := heap_new _ _ _ rfl
  have HP := Lib.hid (hmk _ hka)
  have h05 : Keeps E w0 (w.alloc (.cells #[.int .i64 o.do_, .int .i64 o.m, .slice o.ta o.topics.length o.tc, .int .i64 o.gn, .slice o.pa o.parts.length o.pc, .bool o.round, .int .i64 o.now] 48)) := h.keeps.trans hka (fun _ _ e => e.elim)
  have HT := Lib.hid (out_pair still_str ht h05 hEs)
  have HPP := Lib.hid (out_pair still_top hp h05 hEs)
  have HBK : Hid (∀ w2 g3 g4, Pair E' (w.alloc (.cells #[.int .i64 o.do_, .int .i64 o.m, .slice o.ta o.topics.length o.tc, .int .i64 o.gn, .slice o.pa o.parts.length o.pc, .bool o.round, .int .i64 o.now] 48)) w2 b1 b2 g3 g4 → Pair E w0 w2 b1 b2 g3 g4) := fun w2 g3 g4 h2 => Pair.back h.keeps hka hEs h2
  have HNB : Hid (¬ E' w.heap.size) := fun e => Nat.lt_irrefl _ (hEl _ e)
  have HBO : Hid (∀ w2 g3 g4, Pair E' (w.alloc (.cells #[.int .i64 o.do_, .int .i64 o.m, .slice o.ta o.topics.length o.tc, .int .i64 o.gn, .slice o.pa o.parts.length o.pc, .bool o.round, .int .i64 o.now] 48)) w2 b1 b2 g3 g4 → w2.heap[w.heap.size]? = some (.cells #[.int .i64 o.do_, .int .i64 o.m, .slice o.ta o.topics.length o.tc, .int .i64 o.gn, .slice o.pa o.parts.length o.pc, .bool o.round, .int .i64 o.now] 48 (0, 0))) := fun w2 g3 g4 h2 => (h2.keeps.block _ (block_lt HA.out) HNB.out).trans HA.out
  have HOK := Lib.hid ok
  have HOK2 := Lib.hid ok2
  have HM := Lib.hid hm
  have hgen := ok2.wf.gen
  obtain ⟨cg, hb2⟩ := HP.out.gen
  have c0 : (w.alloc (.cells #[.int .i64 o.do_, .int .i64 o.m, .slice o.ta o.topics.length o.tc, .int .i64 o.gn, .slice o.pa o.parts.length o.pc, .bool o.round, .int .i64 o.now] 48)).cell? ⟨w.heap.size, 0, none⟩ = some (.int .i64 o.do_) := block_cell HA.out 0
  have c1 : (w.alloc (.cells #[.int .i64 o.do_, .int .i64 o.m, .slice o.ta o.topics.length o.tc, .int .i64 o.gn, .slice o.pa o.parts.length o.pc, .bool o.round, .int .i64 o.now] 48)).cell? ⟨w.heap.size, 1, none⟩ = some (.int .i64 o.m) := block_cell HA.out 1
  have c2 : (w.alloc (.cells #[.int .i64 o.do_, .int .i64 o.m, .slice o.ta o.topics.length o.tc, .int .i64 o.gn, .slice o.pa o.parts.length o.pc, .bool o.round, .int .i64 o.now] 48)).cell? ⟨w.heap.size, 2, none⟩ = some (.slice o.ta o.topics.length o.tc) := block_cell HA.out 2
  have c3 : (w.alloc (.cells #[.int .i64 o.do_, .int .i64 o.m, .slice o.ta o.topics.length o.tc, .int .i64 o.gn, .slice o.pa o.parts.length o.pc, .bool o.round, .int .i64 o.now] 48)).cell? ⟨w.heap.size, 3, none⟩ = some (.int .i64 o.gn) := block_cell HA.out 3
  have c4 : (w.alloc (.cells #[.int .i64 o.do_, .int .i64 o.m, .slice o.ta o.topics.length o.tc, .int .i64 o.gn, .slice o.pa o.parts.length o.pc, .bool o.round, .int .i64 o.now] 48)).cell? ⟨w.heap.size, 4, none⟩ = some (.slice o.pa o.parts.length o.pc) := block_cell HA.out 4
  have c5 : (w.alloc (.cells #[.int .i64 o.do_, .int .i64 o.m, .slice o.ta o.topics.length o.tc, .int .i64 o.gn, .slice o.pa o.parts.length o.pc, .bool o.round, .int .i64 o.now] 48)).cell? ⟨w.heap.size, 5, none⟩ = some (.bool o.round) := block_cell HA.out 5
  have c6 : (w.alloc (.cells #[.int .i64 o.do_, .int .i64 o.m, .slice o.ta o.topics.length o.tc, .int .i64 o.gn, .slice o.pa o.parts.length o.pc, .bool o.round, .int .i64 o.now] 48)).cell? ⟨w.heap.size, 6, none⟩ = some (.int .i64 o.now) := block_cell HA.out 6
  have clt := block_lt HA.out
  clear h hka h05 ht hp hmk ok ok2 hm hEl hEs
  generalize hgg : g2.gen = gg at cg hgen
  have HGG := Lib.hid hgg
  clear hgg
  go_enter Try.func19, Try.ntmps19
  go_upto_region 2 with fail
  go_cut [23] (fun tv wq => tv = .bool (decide (-100 ≤ o.gn) && decide (o.gn ≤ 100)) ∧ wq = (w.alloc (.cells #[.int .i64 o.do_, .int .i64 o.m, .slice o.ta o.topics.length o.tc, .int .i64 o.gn, .slice o.pa o.parts.length o.pc, .bool o.round, .int .i64 o.now] 48)))
  case first =>
    by_cases q1 : -100 ≤ o.gn
    · by_cases q2 : o.gn ≤ 100
      · go_wp2
        go_meet
        case rel => exact ⟨by simp [q1, q2], rfl⟩
      · go_wp2
        go_meet
        case rel => exact ⟨by first | (simp [q1, q2]; done) | (simp [q1, q2]; intros; omega), rfl⟩
    · go_wp2
      go_meet
      case rel => exact ⟨by first | (simp [q1]; done) | (simp [q1]; intros; omega), rfl⟩
  case rest =>
    obtain ⟨rfl, rfl⟩ := hcut
    go_upto_if 23 with fail
    go_cut [7] (fun gv wq => gv = .int .i64 (stepGn g2 o.gn) ∧ wq = (w.alloc (.cells #[.int .i64 o.do_, .int .i64 o.m, .slice o.ta o.topics.length o.tc, .int .i64 o.gn, .slice o.pa o.parts.length o.pc, .bool o.round, .int .i64 o.now] 48)))
    case first =>
      by_cases q1 : -100 ≤ o.gn ∧ o.gn ≤ 100
      · have e9 : (decide (-100 ≤ o.gn) && decide (o.gn ≤ 100)) = true := by simp [q1]
        have HS : Hid (stepGn g2 o.gn = o.gn + gg) := by show _ = _; unfold stepGn; rw [if_pos q1, HGG.out]
        rw [e9]
        obtain ⟨q2, q3⟩ := q1
        go_wp2
        go_meet
        case rel => exact ⟨by rw [HS.out], rfl⟩
      · have e9 : (decide (-100 ≤ o.gn) && decide (o.gn ≤ 100)) = false := by
          cases hd : (decide (-100 ≤ o.gn) && decide (o.gn ≤ 100)) with
          | false => rfl
          | true => exact absurd (by simpa using hd) q1
        have HS : Hid (stepGn g2 o.gn = o.gn) := by show _ = _; unfold stepGn; rw [if_neg q1]
        rw [e9]
        clear q1
        go_wp2
        go_meet
        case rel => exact ⟨by rw [HS.out], rfl⟩
    case rest =>
      obtain ⟨rfl, rfl⟩ := hcut
      have hmr := HM.out
      clear cg hb2
      generalize hwa : w.alloc (.cells #[.int .i64 o.do_, .int .i64 o.m, .slice o.ta o.topics.length o.tc, .int .i64 o.gn, .slice o.pa o.parts.length o.pc, .bool o.round, .int .i64 o.now] 48) = wa at *
      clear hwa
      generalize hdo : o.do_ = dd at c0
      have HDO := Lib.hid hdo
      clear hdo
      generalize hsg : stepGn g2 o.gn = sg
      have HSG := Lib.hid hsg
      clear hsg
      have d0 : ¬ dd = 0 := by have := HDO.out; have h9 := HDK.out; omega
      have d1 : dd = 1 := by have := HDO.out; have h9 := HDK.out; omega
      have HD : Hid (∀ g, stepG g sg o = syncG g o.m sg o.parts o.round o.now) := fun g => by unfold stepG; rw [if_neg (fun e => d0 (HDO.out.symm.trans e)), if_pos (HDO.out.trans d1)]
      subst d1
      clear d0
      obtain ⟨F1, F2, a1, a2, a3, a4, a5⟩ := HP.out
      have HSY := Lib.hid (sync_any wa F1 b1 g1 o.m sg o.now _ o.parts o.round a1 HOK.out.wf HOK.out.bnd HM.out (out_pair still_top HPP.out a5 fun k e => a4 k (.inl e)))
      have H1 := Lib.hid a1
      have H2 := Lib.hid a2
      have H3 := Lib.hid a3
      have H4 := Lib.hid a4
      have H5 := Lib.hid a5
      clear a1 a2 a3 a4 a5
      go_wp2_with fail
      refine HSY.out.mono ?_
      intro e w1 hq
      obtain ⟨pv, F1', rfl, q2, q3, q4, q5, q6⟩ := hq
      have HA2 := Lib.hid (H2.out.keep q4 (fun k e e2 => H3.out k e2 e))
      have P1 := Lib.hid (Pair.left H1.out H2.out H3.out H4.out H5.out ⟨F1', q2, q3, q4⟩)
      have HB1 := Lib.hid (HBO.out _ _ _ P1.out)
      have hps : ∃ ps, Out 2 rPart w1 (fun k => ¬ F2 k) pv ps := by
        by_cases h0 : syncE g1 o.m sg o.parts o.now = 0
        · exact ⟨_, (q5 h0).keep still_part (Keeps.refl (fun _ => False) _) (fun _ _ _ e => e) (fun k _ e e2 => by have := H2.out.ltF k e2; have e3 := e.2; omega)⟩
        · exact ⟨[], by rw [q6 h0]; exact Out.nil _ _ _ _⟩
      obtain ⟨ps, hps⟩ := hps
      have HPS := Lib.hid hps
      have HD1 : Hid (∀ k, F1' k → ¬ F2 k) := fun k e e2 => by
        rcases q3 k e with e3 | e3
        · exact H3.out k e3 e2
        · have := H2.out.ltF k e2; omega
      have HG1 := Lib.hid q2
      have H41 : Hid (∀ k, F1' k ∨ F2 k → E' k ∨ wa.heap.size ≤ k) := fun k e => by
        rcases e with e | e
        · rcases q3 k e with e | e
          · exact H4.out k (.inl e)
          · exact .inr e
        · exact H4.out k (.inr e)
      obtain ⟨pa9, pc9, epv, _, _⟩ := hps
      subst epv
      have HRS := Lib.hid (rsync_any w1 F2 b2 g2 o.m sg o.now _ o.parts o.round HA2.out HOK2.out.wf HOK2.out.bnd (HOK2.out.sync o.m sg o.parts o.round o.now).bnd (out_pair still_top HPP.out P1.out.keeps fun k e => H4.out k (.inr e)))
      clear q2 q3 q4 q5 q6 c0 c1 c2 c3 c4 c5 c6 clt HSY
      generalize syncE g1 o.m sg o.parts o.now = se1
      generalize syncE g2 o.m sg o.parts o.now = se2 at HRS
      have c1 : w1.cell? ⟨w.heap.size, 1, none⟩ = some (.int .i64 o.m) := block_cell HB1.out 1
      have c4 : w1.cell? ⟨w.heap.size, 4, none⟩ = some (.slice o.pa o.parts.length o.pc) := block_cell HB1.out 4
      have c5 : w1.cell? ⟨w.heap.size, 5, none⟩ = some (.bool o.round) := block_cell HB1.out 5
      have c6 : w1.cell? ⟨w.heap.size, 6, none⟩ = some (.int .i64 o.now) := block_cell HB1.out 6
      have clt := block_lt HB1.out
      go_wp2_with fail
      refine HRS.out.mono ?_
      intro e w2 hq2
      obtain ⟨pv2, F2', rfl, r2, r3, r4, ps2, r5, _⟩ := hq2
      have P2 := Lib.hid (Pair.right HG1.out HA2.out HD1.out H41.out P1.out.keeps ⟨F2', r2, r3, r4⟩)
      have HO2 := Lib.hid (HPS.out.keep still_part r4 (G' := fun _ => True) (fun _ _ e => e) (fun _ _ _ => trivial))
      have HR5 := Lib.hid r5
      obtain ⟨pa8, pc8, epv2, _, _⟩ := r5
      subst epv2
      clear r2 r3 r4 c1 c4 c5 c6 clt HRS
      by_cases hse : se1 = se2
      case neg =>
        have hse' : (se1 == se2) = false := by simpa using hse
        have HF : Hid (StepPost E w0 b1 b2 g1 g2 o w2) := ⟨sg, _, _, HBK.out _ _ _ P2.out, .inl (HD.out _).symm, .inl (HD.out _).symm⟩
        clear hse
        go_wp2
        go_ret
        exact ⟨⟨_, rfl⟩, HF.out⟩
      have hse' : (se1 == se2) = true := by simpa using hse
      clear hse
      go_wp2_with fail
      refine (same_out HO2.out HR5.out).mono ?_
      rintro e w3 ⟨x, rfl, k3⟩
      have HF : Hid (StepPost E w0 b1 b2 g1 g2 o w3) := ⟨sg, _, _, HBK.out _ _ _ (P2.out.keep k3), .inl (HD.out _).symm, .inl (HD.out _).symm⟩
      clear k3
      go_wp2
      go_ret
      exact ⟨⟨_, rfl⟩, HF.out⟩
set_option maxRecDepth 100000 in
set_option maxHeartbeats 8000000 in
theorem step_4 {E : Nat → Prop} {w0 w : World} {b1 b2 n : Nat} {g1 g2 : GroupC} (h : Pair E w0 w b1 b2 g1 g2) (ok : Ok (n + 2) g1) (ok2 : Ok (n + 2) g2) (o : OpC) (hdk : o.do_ = 4) (hm : -9223372036854775808 ≤ o.m ∧ o.m ≤ 9223372036854775807) (htl : o.topics.length ≤ 1000)
    (ht : Out 1 rStr w0 (fun k => ¬ E k) (.slice o.ta o.topics.length o.tc) o.topics) (hp : Out 2 rTop w0 (fun k => ¬ E k) (.slice o.pa o.parts.length o.pc) o.parts) :
    Calls Try.prog 19 #[.pointer (some ⟨b1, 0, none⟩), .pointer (some ⟨b2, 0, none⟩), .agg #[.int .i64 o.do_, .int .i64 o.m, .slice o.ta o.topics.length o.tc, .int .i64 o.gn, .slice o.pa o.parts.length o.pc, .bool o.round, .int .i64 o.now]] w fun e w' => (∃ x, e = .returned (.bool x)) ∧ StepPost E w0 b1 b2 g1 g2 o w' := by
  have HDK := Lib.hid hdk
  clear hdk
  obtain ⟨E', hEl, hEs, hmk⟩ := h.base
  have hka : K0 w (w.alloc (.cells #[.int .i64 o.do_, .int .i64 o.m, .slice o.ta o.topics.length o.tc, .int .i64 o.gn, .slice o.pa o.parts.length o.pc, .bool o.round, .int .i64 o.now] 48)) := (Keeps.refl _ _).alloc _
  have HA : Hid ((w.alloc (.cells #[.int .i64 o.do_, .int .i64 o.m, .slice o.ta o.topics.length o.tc, .int .i64 o.gn, .slice o.pa o.parts.length o.pc, .bool o.round, .int .i64 o.now] 48)).heap[w.heap.size]? = some (.cells #[.int .i64 o.do_, .int .i64 o.m, .slice o.ta o.topics.length o.tc, .int .i64 o.gn, .slice o.pa o.parts.length o.pc, .bool o.round, .int .i64 o.now] 48 (0, 0))) := heap_new _ _ _ rfl
  have HP := Lib.hid (hmk _ hka)
  have h05 : Keeps E w0 (w.alloc (.cells #[.int .i64 o.do_, .int .i64 o.m, .slice o.ta o.topics.length o.tc, .int .i64 o.gn, .slice o.pa o.parts.length o.pc, .bool o.round, .int .i64 o.now] 48)) := h.keeps.trans hka (fun _ _ e => e.elim)
  have HT := Lib.hid (out_pair still_str ht h05 hEs)
  have HPP := Lib.hid (out_pair still_top hp h05 hEs)
  have HBK : Hid (∀ w2 g3 g4, Pair E' (w.alloc (.cells #[.int .i64 o.do_, .int .i64 o.m, .slice o.ta o.topics.length o.tc, .int .i64 o.gn, .slice o.pa o.parts.length o.pc, .bool o.round, .int .i64 o.now] 48)) w2 b1 b2 g3 g4 → Pair E w0 w2 b1 b2 g3 g4) := fun w2 g3 g4 h2 => Pair.back h.keeps hka hEs h2
  have HNB : Hid (¬ E' w.heap.size) := fun e => Nat.lt_irrefl _ (hEl _ e)
  have HBO : Hid (∀ w2 g3 g4, Pair E' (w.alloc (.cells #[.int .i64 o.do_, .int .i64 o.m, .slice o.ta o.topics.length o.tc, .int .i64 o.gn, .slice o.pa o.parts.length o.pc, .bool o.round, .int .i64 o.now] 48)) w2 b1 b2 g3 g4 → w2.heap[w.heap.size]? = some (.cells #[.int .i64 o.do_, .int .i64 o.m, .slice o.ta o.topics.length o.tc, .int .i64 o.gn, .slice o.pa o.parts.length o.pc, .bool o.round, .int .i64 o.now] 48 (0, 0))) := fun w2 g3 g4 h2 => (h2.keeps.block _ (block_lt HA.out) HNB.out).trans HA.out
  have HOK := Lib.hid ok
  have HOK2 := Lib.hid ok2
  have HM := Lib.hid hm
  have hgen := ok2.wf.gen
  obtain ⟨cg, hb2⟩ := HP.out.gen
  have c0 : (w.alloc (.cells #[.int .i64 o.do_, .int .i64 o.m, .slice o.ta o.topics.length o.tc, .int .i64 o.gn, .slice o.pa o.parts.length o.pc, .bool o.round, .int .i64 o.now] 48)).cell? ⟨w.heap.size, 0, none⟩ = some (.int .i64 o.do_) := block_cell HA.out 0
  have c1 : (w.alloc (.cells #[.int .i64 o.do_, .int .i64 o.m, .slice o.ta o.topics.length o.tc, .int .i64 o.gn, .slice o.pa o.parts.length o.pc, .bool o.round, .int .i64 o.now] 48)).cell? ⟨w.heap.size, 1, none⟩ = some (.int .i64 o.m) := block_cell HA.out 1
  have c2 : (w.alloc (.cells #[.int .i64 o.do_, .int .i64 o.m, .slice o.ta o.topics.length o.tc, .int .i64 o.gn, .slice o.pa o.parts.length o.pc, .bool o.round, .int .i64 o.now] 48)).cell? ⟨w.heap.size, 2, none⟩ = some (.slice o.ta o.topics.length o.tc) := block_cell HA.out 2
  have c3 : (w.alloc (.cells #[.int .i64 o.do_, .int .i64 o.m, .slice o.ta o.topics.length o.tc, .int .i64 o.gn, .slice o.pa o.parts.length o.pc, .bool o.round, .int .i64 o.now] 48)).cell? ⟨w.heap.size, 3, none⟩ = some (.int .i64 o.gn) := block_cell HA.out 3
  have c4 : (w.alloc (.cells #[.int .i64 o.do_, .int .i64 o.m, .slice o.ta o.topics.length o.tc, .int .i64 o.gn, .slice o.pa o.parts.length o.pc, .bool o.round, .int .i64 o.now] 48)).cell? ⟨w.heap.size, 4, none⟩ = some (.slice o.pa o.parts.length o.pc) := block_cell HA.out 4
  have c5 : (w.alloc (.cells #[.int .i64 o.do_, .int .i64 o.m, .slice o.ta o.topics.length o.tc, .int .i64 o.gn, .slice o.pa o.parts.length o.pc, .bool o.round, .int .i64 o.now] 48)).cell? ⟨w.heap.size, 5, none⟩ = some (.bool o.round) := block_cell HA.out 5
  have c6 : (w.alloc (.cells #[.int .i64 o.do_, .int .i64 o.m, .slice o.ta o.topics.length o.tc, .int .i64 o.gn, .slice o.pa o.parts.length o.pc, .bool o.round, .int .i64 o.now] 48)).cell? ⟨w.heap.size, 6, none⟩ = some (.int .i64 o.now) := block_cell HA.out 6
  have clt := block_lt HA.out
  clear h hka h05 ht hp hmk ok ok2 hm hEl hEs
  generalize hgg : g2.gen = gg at cg hgen
  have HGG := Lib.hid hgg
  clear hgg
  go_enter Try.func19, Try.ntmps19
  go_upto_region 2 with fail
  go_cut [23] (fun tv wq => tv = .bool (decide (-100 ≤ o.gn) && decide (o.gn ≤ 100)) ∧ wq = (w.alloc (.cells #[.int .i64 o.do_, .int .i64 o.m, .slice o.ta o.topics.length o.tc, .int .i64 o.gn, .slice o.pa o.parts.length o.pc, .bool o.round, .int .i64 o.now] 48)))
  case first =>
    by_cases q1 : -100 ≤ o.gn
    · by_cases q2 : o.gn ≤ 100
      · go_wp2
        go_meet
        case rel => exact ⟨by simp [q1, q2], rfl⟩
      · go_wp2
        go_meet
        case rel => exact ⟨by first | (simp [q1, q2]; done) | (simp [q1, q2]; intros; omega), rfl⟩
    · go_wp2
      go_meet
      case rel => exact ⟨by first | (simp [q1]; done) | (simp [q1]; intros; omega), rfl⟩
  case rest =>
    obtain ⟨rfl, rfl⟩ := hcut
    go_upto_if 23 with fail
    go_cut [7] (fun gv wq => gv = .int .i64 (stepGn g2 o.gn) ∧ wq = (w.alloc (.cells #[.int .i64 o.do_, .int .i64 o.m, .slice o.ta o.topics.length o.tc, .int .i64 o.gn, .slice o.pa o.parts.length o.pc, .bool o.round, .int .i64 o.now] 48)))
    case first =>
      by_cases q1 : -100 ≤ o.gn ∧ o.gn ≤ 100
      · have e9 : (decide (-100 ≤ o.gn) && decide (o.gn ≤ 100)) = true := by simp [q1]
        have HS : Hid (stepGn g2 o.gn = o.gn + gg) := by show _ = _; unfold stepGn; rw [if_pos q1, HGG.out]
        rw [e9]
        obtain ⟨q2, q3⟩ := q1
        go_wp2
        go_meet
        case rel => exact ⟨by rw [HS.out], rfl⟩
      · have e9 : (decide (-100 ≤ o.gn) && decide (o.gn ≤ 100)) = false := by
          cases hd : (decide (-100 ≤ o.gn) && decide (o.gn ≤ 100)) with
          | false => rfl
          | true => exact absurd (by simpa using hd) q1
        have HS : Hid (stepGn g2 o.gn = o.gn) := by show _ = _; unfold stepGn; rw [if_neg q1]
        rw [e9]
        clear q1
        go_wp2
        go_meet
        case rel => exact ⟨by rw [HS.out], rfl⟩
    case rest =>
      obtain ⟨rfl, rfl⟩ := hcut
      have hmr := HM.out
      clear cg hb2
      generalize hwa : w.alloc (.cells #[.int .i64 o.do_, .int .i64 o.m, .slice o.ta o.topics.length o.tc, .int .i64 o.gn, .slice o.pa o.parts.length o.pc, .bool o.round, .int .i64 o.now] 48) = wa at *
      clear hwa
      generalize hdo : o.do_ = dd at c0
      have HDO := Lib.hid hdo
      clear hdo
      generalize hsg : stepGn g2 o.gn = sg
      have HSG := Lib.hid hsg
      clear hsg
      have d0 : ¬ dd = 0 := by have := HDO.out; have h9 := HDK.out; omega
      have d1 : ¬ dd = 1 := by have := HDO.out; have h9 := HDK.out; omega
      have d2 : ¬ dd = 2 := by have := HDO.out; have h9 := HDK.out; omega
      have d3 : ¬ dd = 3 := by have := HDO.out; have h9 := HDK.out; omega
      have d4 : dd = 4 := by have := HDO.out; have h9 := HDK.out; omega
      have HD : Hid (∀ g, stepG g sg o = tickG g o.now) := fun g => by unfold stepG; rw [if_neg (fun e => d0 (HDO.out.symm.trans e)), if_neg (fun e => d1 (HDO.out.symm.trans e)), if_neg (fun e => d2 (HDO.out.symm.trans e)), if_neg (fun e => d3 (HDO.out.symm.trans e)), if_pos (HDO.out.trans d4)]
      subst d4
      clear d0 d1 d2 d3
      go_wp2_with fail
      refine (pair_tick HP.out HOK.out o.now).mono ?_
      rintro e w1 ⟨rfl, p1⟩
      have P1 := Lib.hid p1
      have HB1 := Lib.hid (HBO.out _ _ _ p1)
      clear p1 c0 c1 c2 c3 c4 c5 c6 clt
      have c6 : w1.cell? ⟨w.heap.size, 6, none⟩ = some (.int .i64 o.now) := block_cell HB1.out 6
      have clt := block_lt HB1.out
      go_wp2_with fail
      refine (pair_rtick P1.out HOK2.out o.now).mono ?_
      rintro e w2 ⟨rfl, p2⟩
      have HF : Hid (StepPost E w0 b1 b2 g1 g2 o w2) := ⟨sg, _, _, HBK.out _ _ _ p2, .inl (HD.out _).symm, .inl (HD.out _).symm⟩
      clear p2 c6 clt
      go_wp2
      go_ret
      exact ⟨⟨_, rfl⟩, HF.out⟩
end Go.Proofs.Ytlmajhkhlmkeiaa
