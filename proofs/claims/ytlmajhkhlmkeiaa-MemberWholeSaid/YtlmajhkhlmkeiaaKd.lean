/-
  step: one call on both groups, case by case.
-/
import Derived.Test.YtlmajhkhlmkeiaaKc
import Derived.Test.YtlmajhkhlmkeiaaLb
import Derived.Lib.SmallJoins
import Derived.ProofKit
import Derived.OpenShut
import Derived.ShutString
import Derived.ChangeOld
namespace Go.Proofs.Ytlmajhkhlmkeiaa
open Go.RowKit Go.Shelf Fx

set_option maxRecDepth 100000 in
set_option maxHeartbeats 8000000 in
theorem step_2 {E : Nat → Prop} {w0 w : World} {b1 b2 n : Nat} {g1 g2 : GroupC} (h : Pair E w0 w b1 b2 g1 g2) (ok : Ok (n + 2) g1) (ok2 : Ok (n + 2) g2) (o : OpC) (hdk : o.do_ = 2) (hm : -9223372036854775808 ≤ o.m ∧ o.m ≤ 9223372036854775807) (htl : o.topics.length ≤ 1000)
    (ht : Out 1 rStr w0 (fun k => ¬ E k) (.slice o.ta o.topics.length o.tc) o.topics) (hp : Out 2 rTop w0 (fun k => ¬ E k) (.slice o.pa o.parts.length o.pc) o.parts) :
    Calls Try.prog 19 #[.pointer (some ⟨b1, 0, none⟩), .pointer (some ⟨b2, 0, none⟩), .agg #[.int .i64 o.do_, .int .i64 o.m, .slice o.ta o.topics.length o.tc, .int .i64 o.gn, .slice o.pa o.parts.length o.pc, .bool o.round, .int .i64 o.now]] w fun e w' => (∃ x, e = .returned (.bool x)) ∧ StepPost E w0 b1 b2 g1 g2 o w' := by
  have HDK := Lib.hid hdk
  clear hdk
  obtain ⟨E', hEl, hEs, hmk⟩ := h.base
  have hka : K0 w (w.alloc (.cells #[.int .i64 o.do_, .int .i64 o.m, .slice o.ta o.topics.length o.tc, .int .i64 o.gn, .slice o.pa o.parts.length o.pc, .bool o.round, .int .i64 o.now] 48)) := (Keeps.refl _ _).alloc _
  have HA : Hid ((w.alloc (.cells #[.int .i64 o.do_, .int .i64 o.m, .slice o.ta o.topics.length o.tc, .int .i64 o.gn, .slice o.pa o.parts.length o.pc, .bool o.round, .int .i64 o.now] 48)).heap[w.heap.size]? = some (.cells #[.int .i64 o.do_, .int .i64 o.m, .slice o.ta o.topics.length o.tc, .int .i64 o.gn, .slice o.pa o.parts.length o.pc, .bool o.round, .int .i64 o.now] 48 (0, 0))) := heap_new _ _ _ rfl
  have HP := Lib.hid (hmk _ hka)
  have h05 : Keeps E w0 (w.alloc (.cells #[.int .i64 o.do_, .int .i64 o.m, .slice o.ta o.topics.length o.tc, .int .i64 o.gn, .slice o.pa o.parts.length o.pc, .bool o.round, .int .i64 o.now] 48)) := h.keeps.trans hka (fun _ _ e => e.elim)
  have HT := Lib.hid (out_pair still_str ht h05 hEs)
  have HPP := Lib.hid (out_pair still_top hp h05 hEs)
  have HBK : Hid (∀ w2 g3 g4, Pair E' (w.alloc (.cells #[.int .i64 o.do_, .int .i64 o.m, .slice o.ta o.topics.length o.tc, .int .i64 o.gn, .slice o.pa o.parts.length o.pc, .bool o.round, .int .i64 o.now] 48)) w2 b1 b2 g3 g4 → Pair E w0 w2 b1 b2 g3 g4) := fun w2 g3 g4 h2 => Pair.back h.keeps hka hEs h2
  have HNB : Hid (¬ E' w.heap.size) := fun e => Nat.lt_irrefl _ (hEl _ e)
  have HBO : Hid (∀ w2 g3 g4, Pair E' (w.alloc (.cells #[.int .i64 o.do_, .int .i64 o.m, .slice o.ta o.topics.length o.tc, .int .i64 o.gn, .slice o.pa o.parts.length o.pc, .bool o.round, .int .i64 o.now] 48)) w2 b1 b2 g3 g4 → w2.heap[w.heap.size]? = some (.cells #[.int .i64 o.do_, .int .i64 o.m, .slice o.ta o.topics.length o.tc, .int .i64 o.gn, .slice o.pa o.parts.length o.pc, .bool o.round, .int .i64 o.now] 48 (0, 0))) := fun w2 g3 g4 h2 => (h2.keeps.block _ (block_lt HA.out) HNB.out).trans HA.out
  have HOK := Lib.hid ok
  have HOK2 := Lib.hid ok2
  have HM := Lib.hid hm
  have hgen := ok2.wf.gen
  obtain ⟨cg, hb2⟩ := HP.out.gen
  have c0 : (w.alloc (.cells #[.int .i64 o.do_, .int .i64 o.m, .slice o.ta o.topics.length o.tc, .int .i64 o.gn, .slice o.pa o.parts.length o.pc, .bool o.round, .int .i64 o.now] 48)).cell? ⟨w.heap.size, 0, none⟩ = some (.int .i64 o.do_) := block_cell HA.out 0
  have c1 : (w.alloc (.cells #[.int .i64 o.do_, .int .i64 o.m, .slice o.ta o.topics.length o.tc, .int .i64 o.gn, .slice o.pa o.parts.length o.pc, .bool o.round, .int .i64 o.now] 48)).cell? ⟨w.heap.size, 1, none⟩ = some (.int .i64 o.m) := block_cell HA.out 1
  have c2 : (w.alloc (.cells #[.int .i64 o.do_, .int .i64 o.m, .slice o.ta o.topics.length o.tc, .int .i64 o.gn, .slice o.pa o.parts.length o.pc, .bool o.round, .int .i64 o.now] 48)).cell? ⟨w.heap.size, 2, none⟩ = some (.slice o.ta o.topics.length o.tc) := block_cell HA.out 2
  have c3 : (w.alloc (.cells #[.int .i64 o.do_, .int .i64 o.m, .slice o.ta o.topics.length o.tc, .int .i64 o.gn, .slice o.pa o.parts.length o.pc, .bool o.round, .int .i64 o.now] 48)).cell? ⟨w.heap.size, 3, none⟩ = some (.int .i64 o.gn) := block_cell HA.out 3
  have c4 : (w.alloc (.cells #[.int .i64 o.do_, .int .i64 o.m, .slice o.ta o.topics.length o.tc, .int .i64 o.gn, .slice o.pa o.parts.length o.pc, .bool o.round, .int .i64 o.now] 48)).cell? ⟨w.heap.size, 4, none⟩ = some (.slice o.pa o.parts.length o.pc) := block_cell HA.out 4
  have c5 : (w.alloc (.cells #[.int .i64 o.do_, .int .i64 o.m, .slice o.ta o.topics.length o.tc, .int .i64 o.gn, .slice o.pa o.parts.length o.pc, .bool o.round, .int .i64 o.now] 48)).cell? ⟨w.heap.size, 5, none⟩ = some (.bool o.round) := block_cell HA.out 5
  have c6 : (w.alloc (.cells #[.int .i64 o.do_, .int .i64 o.m, .slice o.ta o.topics.length o.tc, .int .i64 o.gn, .slice o.pa o.parts.length o.pc, .bool o.round, .int .i64 o.now] 48)).cell? ⟨w.heap.size, 6, none⟩ = some (.int .i64 o.now) := block_cell HA.out 6
  have clt := block_lt HA.out
  clear h hka h05 ht hp hmk ok ok2 hm hEl hEs
  generalize hgg : g2.gen = gg at cg hgen
  have HGG := Lib.hid hgg
  clear hgg
  go_enter Try.func19, Try.ntmps19
  go_upto_region 2 with fail
  go_cut [23] (fun tv wq => tv = .bool (decide (-100 ≤ o.gn) && decide (o.gn ≤ 100)) ∧ wq = (w.alloc (.cells #[.int .i64 o.do_, .int .i64 o.m, .slice o.ta o.topics.length o.tc, .int .i64 o.gn, .slice o.pa o.parts.length o.pc, .bool o.round, .int .i64 o.now] 48)))
  case first =>
    by_cases q1 : -100 ≤ o.gn
    · by_cases q2 : o.gn ≤ 100
      · go_wp2
        go_meet
        case rel => exact ⟨by simp [q1, q2], rfl⟩
      · go_wp2
        go_meet
        case rel => exact ⟨by first | (simp [q1, q2]; done) | (simp [q1, q2]; intros; omega), rfl⟩
    · go_wp2
      go_meet
      case rel => exact ⟨by first | (simp [q1]; done) | (simp [q1]; intros; omega), rfl⟩
  case rest =>
    obtain ⟨rfl, rfl⟩ := hcut
    go_upto_if 23 with fail
    go_cut [7] (fun gv wq => gv = .int .i64 (stepGn g2 o.gn) ∧ wq = (w.alloc (.cells #[.int .i64 o.do_, .int .i64 o.m, .slice o.ta o.topics.length o.tc, .int .i64 o.gn, .slice o.pa o.parts.length o.pc, .bool o.round, .int .i64 o.now] 48)))
    case first =>
      by_cases q1 : -100 ≤ o.gn ∧ o.gn ≤ 100
      · have e9 : (decide (-100 ≤ o.gn) && decide (o.gn ≤ 100)) = true := by simp [q1]
        have HS : Hid (stepGn g2 o.gn = o.gn + gg) := by show _ = _; unfold stepGn; rw [if_pos q1, HGG.out]
        rw [e9]
        obtain ⟨q2, q3⟩ := q1
        go_wp2
        go_meet
        case rel => exact ⟨by rw [HS.out], rfl⟩
      · have e9 : (decide (-100 ≤ o.gn) && decide (o.gn ≤ 100)) = false := by
          cases hd : (decide (-100 ≤ o.gn) && decide (o.gn ≤ 100)) with
          | false => rfl
          | true => exact absurd (by simpa using hd) q1
        have HS : Hid (stepGn g2 o.gn = o.gn) := by show _ = _; unfold stepGn; rw [if_neg q1]
        rw [e9]
        clear q1
        go_wp2
        go_meet
        case rel => exact ⟨by rw [HS.out], rfl⟩
    case rest =>
      obtain ⟨rfl, rfl⟩ := hcut
      have hmr := HM.out
      clear cg hb2
      generalize hwa : w.alloc (.cells #[.int .i64 o.do_, .int .i64 o.m, .slice o.ta o.topics.length o.tc, .int .i64 o.gn, .slice o.pa o.parts.length o.pc, .bool o.round, .int .i64 o.now] 48) = wa at *
      clear hwa
      generalize hdo : o.do_ = dd at c0
      have HDO := Lib.hid hdo
      clear hdo
      generalize hsg : stepGn g2 o.gn = sg
      have HSG := Lib.hid hsg
      clear hsg
      have d0 : ¬ dd = 0 := by have := HDO.out; have h9 := HDK.out; omega
      have d1 : ¬ dd = 1 := by have := HDO.out; have h9 := HDK.out; omega
      have d2 : dd = 2 := by have := HDO.out; have h9 := HDK.out; omega
      have HD : Hid (∀ g, stepG g sg o = beatG g o.m sg o.now) := fun g => by unfold stepG; rw [if_neg (fun e => d0 (HDO.out.symm.trans e)), if_neg (fun e => d1 (HDO.out.symm.trans e)), if_pos (HDO.out.trans d2)]
      subst d2
      clear d0 d1
      have z1 : wa.drew.cell? ⟨w.heap.size, 1, none⟩ = some (.int .i64 o.m) := c1
      have z6 : wa.drew.cell? ⟨w.heap.size, 6, none⟩ = some (.int .i64 o.now) := c6
      have zl : w.heap.size < wa.drew.heap.size := clt
      have HL : Hid (∀ wx, BRel E' wa b1 b2 (fun gx => gx = beatG g1 o.m sg o.now ∨ gx = g1) (fun gy => gy = beatG g2 o.m sg o.now ∨ gy = g2) wx → Calls Try.prog 15 #[.pointer (some ⟨b1, 0, none⟩), .int .i64 o.m, .int .i64 sg, .int .i64 o.now] wx fun e w' => (∃ x, e = .returned (.int .i64 x)) ∧ BRel E' wa b1 b2 (fun gx => gx = beatG g1 o.m sg o.now ∨ gx = g1) (fun gy => gy = beatG g2 o.m sg o.now ∨ gy = g2) w' ∧ w'.cell? ⟨w.heap.size, 1, none⟩ = some (.int .i64 o.m) ∧ w'.cell? ⟨w.heap.size, 6, none⟩ = some (.int .i64 o.now) ∧ w.heap.size < w'.heap.size) := fun wx p => by
        obtain ⟨gx, gy, p, r1, r2⟩ := p
        rcases r1 with rfl | rfl
        · refine (pair_beat p ((HOK.out.le (m := n) (by omega)).beat _ _ _) o.m sg o.now HM.out).mono fun e w' q => ?_
          obtain ⟨q1, q2⟩ := q
          exact ⟨⟨_, q1⟩, ⟨_, _, q2, .inl (beat_idem _ _ _ _), r2⟩, block_cell (HBO.out _ _ _ q2) 1, block_cell (HBO.out _ _ _ q2) 6, block_lt (HBO.out _ _ _ q2)⟩
        · refine (pair_beat p (HOK.out.le (m := n) (by omega)) o.m sg o.now HM.out).mono fun e w' q => ?_
          obtain ⟨q1, q2⟩ := q
          exact ⟨⟨_, q1⟩, ⟨_, _, q2, .inl rfl, r2⟩, block_cell (HBO.out _ _ _ q2) 1, block_cell (HBO.out _ _ _ q2) 6, block_lt (HBO.out _ _ _ q2)⟩
      have HRR : Hid (∀ wx, BRel E' wa b1 b2 (fun gx => gx = beatG g1 o.m sg o.now ∨ gx = g1) (fun gy => gy = beatG g2 o.m sg o.now ∨ gy = g2) wx → Calls Try.prog 38 #[.pointer (some ⟨b2, 0, none⟩), .int .i64 o.m, .int .i64 sg, .int .i64 o.now] wx fun e w' => (∃ x, e = .returned (.int .i64 x)) ∧ BRel E' wa b1 b2 (fun gx => gx = beatG g1 o.m sg o.now ∨ gx = g1) (fun gy => gy = beatG g2 o.m sg o.now ∨ gy = g2) w' ∧ w'.cell? ⟨w.heap.size, 1, none⟩ = some (.int .i64 o.m) ∧ w'.cell? ⟨w.heap.size, 6, none⟩ = some (.int .i64 o.now) ∧ w.heap.size < w'.heap.size) := fun wx p => by
        obtain ⟨gx, gy, p, r1, r2⟩ := p
        rcases r2 with rfl | rfl
        · refine (pair_rbeat p ((HOK2.out.le (m := n) (by omega)).beat _ _ _) o.m sg o.now).mono fun e w' q => ?_
          obtain ⟨q1, q2⟩ := q
          exact ⟨⟨_, q1⟩, ⟨_, _, q2, r1, .inl (beat_idem _ _ _ _)⟩, block_cell (HBO.out _ _ _ q2) 1, block_cell (HBO.out _ _ _ q2) 6, block_lt (HBO.out _ _ _ q2)⟩
        · refine (pair_rbeat p (HOK2.out.le (m := n) (by omega)) o.m sg o.now).mono fun e w' q => ?_
          obtain ⟨q1, q2⟩ := q
          exact ⟨⟨_, q1⟩, ⟨_, _, q2, r1, .inl rfl⟩, block_cell (HBO.out _ _ _ q2) 1, block_cell (HBO.out _ _ _ q2) 6, block_lt (HBO.out _ _ _ q2)⟩
      have p0 : BRel E' wa b1 b2 (fun gx => gx = beatG g1 o.m sg o.now ∨ gx = g1) (fun gy => gy = beatG g2 o.m sg o.now ∨ gy = g2) wa.drew := ⟨_, _, HP.out.keep ((Keeps.refl _ _).drew), .inr rfl, .inr rfl⟩
      have HFIN : Hid (∀ wx, BRel E' wa b1 b2 (fun gx => gx = beatG g1 o.m sg o.now ∨ gx = g1) (fun gy => gy = beatG g2 o.m sg o.now ∨ gy = g2) wx → StepPost E w0 b1 b2 g1 g2 o wx) := fun wx p => by
        obtain ⟨gx, gy, p, r1, r2⟩ := p
        exact ⟨sg, gx, gy, HBK.out _ _ _ p, by rw [HD.out]; exact r1, by rw [HD.out]; exact r2⟩
      generalize hbr : BRel E' wa b1 b2 (fun gx => gx = beatG g1 o.m sg o.now ∨ gx = g1) (fun gy => gy = beatG g2 o.m sg o.now ∨ gy = g2) = BR at HL HRR HFIN p0
      clear hbr
      go_upto_region 14 with fail
      go_cut [6] (fun xv wq => (∃ x, xv = .bool x) ∧ BR wq)
      case first =>
        clear c0 c1 c2 c3 c4 c5 c6
        go_region_held3 (fun w' => BR w' ∧ w'.cell? ⟨w.heap.size, 1, none⟩ = some (.int .i64 o.m) ∧ w'.cell? ⟨w.heap.size, 6, none⟩ = some (.int .i64 o.now) ∧ w.heap.size < w'.heap.size)
          (first | go_keep | (go_split_ands; refine ⟨?_, ?_, ?_, ?_⟩ <;> first | assumption | exact clt))
          (first | (go_at_call 15; go_split_ands; refine (HL.out _ (by assumption)).mono ?_; rintro e w' ⟨⟨x, rfl⟩, hs⟩) | (go_at_call 38; go_split_ands; refine (HRR.out _ (by assumption)).mono ?_; rintro e w' ⟨⟨x, rfl⟩, hs⟩))
        all_goals (go_split_ands; go_wp2; go_meet; case rel => (exact ⟨⟨_, rfl⟩, by assumption⟩))
      case rest =>
        obtain ⟨⟨x, rfl⟩, hp9⟩ := hcut
        have HF := Lib.hid (HFIN.out _ hp9)
        clear hp9
        go_wp2
        go_ret
        exact ⟨⟨_, rfl⟩, HF.out⟩
end Go.Proofs.Ytlmajhkhlmkeiaa

/-
  step: one call on both groups, case by case.
-/
namespace Go.Proofs.Ytlmajhkhlmkeiaa
open Go.RowKit Go.Shelf Fx

set_option maxRecDepth 100000 in
set_option maxHeartbeats 8000000 in
theorem step_3 {E : Nat → Prop} {w0 w : World} {b1 b2 n : Nat} {g1 g2 : GroupC} (h : Pair E w0 w b1 b2 g1 g2) (ok : Ok (n + 2) g1) (ok2 : Ok (n + 2) g2) (o : OpC) (hdk : o.do_ = 3) (hm : -9223372036854775808 ≤ o.m ∧ o.m ≤ 9223372036854775807) (htl : o.topics.length ≤ 1000)
    (ht : Out 1 rStr w0 (fun k => ¬ E k) (.slice o.ta o.topics.length o.tc) o.topics) (hp : Out 2 rTop w0 (fun k => ¬ E k) (.slice o.pa o.parts.length o.pc) o.parts) :
    Calls Try.prog 19 #[.pointer (some ⟨b1, 0, none⟩), .pointer (some ⟨b2, 0, none⟩), .agg #[.int .i64 o.do_, .int .i64 o.m, .slice o.ta o.topics.length o.tc, .int .i64 o.gn, .slice o.pa o.parts.length o.pc, .bool o.round, .int .i64 o.now]] w fun e w' => (∃ x, e = .returned (.bool x)) ∧ StepPost E w0 b1 b2 g1 g2 o w' := by
  have HDK := Lib.hid hdk
  clear hdk
  obtain ⟨E', hEl, hEs, hmk⟩ := h.base
  have hka : K0 w (w.alloc (.cells #[.int .i64 o.do_, .int .i64 o.m, .slice o.ta o.topics.length o.tc, .int .i64 o.gn, .slice o.pa o.parts.length o.pc, .bool o.round, .int .i64 o.now] 48)) := (Keeps.refl _ _).alloc _
  have HA : Hid ((w.alloc (.cells #[.int .i64 o.do_, .int .i64 o.m, .slice o.ta o.topics.length o.tc, .int .i64 o.gn, .slice o.pa o.parts.length o.pc, .bool o.round, .int .i64 o.now] 48)).heap[w.heap.size]? = some (.cells #[.int .i64 o.do_, .int .i64 o.m, .slice o.ta o.topics.length o.tc, .int .i64 o.gn, .slice o.pa o.parts.length o.pc, .bool o.round, .int .i64 o.now] 48 (0, 0))) := heap_new _ _ _ rfl
  have HP := Lib.hid (hmk _ hka)
  have h05 : Keeps E w0 (w.alloc (.cells #[.int .i64 o.do_, .int .i64 o.m, .slice o.ta o.topics.length o.tc, .int .i64 o.gn, .slice o.pa o.parts.length o.pc, .bool o.round, .int .i64 o.now] 48)) := h.keeps.trans hka (fun _ _ e => e.elim)
  have HT := Lib.hid (out_pair still_str ht h05 hEs)
  have HPP := Lib.hid (out_pair still_top hp h05 hEs)
  have HBK : Hid (∀ w2 g3 g4, Pair E' (w.alloc (.cells #[.int .i64 o.do_, .int .i64 o.m, .slice o.ta o.topics.length o.tc, .int .i64 o.gn, .slice o.pa o.parts.length o.pc, .bool o.round, .int .i64 o.now] 48)) w2 b1 b2 g3 g4 → Pair E w0 w2 b1 b2 g3 g4) := fun w2 g3 g4 h2 => Pair.back h.keeps hka hEs h2
  have HNB : Hid (¬ E' w.heap.size) := fun e => Nat.lt_irrefl _ (hEl _ e)
  have HBO : Hid (∀ w2 g3 g4, Pair E' (w.alloc (.cells #[.int .i64 o.do_, .int .i64 o.m, .slice o.ta o.topics.length o.tc, .int .i64 o.gn, .slice o.pa o.parts.length o.pc, .bool o.round, .int .i64 o.now] 48)) w2 b1 b2 g3 g4 → w2.heap[w.heap.size]? = some (.cells #[.int .i64 o.do_, .int .i64 o.m, .slice o.ta o.topics.length o.tc, .int .i64 o.gn, .slice o.pa o.parts.length o.pc, .bool o.round, .int .i64 o.now] 48 (0, 0))) := fun w2 g3 g4 h2 => (h2.keeps.block _ (block_lt HA.out) HNB.out).trans HA.out
  have HOK := Lib.hid ok
  have HOK2 := Lib.hid ok2
  have HM := Lib.hid hm
  have hgen := ok2.wf.gen
  obtain ⟨cg, hb2⟩ := HP.out.gen
  have c0 : (w.alloc (.cells #[.int .i64 o.do_, .int .i64 o.m, .slice o.ta o.topics.length o.tc, .int .i64 o.gn, .slice o.pa o.parts.length o.pc, .bool o.round, .int .i64 o.now] 48)).cell? ⟨w.heap.size, 0, none⟩ = some (.int .i64 o.do_) := block_cell HA.out 0
  have c1 : (w.alloc (.cells #[.int .i64 o.do_, .int .i64 o.m, .slice o.ta o.topics.length o.tc, .int .i64 o.gn, .slice o.pa o.parts.length o.pc, .bool o.round, .int .i64 o.now] 48)).cell? ⟨w.heap.size, 1, none⟩ = some (.int .i64 o.m) := block_cell HA.out 1
  have c2 : (w.alloc (.cells #[.int .i64 o.do_, .int .i64 o.m, .slice o.ta o.topics.length o.tc, .int .i64 o.gn, .slice o.pa o.parts.length o.pc, .bool o.round, .int .i64 o.now] 48)).cell? ⟨w.heap.size, 2, none⟩ = some (.slice o.ta o.topics.length o.tc) := block_cell HA.out 2
  have c3 : (w.alloc (.cells #[.int .i64 o.do_, .int .i64 o.m, .slice o.ta o.topics.length o.tc, .int .i64 o.gn, .slice o.pa o.parts.length o.pc, .bool o.round, .int .i64 o.now] 48)).cell? ⟨w.heap.size, 3, none⟩ = some (.int .i64 o.gn) := block_cell HA.out 3
  have c4 : (w.alloc (.cells #[.int .i64 o.do_, .int .i64 o.m, .slice o.ta o.topics.length o.tc, .int .i64 o.gn, .slice o.pa o.parts.length o.pc, .bool o.round, .int .i64 o.now] 48)).cell? ⟨w.heap.size, 4, none⟩ = some (.slice o.pa o.parts.length o.pc) := block_cell HA.out 4
  have c5 : (w.alloc (.cells #[.int .i64 o.do_, .int .i64 o.m, .slice o.ta o.topics.length o.tc, .int .i64 o.gn, .slice o.pa o.parts.length o.pc, .bool o.round, .int .i64 o.now] 48)).cell? ⟨w.heap.size, 5, none⟩ = some (.bool o.round) := block_cell HA.out 5
  have c6 : (w.alloc (.cells #[.int .i64 o.do_, .int .i64 o.m, .slice o.ta o.topics.length o.tc, .int .i64 o.gn, .slice o.pa o.parts.length o.pc, .bool o.round, .int .i64 o.now] 48)).cell? ⟨w.heap.size, 6, none⟩ = some (.int .i64 o.now) := block_cell HA.out 6
  have clt := block_lt HA.out
  clear h hka h05 ht hp hmk ok ok2 hm hEl hEs
  generalize hgg : g2.gen = gg at cg hgen
  have HGG := Lib.hid hgg
  clear hgg
  go_enter Try.func19, Try.ntmps19
  go_upto_region 2 with fail
  go_cut [23] (fun tv wq => tv = .bool (decide (-100 ≤ o.gn) && decide (o.gn ≤ 100)) ∧ wq = (w.alloc (.cells #[.int .i64 o.do_, .int .i64 o.m, .slice o.ta o.topics.length o.tc, .int .i64 o.gn, .slice o.pa o.parts.length o.pc, .bool o.round, .int .i64 o.now] 48)))
  case first =>
    by_cases q1 : -100 ≤ o.gn
    · by_cases q2 : o.gn ≤ 100
      · go_wp2
        go_meet
        case rel => exact ⟨by simp [q1, q2], rfl⟩
      · go_wp2
        go_meet
        case rel => exact ⟨by first | (simp [q1, q2]; done) | (simp [q1, q2]; intros; omega), rfl⟩
    · go_wp2
      go_meet
      case rel => exact ⟨by first | (simp [q1]; done) | (simp [q1]; intros; omega), rfl⟩
  case rest =>
    obtain ⟨rfl, rfl⟩ := hcut
    go_upto_if 23 with fail
    go_cut [7] (fun gv wq => gv = .int .i64 (stepGn g2 o.gn) ∧ wq = (w.alloc (.cells #[.int .i64 o.do_, .int .i64 o.m, .slice o.ta o.topics.length o.tc, .int .i64 o.gn, .slice o.pa o.parts.length o.pc, .bool o.round, .int .i64 o.now] 48)))
    case first =>
      by_cases q1 : -100 ≤ o.gn ∧ o.gn ≤ 100
      · have e9 : (decide (-100 ≤ o.gn) && decide (o.gn ≤ 100)) = true := by simp [q1]
        have HS : Hid (stepGn g2 o.gn = o.gn + gg) := by show _ = _; unfold stepGn; rw [if_pos q1, HGG.out]
        rw [e9]
        obtain ⟨q2, q3⟩ := q1
        go_wp2
        go_meet
        case rel => exact ⟨by rw [HS.out], rfl⟩
      · have e9 : (decide (-100 ≤ o.gn) && decide (o.gn ≤ 100)) = false := by
          cases hd : (decide (-100 ≤ o.gn) && decide (o.gn ≤ 100)) with
          | false => rfl
          | true => exact absurd (by simpa using hd) q1
        have HS : Hid (stepGn g2 o.gn = o.gn) := by show _ = _; unfold stepGn; rw [if_neg q1]
        rw [e9]
        clear q1
        go_wp2
        go_meet
        case rel => exact ⟨by rw [HS.out], rfl⟩
    case rest =>
      obtain ⟨rfl, rfl⟩ := hcut
      have hmr := HM.out
      clear cg hb2
      generalize hwa : w.alloc (.cells #[.int .i64 o.do_, .int .i64 o.m, .slice o.ta o.topics.length o.tc, .int .i64 o.gn, .slice o.pa o.parts.length o.pc, .bool o.round, .int .i64 o.now] 48) = wa at *
      clear hwa
      generalize hdo : o.do_ = dd at c0
      have HDO := Lib.hid hdo
      clear hdo
      generalize hsg : stepGn g2 o.gn = sg
      have HSG := Lib.hid hsg
      clear hsg
      have d0 : ¬ dd = 0 := by have := HDO.out; have h9 := HDK.out; omega
      have d1 : ¬ dd = 1 := by have := HDO.out; have h9 := HDK.out; omega
      have d2 : ¬ dd = 2 := by have := HDO.out; have h9 := HDK.out; omega
      have d3 : dd = 3 := by have := HDO.out; have h9 := HDK.out; omega
      have HD : Hid (∀ g, stepG g sg o = leaveG g o.m o.now) := fun g => by unfold stepG; rw [if_neg (fun e => d0 (HDO.out.symm.trans e)), if_neg (fun e => d1 (HDO.out.symm.trans e)), if_neg (fun e => d2 (HDO.out.symm.trans e)), if_pos (HDO.out.trans d3)]
      subst d3
      clear d0 d1 d2
      have z1 : wa.drew.cell? ⟨w.heap.size, 1, none⟩ = some (.int .i64 o.m) := c1
      have z6 : wa.drew.cell? ⟨w.heap.size, 6, none⟩ = some (.int .i64 o.now) := c6
      have zl : w.heap.size < wa.drew.heap.size := clt
      have HL : Hid (∀ wx, BRel E' wa b1 b2 (fun gx => gx = leaveG g1 o.m o.now ∨ gx = g1) (fun gy => gy = leaveG g2 o.m o.now ∨ gy = g2) wx → Calls Try.prog 16 #[.pointer (some ⟨b1, 0, none⟩), .int .i64 o.m, .int .i64 o.now] wx fun e w' => (∃ x, e = .returned (.int .i64 x)) ∧ BRel E' wa b1 b2 (fun gx => gx = leaveG g1 o.m o.now ∨ gx = g1) (fun gy => gy = leaveG g2 o.m o.now ∨ gy = g2) w' ∧ w'.cell? ⟨w.heap.size, 1, none⟩ = some (.int .i64 o.m) ∧ w'.cell? ⟨w.heap.size, 6, none⟩ = some (.int .i64 o.now) ∧ w.heap.size < w'.heap.size) := fun wx p => by
        obtain ⟨gx, gy, p, r1, r2⟩ := p
        rcases r1 with rfl | rfl
        · refine (pair_leave p (((HOK.out.le (m := n + 2) (by omega)).leave _ _)) o.m o.now HM.out).mono fun e w' q => ?_
          obtain ⟨q1, q2⟩ := q
          exact ⟨⟨_, q1⟩, ⟨_, _, q2, .inl (leave_idem _ _ _), r2⟩, block_cell (HBO.out _ _ _ q2) 1, block_cell (HBO.out _ _ _ q2) 6, block_lt (HBO.out _ _ _ q2)⟩
        · refine (pair_leave p (HOK.out.le (m := n + 2) (by omega)) o.m o.now HM.out).mono fun e w' q => ?_
          obtain ⟨q1, q2⟩ := q
          exact ⟨⟨_, q1⟩, ⟨_, _, q2, .inl rfl, r2⟩, block_cell (HBO.out _ _ _ q2) 1, block_cell (HBO.out _ _ _ q2) 6, block_lt (HBO.out _ _ _ q2)⟩
      have HRR : Hid (∀ wx, BRel E' wa b1 b2 (fun gx => gx = leaveG g1 o.m o.now ∨ gx = g1) (fun gy => gy = leaveG g2 o.m o.now ∨ gy = g2) wx → Calls Try.prog 39 #[.pointer (some ⟨b2, 0, none⟩), .int .i64 o.m, .int .i64 o.now] wx fun e w' => (∃ x, e = .returned (.int .i64 x)) ∧ BRel E' wa b1 b2 (fun gx => gx = leaveG g1 o.m o.now ∨ gx = g1) (fun gy => gy = leaveG g2 o.m o.now ∨ gy = g2) w' ∧ w'.cell? ⟨w.heap.size, 1, none⟩ = some (.int .i64 o.m) ∧ w'.cell? ⟨w.heap.size, 6, none⟩ = some (.int .i64 o.now) ∧ w.heap.size < w'.heap.size) := fun wx p => by
        obtain ⟨gx, gy, p, r1, r2⟩ := p
        rcases r2 with rfl | rfl
        · refine (pair_rleave p (((HOK2.out.le (m := n + 2) (by omega)).leave _ _)) o.m o.now).mono fun e w' q => ?_
          obtain ⟨q1, q2⟩ := q
          exact ⟨⟨_, q1⟩, ⟨_, _, q2, r1, .inl (leave_idem _ _ _)⟩, block_cell (HBO.out _ _ _ q2) 1, block_cell (HBO.out _ _ _ q2) 6, block_lt (HBO.out _ _ _ q2)⟩
        · refine (pair_rleave p (HOK2.out.le (m := n + 2) (by omega)) o.m o.now).mono fun e w' q => ?_
          obtain ⟨q1, q2⟩ := q
          exact ⟨⟨_, q1⟩, ⟨_, _, q2, r1, .inl rfl⟩, block_cell (HBO.out _ _ _ q2) 1, block_cell (HBO.out _ _ _ q2) 6, block_lt (HBO.out _ _ _ q2)⟩
      have p0 : BRel E' wa b1 b2 (fun gx => gx = leaveG g1 o.m o.now ∨ gx = g1) (fun gy => gy = leaveG g2 o.m o.now ∨ gy = g2) wa.drew := ⟨_, _, HP.out.keep ((Keeps.refl _ _).drew), .inr rfl, .inr rfl⟩
      have HFIN : Hid (∀ wx, BRel E' wa b1 b2 (fun gx => gx = leaveG g1 o.m o.now ∨ gx = g1) (fun gy => gy = leaveG g2 o.m o.now ∨ gy = g2) wx → StepPost E w0 b1 b2 g1 g2 o wx) := fun wx p => by
        obtain ⟨gx, gy, p, r1, r2⟩ := p
        exact ⟨sg, gx, gy, HBK.out _ _ _ p, by rw [HD.out]; exact r1, by rw [HD.out]; exact r2⟩
      generalize hbr : BRel E' wa b1 b2 (fun gx => gx = leaveG g1 o.m o.now ∨ gx = g1) (fun gy => gy = leaveG g2 o.m o.now ∨ gy = g2) = BR at HL HRR HFIN p0
      clear hbr
      go_upto_region 16 with fail
      go_cut [6] (fun xv wq => (∃ x, xv = .bool x) ∧ BR wq)
      case first =>
        clear c0 c1 c2 c3 c4 c5 c6
        go_region_held3 (fun w' => BR w' ∧ w'.cell? ⟨w.heap.size, 1, none⟩ = some (.int .i64 o.m) ∧ w'.cell? ⟨w.heap.size, 6, none⟩ = some (.int .i64 o.now) ∧ w.heap.size < w'.heap.size)
          (first | go_keep | (go_split_ands; refine ⟨?_, ?_, ?_, ?_⟩ <;> first | assumption | exact clt))
          (first | (go_at_call 16; go_split_ands; refine (HL.out _ (by assumption)).mono ?_; rintro e w' ⟨⟨x, rfl⟩, hs⟩) | (go_at_call 39; go_split_ands; refine (HRR.out _ (by assumption)).mono ?_; rintro e w' ⟨⟨x, rfl⟩, hs⟩))
        all_goals (go_split_ands; go_wp2; go_meet; case rel => (exact ⟨⟨_, rfl⟩, by assumption⟩))
      case rest =>
        obtain ⟨⟨x, rfl⟩, hp9⟩ := hcut
        have HF := Lib.hid (HFIN.out _ hp9)
        clear hp9
        go_wp2
        go_ret
        exact ⟨⟨_, rfl⟩, HF.out⟩
end Go.Proofs.Ytlmajhkhlmkeiaa

/-
  step: one call on both groups, case by case.
-/
namespace Go.Proofs.Ytlmajhkhlmkeiaa
open Go.RowKit Go.Shelf Fx

set_option maxRecDepth 100000 in
set_option maxHeartbeats 8000000 in
theorem step_5 {E : Nat → Prop} {w0 w : World} {b1 b2 n : Nat} {g1 g2 : GroupC} (h : Pair E w0 w b1 b2 g1 g2) (ok : Ok (n + 2) g1) (ok2 : Ok (n + 2) g2) (o : OpC) (n0 : ¬ o.do_ = 0) (n1 : ¬ o.do_ = 1) (n2 : ¬ o.do_ = 2) (n3 : ¬ o.do_ = 3) (n4 : ¬ o.do_ = 4) (hm : -9223372036854775808 ≤ o.m ∧ o.m ≤ 9223372036854775807) (htl : o.topics.length ≤ 1000)
    (ht : Out 1 rStr w0 (fun k => ¬ E k) (.slice o.ta o.topics.length o.tc) o.topics) (hp : Out 2 rTop w0 (fun k => ¬ E k) (.slice o.pa o.parts.length o.pc) o.parts) :
    Calls Try.prog 19 #[.pointer (some ⟨b1, 0, none⟩), .pointer (some ⟨b2, 0, none⟩), .agg #[.int .i64 o.do_, .int .i64 o.m, .slice o.ta o.topics.length o.tc, .int .i64 o.gn, .slice o.pa o.parts.length o.pc, .bool o.round, .int .i64 o.now]] w fun e w' => (∃ x, e = .returned (.bool x)) ∧ StepPost E w0 b1 b2 g1 g2 o w' := by
  have HNN : Hid (¬ o.do_ = 0 ∧ ¬ o.do_ = 1 ∧ ¬ o.do_ = 2 ∧ ¬ o.do_ = 3 ∧ ¬ o.do_ = 4) := ⟨n0, n1, n2, n3, n4⟩
  clear n0 n1 n2 n3 n4
  obtain ⟨E', hEl, hEs, hmk⟩ := h.base
  have hka : K0 w (w.alloc (.cells #[.int .i64 o.do_, .int .i64 o.m, .slice o.ta o.topics.length o.tc, .int .i64 o.gn, .slice o.pa o.parts.length o.pc, .bool o.round, .int .i64 o.now] 48)) := (Keeps.refl _ _).alloc _
  have HA : Hid ((w.alloc (.cells #[.int .i64 o.do_, .int .i64 o.m, .slice o.ta o.topics.length o.tc, .int .i64 o.gn, .slice o.pa o.parts.length o.pc, .bool o.round, .int .i64 o.now] 48)).heap[w.heap.size]? = some (.cells #[.int .i64 o.do_, .int .i64 o.m, .slice o.ta o.topics.length o.tc, .int .i64 o.gn, .slice o.pa o.parts.length o.pc, .bool o.round, .int .i64 o.now] 48 (0, 0))) := heap_new _ _ _ rfl
  have HP := Lib.hid (hmk _ hka)
  have h05 : Keeps E w0 (w.alloc (.cells #[.int .i64 o.do_, .int .i64 o.m, .slice o.ta o.topics.length o.tc, .int .i64 o.gn, .slice o.pa o.parts.length o.pc, .bool o.round, .int .i64 o.now] 48)) := h.keeps.trans hka (fun _ _ e => e.elim)
  have HT := Lib.hid (out_pair still_str ht h05 hEs)
  have HPP := Lib.hid (out_pair still_top hp h05 hEs)
  have HBK : Hid (∀ w2 g3 g4, Pair E' (w.alloc (.cells #[.int .i64 o.do_, .int .i64 o.m, .slice o.ta o.topics.length o.tc, .int .i64 o.gn, .slice o.pa o.parts.length o.pc, .bool o.round, .int .i64 o.now] 48)) w2 b1 b2 g3 g4 → Pair E w0 w2 b1 b2 g3 g4) := fun w2 g3 g4 h2 => Pair.back h.keeps hka hEs h2
  have HNB : Hid (¬ E' w.heap.size) := fun e => Nat.lt_irrefl _ (hEl _ e)
  have HBO : Hid (∀ w2 g3 g4, Pair E' (w.alloc (.cells #[.int .i64 o.do_, .int .i64 o.m, .slice o.ta o.topics.length o.tc, .int .i64 o.gn, .slice o.pa o.parts.length o.pc, .bool o.round, .int .i64 o.now] 48)) w2 b1 b2 g3 g4 → w2.heap[w.heap.size]? = some (.cells #[.int .i64 o.do_, .int .i64 o.m, .slice o.ta o.topics.length o.tc, .int .i64 o.gn, .slice o.pa o.parts.length o.pc, .bool o.round, .int .i64 o.now] 48 (0, 0))) := fun w2 g3 g4 h2 => (h2.keeps.block _ (block_lt HA.out) HNB.out).trans HA.out
  have HOK := Lib.hid ok
  have HOK2 := Lib.hid ok2
  have HM := Lib.hid hm
  have hgen := ok2.wf.gen
  obtain ⟨cg, hb2⟩ := HP.out.gen
  have c0 : (w.alloc (.cells #[.int .i64 o.do_, .int .i64 o.m, .slice o.ta o.topics.length o.tc, .int .i64 o.gn, .slice o.pa o.parts.length o.pc, .bool o.round, .int .i64 o.now] 48)).cell? ⟨w.heap.size, 0, none⟩ = some (.int .i64 o.do_) := block_cell HA.out 0
  have c1 : (w.alloc (.cells #[.int .i64 o.do_, .int .i64 o.m, .slice o.ta o.topics.length o.tc, .int .i64 o.gn, .slice o.pa o.parts.length o.pc, .bool o.round, .int .i64 o.now] 48)).cell? ⟨w.heap.size, 1, none⟩ = some (.int .i64 o.m) := block_cell HA.out 1
  have c2 : (w.alloc (.cells #[.int .i64 o.do_, .int .i64 o.m, .slice o.ta o.topics.length o.tc, .int .i64 o.gn, .slice o.pa o.parts.length o.pc, .bool o.round, .int .i64 o.now] 48)).cell? ⟨w.heap.size, 2, none⟩ = some (.slice o.ta o.topics.length o.tc) := block_cell HA.out 2
  have c3 : (w.alloc (.cells #[.int .i64 o.do_, .int .i64 o.m, .slice o.ta o.topics.length o.tc, .int .i64 o.gn, .slice o.pa o.parts.length o.pc, .bool o.round, .int .i64 o.now] 48)).cell? ⟨w.heap.size, 3, none⟩ = some (.int .i64 o.gn) := block_cell HA.out 3
  have c4 : (w.alloc (.cells #[.int .i64 o.do_, .int .i64 o.m, .slice o.ta o.topics.length o.tc, .int .i64 o.gn, .slice o.pa o.parts.length o.pc, .bool o.round, .int .i64 o.now] 48)).cell? ⟨w.heap.size, 4, none⟩ = some (.slice o.pa o.parts.length o.pc) := block_cell HA.out 4
  have c5 : (w.alloc (.cells #[.int .i64 o.do_, .int .i64 o.m, .slice o.ta o.topics.length o.tc, .int .i64 o.gn, .slice o.pa o.parts.length o.pc, .bool o.round, .int .i64 o.now] 48)).cell? ⟨w.heap.size, 5, none⟩ = some (.bool o.round) := block_cell HA.out 5
  have c6 : (w.alloc (.cells #[.int .i64 o.do_, .int .i64 o.m, .slice o.ta o.topics.length o.tc, .int .i64 o.gn, .slice o.pa o.parts.length o.pc, .bool o.round, .int .i64 o.now] 48)).cell? ⟨w.heap.size, 6, none⟩ = some (.int .i64 o.now) := block_cell HA.out 6
  have clt := block_lt HA.out
  clear h hka h05 ht hp hmk ok ok2 hm hEl hEs
  generalize hgg : g2.gen = gg at cg hgen
  have HGG := Lib.hid hgg
  clear hgg
  go_enter Try.func19, Try.ntmps19
  go_upto_region 2 with fail
  go_cut [23] (fun tv wq => tv = .bool (decide (-100 ≤ o.gn) && decide (o.gn ≤ 100)) ∧ wq = (w.alloc (.cells #[.int .i64 o.do_, .int .i64 o.m, .slice o.ta o.topics.length o.tc, .int .i64 o.gn, .slice o.pa o.parts.length o.pc, .bool o.round, .int .i64 o.now] 48)))
  case first =>
    by_cases q1 : -100 ≤ o.gn
    · by_cases q2 : o.gn ≤ 100
      · go_wp2
        go_meet
        case rel => exact ⟨by simp [q1, q2], rfl⟩
      · go_wp2
        go_meet
        case rel => exact ⟨by first | (simp [q1, q2]; done) | (simp [q1, q2]; intros; omega), rfl⟩
    · go_wp2
      go_meet
      case rel => exact ⟨by first | (simp [q1]; done) | (simp [q1]; intros; omega), rfl⟩
  case rest =>
    obtain ⟨rfl, rfl⟩ := hcut
    go_upto_if 23 with fail
    go_cut [7] (fun gv wq => gv = .int .i64 (stepGn g2 o.gn) ∧ wq = (w.alloc (.cells #[.int .i64 o.do_, .int .i64 o.m, .slice o.ta o.topics.length o.tc, .int .i64 o.gn, .slice o.pa o.parts.length o.pc, .bool o.round, .int .i64 o.now] 48)))
    case first =>
      by_cases q1 : -100 ≤ o.gn ∧ o.gn ≤ 100
      · have e9 : (decide (-100 ≤ o.gn) && decide (o.gn ≤ 100)) = true := by simp [q1]
        have HS : Hid (stepGn g2 o.gn = o.gn + gg) := by show _ = _; unfold stepGn; rw [if_pos q1, HGG.out]
        rw [e9]
        obtain ⟨q2, q3⟩ := q1
        go_wp2
        go_meet
        case rel => exact ⟨by rw [HS.out], rfl⟩
      · have e9 : (decide (-100 ≤ o.gn) && decide (o.gn ≤ 100)) = false := by
          cases hd : (decide (-100 ≤ o.gn) && decide (o.gn ≤ 100)) with
          | false => rfl
          | true => exact absurd (by simpa using hd) q1
        have HS : Hid (stepGn g2 o.gn = o.gn) := by show _ = _; unfold stepGn; rw [if_neg q1]
        rw [e9]
        clear q1
        go_wp2
        go_meet
        case rel => exact ⟨by rw [HS.out], rfl⟩
    case rest =>
      obtain ⟨rfl, rfl⟩ := hcut
      have hmr := HM.out
      clear cg hb2
      generalize hwa : w.alloc (.cells #[.int .i64 o.do_, .int .i64 o.m, .slice o.ta o.topics.length o.tc, .int .i64 o.gn, .slice o.pa o.parts.length o.pc, .bool o.round, .int .i64 o.now] 48) = wa at *
      clear hwa
      generalize hdo : o.do_ = dd at c0
      have HDO := Lib.hid hdo
      clear hdo
      generalize hsg : stepGn g2 o.gn = sg
      have HSG := Lib.hid hsg
      clear hsg
      have d0 : ¬ dd = 0 := by have := HDO.out; have h9 := HNN.out; omega
      have d1 : ¬ dd = 1 := by have := HDO.out; have h9 := HNN.out; omega
      have d2 : ¬ dd = 2 := by have := HDO.out; have h9 := HNN.out; omega
      have d3 : ¬ dd = 3 := by have := HDO.out; have h9 := HNN.out; omega
      have d4 : ¬ dd = 4 := by have := HDO.out; have h9 := HNN.out; omega
      have HD : Hid (∀ g, stepG g sg o = g) := fun g => by unfold stepG; rw [if_neg (fun e => d0 (HDO.out.symm.trans e)), if_neg (fun e => d1 (HDO.out.symm.trans e)), if_neg (fun e => d2 (HDO.out.symm.trans e)), if_neg (fun e => d3 (HDO.out.symm.trans e)), if_neg (fun e => d4 (HDO.out.symm.trans e))]
      have n0 : (dd == 0) = false := by simpa using d0
      have n1 : (dd == 1) = false := by simpa using d1
      have n2 : (dd == 2) = false := by simpa using d2
      have n3 : (dd == 3) = false := by simpa using d3
      have n4 : (dd == 4) = false := by simpa using d4
      clear d0 d1 d2 d3 d4
      have z1 : wa.drew.cell? ⟨w.heap.size, 1, none⟩ = some (.int .i64 o.m) := c1
      have zl : w.heap.size < wa.drew.heap.size := clt
      have HL : Hid (∀ wx, BRel E' wa b1 b2 (fun gx => gx = g1 ∨ gx = g1) (fun gy => gy = g2 ∨ gy = g2) wx → Calls Try.prog 17 #[.pointer (some ⟨b1, 0, none⟩), .int .i64 o.m, .int .i64 sg] wx fun e w' => (∃ x, e = .returned (.int .i64 x)) ∧ BRel E' wa b1 b2 (fun gx => gx = g1 ∨ gx = g1) (fun gy => gy = g2 ∨ gy = g2) w' ∧ w'.cell? ⟨w.heap.size, 1, none⟩ = some (.int .i64 o.m) ∧ w.heap.size < w'.heap.size) := fun wx p => by
        obtain ⟨gx, gy, p, r1, r2⟩ := p
        rcases r1 with rfl | rfl
        · refine (pair_knows p (HOK.out.le (m := n) (by omega)) o.m sg HM.out).mono fun e w' q => ?_
          obtain ⟨q1, q2⟩ := q
          exact ⟨⟨_, q1⟩, ⟨_, _, q2, .inl (rfl), r2⟩, block_cell (HBO.out _ _ _ q2) 1, block_lt (HBO.out _ _ _ q2)⟩
        · refine (pair_knows p (HOK.out.le (m := n) (by omega)) o.m sg HM.out).mono fun e w' q => ?_
          obtain ⟨q1, q2⟩ := q
          exact ⟨⟨_, q1⟩, ⟨_, _, q2, .inl rfl, r2⟩, block_cell (HBO.out _ _ _ q2) 1, block_lt (HBO.out _ _ _ q2)⟩
      have HRR : Hid (∀ wx, BRel E' wa b1 b2 (fun gx => gx = g1 ∨ gx = g1) (fun gy => gy = g2 ∨ gy = g2) wx → Calls Try.prog 41 #[.pointer (some ⟨b2, 0, none⟩), .int .i64 o.m, .int .i64 sg] wx fun e w' => (∃ x, e = .returned (.int .i64 x)) ∧ BRel E' wa b1 b2 (fun gx => gx = g1 ∨ gx = g1) (fun gy => gy = g2 ∨ gy = g2) w' ∧ w'.cell? ⟨w.heap.size, 1, none⟩ = some (.int .i64 o.m) ∧ w.heap.size < w'.heap.size) := fun wx p => by
        obtain ⟨gx, gy, p, r1, r2⟩ := p
        rcases r2 with rfl | rfl
        · refine (pair_rknows p (HOK2.out.le (m := n) (by omega)) o.m sg).mono fun e w' q => ?_
          obtain ⟨q1, q2⟩ := q
          exact ⟨⟨_, q1⟩, ⟨_, _, q2, r1, .inl (rfl)⟩, block_cell (HBO.out _ _ _ q2) 1, block_lt (HBO.out _ _ _ q2)⟩
        · refine (pair_rknows p (HOK2.out.le (m := n) (by omega)) o.m sg).mono fun e w' q => ?_
          obtain ⟨q1, q2⟩ := q
          exact ⟨⟨_, q1⟩, ⟨_, _, q2, r1, .inl rfl⟩, block_cell (HBO.out _ _ _ q2) 1, block_lt (HBO.out _ _ _ q2)⟩
      have p0 : BRel E' wa b1 b2 (fun gx => gx = g1 ∨ gx = g1) (fun gy => gy = g2 ∨ gy = g2) wa.drew := ⟨_, _, HP.out.keep ((Keeps.refl _ _).drew), .inr rfl, .inr rfl⟩
      have HFIN : Hid (∀ wx, BRel E' wa b1 b2 (fun gx => gx = g1 ∨ gx = g1) (fun gy => gy = g2 ∨ gy = g2) wx → StepPost E w0 b1 b2 g1 g2 o wx) := fun wx p => by
        obtain ⟨gx, gy, p, r1, r2⟩ := p
        exact ⟨sg, gx, gy, HBK.out _ _ _ p, by rw [HD.out]; exact r1, by rw [HD.out]; exact r2⟩
      generalize hbr : BRel E' wa b1 b2 (fun gx => gx = g1 ∨ gx = g1) (fun gy => gy = g2 ∨ gy = g2) = BR at HL HRR HFIN p0
      clear hbr
      go_upto_region 21 with fail
      go_cut [6] (fun xv wq => (∃ x, xv = .bool x) ∧ BR wq)
      case first =>
        clear c0 c1 c2 c3 c4 c5 c6
        go_region_held3 (fun w' => BR w' ∧ w'.cell? ⟨w.heap.size, 1, none⟩ = some (.int .i64 o.m) ∧ w.heap.size < w'.heap.size)
          (first | go_keep | (go_split_ands; refine ⟨?_, ?_, ?_⟩ <;> first | assumption | exact clt))
          (first | (go_at_call 17; go_split_ands; refine (HL.out _ (by assumption)).mono ?_; rintro e w' ⟨⟨x, rfl⟩, hs⟩) | (go_at_call 41; go_split_ands; refine (HRR.out _ (by assumption)).mono ?_; rintro e w' ⟨⟨x, rfl⟩, hs⟩))
        all_goals (go_split_ands; go_wp2; go_meet; case rel => (exact ⟨⟨_, rfl⟩, by assumption⟩))
      case rest =>
        obtain ⟨⟨x, rfl⟩, hp9⟩ := hcut
        have HF := Lib.hid (HFIN.out _ hp9)
        clear hp9
        go_wp2
        go_ret
        exact ⟨⟨_, rfl⟩, HF.out⟩
end Go.Proofs.Ytlmajhkhlmkeiaa

/-
  step, all cases; small; how a script that came in reads; how a walk is lifted.
-/
namespace Go.Proofs.Ytlmajhkhlmkeiaa
open Go.ChangeShapes Go.WideShapes Go.ChangeAt Go.RowKit Fx
open Go.ChangeMaps (open_string shut_string)
theorem own : ownKnob Try.prog.godebug = none := by kernel_rfl
theorem laidOut : laidOutB Try.prog = true := by kernel_rfl

/-- Arguments that were read read the same, where nothing of them has turned. -/
theorem trodAll_below {H : Type} {enc : TypeId × Value → H} {P : Program} (hl : laidOutB P = true) {W W' : World} (hb : Below W.heap.size W W') :
    ∀ {ts : List TypeId} {vs : List Value} {ds : List (DataW H)} {ps : List MemPlace}, (∀ t ∈ ts, P.readableRec t = true ∧ t < P.types.size) →
      DataW.TrodAll enc P W 0 (fun _ => true) true ts vs ds ps → DataW.TrodAll enc P W' 0 (fun b => decide (b < W.heap.size)) true ts vs ds ps
  | [], [], [], _, _, h => h
  | t :: ts, v :: vs, d :: ds, _, hr, ⟨p, q, h1, h2, e⟩ => by
    have lt0 : ∀ x ∈ p, x.block < W.heap.size := by obtain ⟨m, hm⟩ := h1; exact DataW.trod_lt m _ _ _ hm
    exact ⟨p, q, Below.trod hl (hr t (by simp)).1 (hr t (by simp)).2 h1 hb lt0, trodAll_below hl hb (fun t ht => hr t (by simp [ht])) h2, e⟩
  | [], [], _ :: _, _, _, h => h.elim
  | [], _ :: _, _, _, _, h => by cases h
  | _ :: _, [], _, _, _, h => by cases h
  | _ :: _, _ :: _, [], _, _, h => by cases h
theorem step_all {E : Nat → Prop} {w0 w : World} {b1 b2 n : Nat} {g1 g2 : GroupC} (h : Pair E w0 w b1 b2 g1 g2) (ok : Ok (n + 2) g1) (ok2 : Ok (n + 2) g2) (o : OpC) (hm : -9223372036854775808 ≤ o.m ∧ o.m ≤ 9223372036854775807) (htl : o.topics.length ≤ 1000)
    (ht : Out 1 rStr w0 (fun k => ¬ E k) (.slice o.ta o.topics.length o.tc) o.topics) (hp : Out 2 rTop w0 (fun k => ¬ E k) (.slice o.pa o.parts.length o.pc) o.parts) :
    Calls Try.prog 19 #[.pointer (some ⟨b1, 0, none⟩), .pointer (some ⟨b2, 0, none⟩), .agg #[.int .i64 o.do_, .int .i64 o.m, .slice o.ta o.topics.length o.tc, .int .i64 o.gn, .slice o.pa o.parts.length o.pc, .bool o.round, .int .i64 o.now]] w fun e w' => (∃ x, e = .returned (.bool x)) ∧ StepPost E w0 b1 b2 g1 g2 o w' := by
  by_cases h0 : o.do_ = 0
  · exact step_0 h ok ok2 o h0 hm htl ht hp
  by_cases h1 : o.do_ = 1
  · exact step_1 h ok ok2 o h1 hm htl ht hp
  by_cases h2 : o.do_ = 2
  · exact step_2 h ok ok2 o h2 hm htl ht hp
  by_cases h3 : o.do_ = 3
  · exact step_3 h ok ok2 o h3 hm htl ht hp
  by_cases h4 : o.do_ = 4
  · exact step_4 h ok ok2 o h4 hm htl ht hp
  exact step_5 h ok ok2 o h0 h1 h2 h3 h4 hm htl ht hp
set_option maxRecDepth 100000 in
set_option maxHeartbeats 1000000 in
theorem small_any (o : OpC) (w : World) : Calls Try.prog 18 #[.agg #[.int .i64 o.do_, .int .i64 o.m, .slice o.ta o.topics.length o.tc, .int .i64 o.gn, .slice o.pa o.parts.length o.pc, .bool o.round, .int .i64 o.now]] w fun e w' => Same w e (.bool (decide (o.topics.length ≤ 30) && decide (o.parts.length ≤ 30))) w' := by
  have hB : (w.alloc (.cells #[.int .i64 o.do_, .int .i64 o.m, .slice o.ta o.topics.length o.tc, .int .i64 o.gn, .slice o.pa o.parts.length o.pc, .bool o.round, .int .i64 o.now] 48)).heap[w.heap.size]? = some (.cells #[.int .i64 o.do_, .int .i64 o.m, .slice o.ta o.topics.length o.tc, .int .i64 o.gn, .slice o.pa o.parts.length o.pc, .bool o.round, .int .i64 o.now] 48 (0, 0)) := heap_new _ _ _ rfl
  have HK : Hid (K0 w (w.alloc (.cells #[.int .i64 o.do_, .int .i64 o.m, .slice o.ta o.topics.length o.tc, .int .i64 o.gn, .slice o.pa o.parts.length o.pc, .bool o.round, .int .i64 o.now] 48))) := (Keeps.refl _ _).alloc _
  have c2 : (w.alloc (.cells #[.int .i64 o.do_, .int .i64 o.m, .slice o.ta o.topics.length o.tc, .int .i64 o.gn, .slice o.pa o.parts.length o.pc, .bool o.round, .int .i64 o.now] 48)).cell? ⟨w.heap.size, 2, none⟩ = some (.slice o.ta o.topics.length o.tc) := block_cell hB 2
  have c4 : (w.alloc (.cells #[.int .i64 o.do_, .int .i64 o.m, .slice o.ta o.topics.length o.tc, .int .i64 o.gn, .slice o.pa o.parts.length o.pc, .bool o.round, .int .i64 o.now] 48)).cell? ⟨w.heap.size, 4, none⟩ = some (.slice o.pa o.parts.length o.pc) := block_cell hB 4
  have hlt := block_lt hB
  clear hB
  by_cases q1 : o.topics.length ≤ 30
  · have i1 : (o.topics.length : Int) ≤ 30 := by omega
    by_cases q2 : o.parts.length ≤ 30
    · have i2 : (o.parts.length : Int) ≤ 30 := by omega
      rw [decide_eq_true q1, decide_eq_true q2]
      clear q1 q2
      go_enter Try.func18, Try.ntmps18
      go_wp2
      go_ret
      exact ⟨rfl, HK.out⟩
    · have i2 : ¬ (o.parts.length : Int) ≤ 30 := by omega
      rw [decide_eq_true q1, decide_eq_false q2]
      clear q1 q2
      go_enter Try.func18, Try.ntmps18
      go_wp2
      go_ret
      exact ⟨rfl, HK.out⟩
  · have i1 : ¬ (o.topics.length : Int) ≤ 30 := by omega
    rw [decide_eq_false q1]
    clear q1
    go_enter Try.func18, Try.ntmps18
    go_wp2
    go_ret
    exact ⟨rfl, HK.out⟩
theorem cellsInt9 : Try.prog.cellsOf 3 = 1 := by kernel_rfl
theorem cellsBool9 : Try.prog.cellsOf 4 = 1 := by kernel_rfl
theorem cellsStr9 : Try.prog.cellsOf 9 = 1 := by kernel_rfl
theorem cellsStrs9 : Try.prog.cellsOf 22 = 1 := by kernel_rfl
theorem cellsTops9 : Try.prog.cellsOf 23 = 1 := by kernel_rfl
theorem cellsTop9 : Try.prog.cellsOf 59 = 2 := by kernel_rfl
theorem cellsOp9 : Try.prog.cellsOf 48 = 7 := by kernel_rfl
theorem two9 {α : Type} (l : List α) (h : l.length = 2) : ∃ a b, l = [a, b] := by
  match l, h with
  | [a, b], _ => exact ⟨a, b, rfl⟩
theorem seven9 {α : Type} (l : List α) (h : l.length = 7) : ∃ a b c d e f g, l = [a, b, c, d, e, f, g] := by
  match l, h with
  | [a, b, c, d, e, f, g], _ => exact ⟨a, b, c, d, e, f, g, rfl⟩
section
variable {H : Type} {enc : TypeId × Value → H} {w : World} {base : Nat} {spare : Nat → Bool} {held : Bool}
theorem top_of9 (fuel : Nat) (cs : List Value) (x : DataW H × List MemPlace) (h : DataW.trod enc Try.prog w base spare held fuel 59 cs = some x) : ∃ y, rTop w cs y := by
  obtain ⟨y0, y1, n, _, hl, h0, h1⟩ := trod_struct2 Try.underlying59 h
  rw [cellsTop9] at hl
  obtain ⟨v0, v1, rfl⟩ := two9 cs hl
  simp only [cellsInt9, cellsStr9] at h0 h1
  obtain ⟨s, e0, _⟩ := DataW.trod_string Try.underlying9 h0
  obtain ⟨a, e1, _, hwf⟩ := DataW.trod_int Try.underlying3 h1
  simp at e0 e1
  subst e0 e1
  exact ⟨⟨s, a⟩, rfl, hwf⟩
def rOp : Rdr OpC := fun w cs o => cs = [.int .i64 o.do_, .int .i64 o.m, .slice o.ta o.topics.length o.tc, .int .i64 o.gn, .slice o.pa o.parts.length o.pc, .bool o.round, .int .i64 o.now] ∧ SlAt 1 rStr w o.ta o.tc o.topics ∧ SlAt 2 rTop w o.pa o.pc o.parts ∧ -9223372036854775808 ≤ o.m ∧ o.m ≤ 9223372036854775807
theorem op_of9 (fuel : Nat) (cs : List Value) (x : DataW H × List MemPlace) (h : DataW.trod enc Try.prog w base spare held fuel 48 cs = some x) : ∃ o, rOp w cs o := by
  obtain ⟨xs, n, _, rfl, hl, hlen, hf⟩ := DataW.trod_struct Try.underlying48 h
  rw [cellsOp9] at hl
  obtain ⟨v0, v1, v2, v3, v4, v5, v6, rfl⟩ := seven9 cs hl
  obtain ⟨y0, y1, y2, y3, y4, y5, y6, rfl⟩ := seven9 xs hlen
  have h0 : DataW.trod enc Try.prog w base spare held n 3 (([v0, v1, v2, v3, v4, v5, v6].drop 0).take (Try.prog.cellsOf 3)) = some y0 := hf 0 _ rfl
  have h1 : DataW.trod enc Try.prog w base spare held n 3 (([v0, v1, v2, v3, v4, v5, v6].drop 1).take (Try.prog.cellsOf 3)) = some y1 := hf 1 _ rfl
  have h2 : DataW.trod enc Try.prog w base spare held n 22 (([v0, v1, v2, v3, v4, v5, v6].drop 2).take (Try.prog.cellsOf 22)) = some y2 := hf 2 _ rfl
  have h3 : DataW.trod enc Try.prog w base spare held n 3 (([v0, v1, v2, v3, v4, v5, v6].drop 3).take (Try.prog.cellsOf 3)) = some y3 := hf 3 _ rfl
  have h4 : DataW.trod enc Try.prog w base spare held n 23 (([v0, v1, v2, v3, v4, v5, v6].drop 4).take (Try.prog.cellsOf 23)) = some y4 := hf 4 _ rfl
  have h5 : DataW.trod enc Try.prog w base spare held n 4 (([v0, v1, v2, v3, v4, v5, v6].drop 5).take (Try.prog.cellsOf 4)) = some y5 := hf 5 _ rfl
  have h6 : DataW.trod enc Try.prog w base spare held n 3 (([v0, v1, v2, v3, v4, v5, v6].drop 6).take (Try.prog.cellsOf 3)) = some y6 := hf 6 _ rfl
  simp only [cellsInt9, cellsStrs9, cellsTops9, cellsBool9] at h0 h1 h2 h3 h4 h5 h6
  obtain ⟨d, e0, _, _⟩ := DataW.trod_int Try.underlying3 h0
  obtain ⟨m, e1, _, hmw⟩ := DataW.trod_int Try.underlying3 h1
  obtain ⟨tp, ta, tc, e2, s2⟩ := rSl_of (R := rStr) Try.underlying22 (n := 0) (by kernel_rfl) (fun fuel cs x h => rStr_of Try.underlying9 fuel cs x h) _ _ _ h2
  obtain ⟨gn, e3, _, _⟩ := DataW.trod_int Try.underlying3 h3
  obtain ⟨ps, pa, pc, e4, s4⟩ := rSl_of (R := rTop) Try.underlying23 (n := 1) (by kernel_rfl) (fun fuel cs x h => top_of9 fuel cs x h) _ _ _ h4
  obtain ⟨rd, e5, _⟩ := DataW.trod_bool Try.underlying4 h5
  obtain ⟨now, e6, _, _⟩ := DataW.trod_int Try.underlying3 h6
  simp at e0 e1 e2 e3 e4 e5 e6
  have hmin : IntKind.i64.min = -9223372036854775808 := rfl
  have hmax : IntKind.i64.max = 9223372036854775807 := rfl
  simp only [Lit.wf, Bool.and_eq_true, decide_eq_true_eq] at hmw
  exact ⟨⟨d, m, gn, now, tp, ps, rd, ta, tc, pa, pc⟩, by rw [e0, e1, e2, e3, e4, e5, e6], s2, s4, by show _ ≤ m; omega, by show m ≤ _; omega⟩
end
end Go.Proofs.Ytlmajhkhlmkeiaa

/-
  MemberRises, the plain law: how a generation and a phase may turn.
-/
namespace Go.Proofs.Ytlmajhkhlmkeiaa
open Go.RowKit Go.Shelf Fx

/-- The generation has risen by at most k; where the group is syncing it was, or the generation rose. -/
def RB (k : Int) (g h : GroupC) : Prop := g.gen ≤ h.gen ∧ h.gen ≤ g.gen + k ∧ (h.phase = 2 → g.phase = 2 ∨ g.gen < h.gen)
theorem RB.refl (g : GroupC) : RB 0 g g := ⟨Int.le_refl _, by omega, .inl⟩
theorem RB.trans {j k : Int} {g h l : GroupC} (h1 : RB j g h) (h2 : RB k h l) : RB (j + k) g l := by
  obtain ⟨a1, a2, a3⟩ := h1
  obtain ⟨c1, c2, c3⟩ := h2
  refine ⟨by omega, by omega, fun e => ?_⟩
  rcases c3 e with e | e
  · rcases a3 e with e | e
    · exact .inl e
    · exact .inr (by omega)
  · exact .inr (by omega)
theorem RB.le {j k : Int} {g h : GroupC} (h1 : RB j g h) (hk : j ≤ k) : RB k g h := ⟨h1.1, by have := h1.2.1; omega, h1.2.2⟩
theorem RB.fil (g : GroupC) (q : OneC → Bool) : RB 0 g (filG g q) := RB.refl g
theorem RB.enter (g : GroupC) (p t : Int) (hp : ¬ p = 2) : RB 0 g (enterG g p t) := ⟨Int.le_refl _, by show g.gen ≤ g.gen + 0; omega, fun e => absurd e hp⟩
theorem RB.anew (g : GroupC) (now : Int) : RB 0 g (anewG g now) := by
  unfold anewG
  split
  · exact RB.enter g 0 0 (by decide)
  · exact ⟨Int.le_refl _, by show g.gen ≤ g.gen + 0; omega, fun e => absurd (show (1 : Int) = 2 from e) (by decide)⟩
theorem RB.close (g : GroupC) (now : Int) : RB 1 g (closeG g now) := by
  unfold closeG
  split
  · exact ⟨Int.le_refl _, by show g.gen ≤ g.gen + 1; omega, fun e => absurd (show (0 : Int) = 2 from e) (by decide)⟩
  · exact ⟨by show g.gen ≤ g.gen + 1; omega, by show g.gen + 1 ≤ g.gen + 1; omega, fun _ => .inr (by show g.gen < g.gen + 1; omega)⟩
theorem RB.drop (g : GroupC) (now : Int) (q : OneC → Bool) : RB 1 g (dropG g now q) := by
  unfold dropG
  split
  · exact (RB.fil g q).le (by omega)
  · split
    · exact ((RB.fil g q).trans (RB.anew _ now)).le (by omega)
    · split
      · exact ((RB.fil g q).trans (RB.close _ now)).le (by omega)
      · exact (RB.fil g q).le (by omega)
theorem RB.join (g : GroupC) (m : Int) (topics : List ByteArray) (now : Int) : RB 1 g (joinG g m topics now) := by
  have h1 : RB 0 g (addG g m) := by
    unfold addG
    split
    · exact ⟨Int.le_refl _, by show g.gen ≤ g.gen + 0; omega, .inl⟩
    · exact RB.refl g
  have h2 : RB 0 (addG g m) (startG (addG g m) now) := by
    unfold startG
    split
    · exact RB.refl _
    · exact RB.anew _ now
  have h3 : RB 0 (startG (addG g m) now) (setG (startG (addG g m) now) (nextM g m) topics (now + g.session)) := ⟨Int.le_refl _, by show (startG (addG g m) now).gen ≤ (startG (addG g m) now).gen + 0; omega, .inl⟩
  have h4 : RB 1 (setG (startG (addG g m) now) (nextM g m) topics (now + g.session)) (joinG g m topics now) := by
    unfold joinG finG
    split
    · exact RB.close _ now
    · exact (RB.refl _).le (by omega)
  exact (((h1.trans h2).trans h3).trans h4).le (by omega)
theorem RB.touch (g : GroupC) (m t : Int) : RB 0 g (touchG g m t) := RB.refl g
theorem RB.sync (g : GroupC) (m gn : Int) (tops : List TopC) (round : Bool) (now : Int) : RB 0 g (syncG g m gn tops round now) := by
  have ht : RB 0 g (syncTouch g m now) := RB.refl g
  unfold syncG
  split
  · split
    · split
      · exact RB.refl g
      · split
        · split
          · split
            · exact (ht.trans (show RB 0 (syncTouch g m now) (shareG (syncTouch g m now) _) from ⟨Int.le_refl _, by show (syncTouch g m now).gen ≤ (syncTouch g m now).gen + 0; omega, fun e => absurd (show (3 : Int) = 2 from e) (by decide)⟩)).le (by omega)
            · exact ht
          · exact ht
        · exact ht
    · exact RB.refl g
  · exact RB.refl g
theorem RB.beat (g : GroupC) (m gn now : Int) : RB 0 g (beatG g m gn now) := by
  unfold beatG
  split
  · split
    · exact RB.touch _ _ _
    · exact RB.refl g
  · exact RB.refl g
theorem RB.leave (g : GroupC) (m now : Int) : RB 1 g (leaveG g m now) := by
  unfold leaveG
  split
  · split
    · exact RB.drop _ _ _
    · exact (RB.refl g).le (by omega)
  · exact (RB.refl g).le (by omega)
theorem RB.tick (g : GroupC) (now : Int) : RB 2 g (tickG g now) := by
  unfold tickG
  have hd := RB.drop g now (fun o => decide (o.til ≤ now))
  split
  · split
    · exact hd.le (by omega)
    · split
      · exact (hd.trans (RB.close _ now)).le (by omega)
      · split
        · exact (hd.trans (RB.drop _ now _)).le (by omega)
        · exact hd.le (by omega)
  · exact (RB.refl g).le (by omega)
theorem RB.step (g : GroupC) (sg : Int) (o : OpC) : RB 2 g (stepG g sg o) := by
  unfold stepG
  split
  · split
    · exact (RB.join _ _ _ _).le (by omega)
    · exact (RB.refl g).le (by omega)
  · split
    · exact (RB.sync _ _ _ _ _ _).le (by omega)
    · split
      · exact (RB.beat _ _ _ _).le (by omega)
      · split
        · exact (RB.leave _ _ _).le (by omega)
        · split
          · exact RB.tick _ _
          · exact (RB.refl g).le (by omega)
theorem Ok.step {n : Nat} {g : GroupC} (h : Ok (n + 2) g) (sg : Int) (o : OpC) (hm : -9223372036854775808 ≤ o.m ∧ o.m ≤ 9223372036854775807) (htl : o.topics.length ≤ 1000) : Ok n (stepG g sg o) := by
  unfold stepG
  split
  · split
    · rename_i hj
      exact (h.le (m := n + 1) (by omega)).join hm htl hj
    · exact h.le (by omega)
  · split
    · exact (h.le (by omega)).sync _ _ _ _ _
    · split
      · exact (h.le (by omega)).beat _ _ _
      · split
        · exact (h.le (m := n + 1) (by omega)).leave _ _
        · split
          · exact h.tick _
          · exact h.le (by omega)
theorem sync_off {g : GroupC} (m : Int) (tops : List TopC) (round : Bool) (now : Int) : syncG g m (g.gen + 1) tops round now = g ∧ ¬ syncE g m (g.gen + 1) tops now = 0 := by
  have hk : ¬ knownE g m (g.gen + 1) = 0 := by
    unfold knownE
    split
    · rw [if_neg (by omega)]; decide
    · decide
  constructor
  · unfold syncG
    split
    · first | rfl | rw [if_neg hk]
    · rfl
  · unfold syncE
    split
    · first | exact hk | (rw [if_neg hk]; exact hk)
    · decide
theorem beat_off {g : GroupC} (m now : Int) : beatG g m (g.gen - 1) now = g ∧ ¬ beatE g m (g.gen - 1) now = 0 := by
  have hk : ¬ knownE g m (g.gen - 1) = 0 := by
    unfold knownE
    split
    · rw [if_neg (by omega)]; decide
    · decide
  constructor
  · unfold beatG
    split
    · first | rfl | rw [if_neg hk]
    · rfl
  · unfold beatE
    split
    · first | exact hk | (rw [if_neg hk]; exact hk)
    · decide
/-- The reference's group, made. -/
theorem rnew_pair {w wr : World} {b1 : Nat} {s r : Int} {g1 : GroupC} (h : St w wr b1 g1) : Pair (fun _ => False) w (wr.alloc (.cells #[.int .i64 s, .int .i64 r, .int .i64 0, .int .i64 0, .int .i64 0, .int .i64 0, .slice none 0 0] 55)) b1 wr.heap.size g1 (newG s r) := by
  obtain ⟨F, h1, h2, h3⟩ := h
  have hk : K0 wr (wr.alloc (.cells #[.int .i64 s, .int .i64 r, .int .i64 0, .int .i64 0, .int .i64 0, .int .i64 0, .slice none 0 0] 55)) := (Keeps.refl _ _).alloc _
  refine ⟨F, fun k => k = wr.heap.size, h1.keep hk fun _ _ e => e, ⟨.slice none 0 0, [], ⟨heap_new _ _ _ rfl, World.ownsRow_nil _ _ _ _, rfl, fun k e => by rw [e]; simp, (fun k e => by cases e), rfl, (fun x hx => by cases hx)⟩⟩, fun k e e2 => ?_, fun k e => .inr ?_, h3.trans hk (fun _ _ e => e)⟩
  · have := h1.ltF k e
    have e2 : k = wr.heap.size := e2
    omega
  · rcases e with e | e
    · exact h2 k e
    · rw [show k = wr.heap.size from e]; exact h3.size
end Go.Proofs.Ytlmajhkhlmkeiaa
