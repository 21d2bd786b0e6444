/-
  The law's step: one of its calls.
-/
import Derived.Test.YtklhlffdpojkoaaGreatJ29
namespace Go.Proofs.YtklhlffdpojkoaaGreat
open Go.RowKit Go.Shelf Fx

section
variable {E : Nat → Prop} {w0 wb w : World} {cb kb tb n : Nat} {C R : CoordC} {s pt : ByteArray} {m gn pi at_ now : Int} {topics : List ByteArray} {parts : List TopC} {ta pa : Option Addr} {tc pc : Nat} {rd : Bool}
set_option maxRecDepth 100000 in
set_option maxHeartbeats 8000000 in
theorem step_6 (h : JC E w0 wb w cb C kb R tb) (hg : GoodC C R (n + 40)) (hm : I64 m) (hs : s.size ≤ 9223372036854775807) (hpt : pt.size ≤ 9223372036854775807) (_htl : topics.length ≤ 1000) (ht : Out 1 rStr w0 (fun _ => True) (.slice ta topics.length tc) topics) (hp : Out 2 rTop w0 (fun _ => True) (.slice pa parts.length pc) parts) :
    Calls Tryz.prog 10 #[.pointer (some ⟨cb, 0, none⟩), .pointer (some ⟨kb, 0, none⟩), .agg #[.int .i64 6, .string s, .int .i64 m, .slice ta topics.length tc, .int .i64 gn, .slice pa parts.length pc, .bool rd, .string pt, .int .i64 pi, .int .i64 at_, .int .i64 now]] w (StepQ E w0 wb cb C kb s (False) n) := by
  have HA : Hid ((w.alloc (.cells #[.int .i64 6, .string s, .int .i64 m, .slice ta topics.length tc, .int .i64 gn, .slice pa parts.length pc, .bool rd, .string pt, .int .i64 pi, .int .i64 at_, .int .i64 now] 36)).heap[w.heap.size]? = some (.cells #[.int .i64 6, .string s, .int .i64 m, .slice ta topics.length tc, .int .i64 gn, .slice pa parts.length pc, .bool rd, .string pt, .int .i64 pi, .int .i64 at_, .int .i64 now] 36 (0, 0))) := heap_new _ _ _ rfl
  have HJ := Lib.hid (h.baseE (w.alloc (.cells #[.int .i64 6, .string s, .int .i64 m, .slice ta topics.length tc, .int .i64 gn, .slice pa parts.length pc, .bool rd, .string pt, .int .i64 pi, .int .i64 at_, .int .i64 now] 36)) ((Keeps.refl _ _).alloc _) (Nat.le_refl _) (by simp))
  have HBK : Hid (∀ wx C' R' tb', JC (fun k => E k ∨ k = w.heap.size) w0 (w.alloc (.cells #[.int .i64 6, .string s, .int .i64 m, .slice ta topics.length tc, .int .i64 gn, .slice pa parts.length pc, .bool rd, .string pt, .int .i64 pi, .int .i64 at_, .int .i64 now] 36)) wx cb C' kb R' tb' → JC E w0 wb wx cb C' kb R' tb') := fun wx C' R' tb' hj => h.backE ((Keeps.refl _ _).alloc _) hj
  have HG := Lib.hid hg
  have HC : Hid (∀ wx C' R' tb', JC (fun k => E k ∨ k = w.heap.size) w0 (w.alloc (.cells #[.int .i64 6, .string s, .int .i64 m, .slice ta topics.length tc, .int .i64 gn, .slice pa parts.length pc, .bool rd, .string pt, .int .i64 pi, .int .i64 at_, .int .i64 now] 36)) wx cb C' kb R' tb' → wx.cell? ⟨w.heap.size, 0, none⟩ = some (.int .i64 6) ∧ wx.cell? ⟨w.heap.size, 1, none⟩ = some (.string s) ∧ wx.cell? ⟨w.heap.size, 2, none⟩ = some (.int .i64 m) ∧ wx.cell? ⟨w.heap.size, 3, none⟩ = some (.slice ta topics.length tc) ∧ wx.cell? ⟨w.heap.size, 5, none⟩ = some (.slice pa parts.length pc) ∧ wx.cell? ⟨w.heap.size, 6, none⟩ = some (.bool rd) ∧ wx.cell? ⟨w.heap.size, 7, none⟩ = some (.string pt) ∧ wx.cell? ⟨w.heap.size, 8, none⟩ = some (.int .i64 pi) ∧ wx.cell? ⟨w.heap.size, 9, none⟩ = some (.int .i64 at_) ∧ wx.cell? ⟨w.heap.size, 10, none⟩ = some (.int .i64 now) ∧ w.heap.size < wx.heap.size) := fun wx C' R' tb' hj => by
    have hk := (hj.blk (.inr rfl)).trans HA.out
    exact ⟨block_cell hk 0, block_cell hk 1, block_cell hk 2, block_cell hk 3, block_cell hk 5, block_cell hk 6, block_cell hk 7, block_cell hk 8, block_cell hk 9, block_cell hk 10, block_lt hk⟩
  have HM := Lib.hid hm
  have HT := Lib.hid ht
  have HPP := Lib.hid hp
  have HS := Lib.hid hs
  have HPT := Lib.hid hpt
  clear h hg ht hp
  go_enter Tryz.func10, Tryz.ntmps10
  go_wp2_with fail
  refine (jc_find HJ.out s).mono ?_
  rintro e w1 ⟨⟨o, rfl, ho⟩, k1⟩
  have HJ1 := Lib.hid (HJ.out.keep k1)
  have HO := Lib.hid ho
  obtain ⟨c0, c1, c2, c3, c5, c6, c7, c8, c9, c10, cl⟩ := HC.out _ _ _ _ HJ1.out
  clear c0 c1 c3 c5 c6 c7 c8 c9 c10 k1 ho
  go_upto_region 3 with fail
  go_cut [43] (fun q wq => q = .bool (gnT o gn m) ∧ wq = w1)
  case first => as_aux_lemma =>
    cases o with
    | none =>
      have HX : Hid (gnT none gn m = false) := by show _ = _; simp [gnT]
      dsimp only [ptrOf]
      go_wp2
      go_meet
      case rel => exact ⟨by rw [HX.out], rfl⟩
    | some p =>
      obtain ⟨b, g⟩ := p
      dsimp only [ptrOf]
      by_cases q1 : -100 ≤ gn
      · by_cases q2 : gn ≤ 100
        · by_cases q3 : 0 ≤ m
          · have HX : Hid (gnT (some (b, g)) gn m = true) := decide_eq_true ⟨rfl, q1, q2, q3⟩
            go_wp2
            go_meet
            case rel => exact ⟨by rw [HX.out], rfl⟩
          · have HX : Hid (gnT (some (b, g)) gn m = false) := decide_eq_false fun e => q3 e.2.2.2
            go_wp2
            go_meet
            case rel => exact ⟨by rw [HX.out], rfl⟩
        · have HX : Hid (gnT (some (b, g)) gn m = false) := decide_eq_false fun e => q2 e.2.2.1
          go_wp2
          go_meet
          case rel => exact ⟨by rw [HX.out], rfl⟩
      · have HX : Hid (gnT (some (b, g)) gn m = false) := decide_eq_false fun e => q1 e.2.1
        go_wp2
        go_meet
        case rel => exact ⟨by rw [HX.out], rfl⟩
  case rest => as_aux_lemma =>
   obtain ⟨rfl, hw1⟩ := hcut
   obtain rfl : w1 = wc := hw1.symm
   clear c2 cl
   go_upto_if 43 with fail
   go_cut [7] (fun gv wq => gv = .int .i64 (gnS R s gn m) ∧ wq = w1)
   case first => as_aux_lemma =>
    by_cases q : o.isSome = true ∧ -100 ≤ gn ∧ gn ≤ 100 ∧ 0 ≤ m
    · have HX : Hid (gnT o gn m = true) := decide_eq_true q
      rw [HX.out]
      obtain ⟨q0, q1, q2, q3⟩ := q
      rcases HO.out with ⟨rfl, hn⟩ | ⟨b, g, rfl, hgs, d3, hbl⟩
      · cases q0
      · have hgen := (HG.out.rok g hgs).wf.gen
        have HY : Hid (gnS R s gn m = gn + g.gen) := by show _ = _; unfold gnS; rw [hgs]; exact if_pos ⟨q1, q2, q3⟩
        generalize g.gen = gg at *
        dsimp only [ptrOf]
        clear hgs q0
        go_wp2
        go_meet
        case rel => exact ⟨by rw [HY.out], rfl⟩
    · have HX : Hid (gnT o gn m = false) := decide_eq_false q
      rw [HX.out]
      have HY : Hid (gnS R s gn m = gn) := by
        show _ = _
        unfold gnS
        rcases HO.out with ⟨_, hn⟩ | ⟨b, g, e, hgs, _⟩
        · rw [hn]
        · rw [hgs]
          exact if_neg (fun e2 => q ⟨by rw [e]; rfl, e2⟩)
      clear q
      go_wp2
      go_meet
      case rel => exact ⟨by rw [HY.out], rfl⟩
   case rest => as_aux_lemma =>
    obtain ⟨rfl, hw1⟩ := hcut
    obtain rfl : w1 = wc := hw1.symm
    have hj := HJ1.out
    clear HO
    obtain ⟨wz, rfl⟩ : ∃ wz : World, wz = w1 := ⟨_, rfl⟩
    generalize gnS R s gn m = sg at *
    generalize hwa : (w.alloc (.cells #[.int .i64 6, .string s, .int .i64 m, .slice ta topics.length tc, .int .i64 gn, .slice pa parts.length pc, .bool rd, .string pt, .int .i64 pi, .int .i64 at_, .int .i64 now] 36)) = wa at *
    generalize w.heap.size = bo at *
    clear hwa HA HJ HJ1
    have HJZ := Lib.hid hj
    obtain ⟨c0, c1, c2, c3, c5, c6, c7, c8, c9, c10, cl⟩ := HC.out _ _ _ _ hj
    clear hj
    obtain ⟨x, hx⟩ : ∃ x : Int, (dropN R.off pt : Int) = x := ⟨_, rfl⟩
    have HP : Hid (∀ wx R' tb', JC (fun k => E k ∨ k = bo) w0 wa wx cb C kb R' tb' → Calls Tryz.prog 20 #[.pointer (some ⟨cb, 0, none⟩), .string pt] wx fun e w' => e = .returned (.int .i64 x) ∧ ∃ L2, L2.Perm (dropO C.off pt).all ∧ JC (fun k => E k ∨ k = bo) w0 wa w' cb ⟨C.s, C.r, C.gs, ⟨C.off.room, L2⟩⟩ kb R' tb') := fun wx R' tb' hj => by
      rw [← hx]
      exact jp_drop hj HG.out pt
    have HRF : Hid (∀ wx C', JC (fun k => E k ∨ k = bo) w0 wa wx cb C' kb R tb → Calls Tryz.prog 34 #[.pointer (some ⟨tb, 0, none⟩), .string pt] wx fun e w' => e = .returned (.int .i64 x) ∧ JC (fun k => E k ∨ k = bo) w0 wa w' cb C' kb ⟨R.s, R.r, R.gs, dropO R.off pt⟩ tb) := fun wx C' hj => by
      rw [← hx]
      exact jr_drop hj HG.out pt
    have HX := Lib.hid hx
    have hj0 := HJZ.out.keep (Keeps.refl _ _).drew
    obtain ⟨kc, kl⟩ := hj0.ktb
    clear hx
    go_wp2
    go_region_held3 (fun w' : World => w'.cell? ⟨bo, 1, none⟩ = some (.string s) ∧ w'.cell? ⟨bo, 2, none⟩ = some (.int .i64 m) ∧ w'.cell? ⟨bo, 3, none⟩ = some (.slice ta topics.length tc) ∧ w'.cell? ⟨bo, 5, none⟩ = some (.slice pa parts.length pc) ∧ w'.cell? ⟨bo, 6, none⟩ = some (.bool rd) ∧ w'.cell? ⟨bo, 7, none⟩ = some (.string pt) ∧ w'.cell? ⟨bo, 8, none⟩ = some (.int .i64 pi) ∧ w'.cell? ⟨bo, 9, none⟩ = some (.int .i64 at_) ∧ w'.cell? ⟨bo, 10, none⟩ = some (.int .i64 now) ∧ bo < w'.heap.size ∧ w'.cell? ⟨kb, 3, none⟩ = some (.pointer (some ⟨tb, 0, none⟩)))
      (first | go_keep | (refine ⟨?_, ?_, ?_, ?_, ?_, ?_, ?_, ?_, ?_, ?_, ?_⟩ <;> assumption))
      (first | (go_at_call 20; refine (HP.out _ _ _ (by assumption)).mono ?_; rintro e w' ⟨rfl, L2, hL, hs9⟩; obtain ⟨d0, d1, d2, d3, d5, d6, d7, d8, d9, d10, dl⟩ := HC.out _ _ _ _ hs9; obtain ⟨kc9, kl9⟩ := hs9.ktb) | (go_at_call 34; refine (HRF.out _ _ (by assumption)).mono ?_; rintro e w' ⟨rfl, hs9⟩; obtain ⟨d0, d1, d2, d3, d5, d6, d7, d8, d9, d10, dl⟩ := HC.out _ _ _ _ hs9; obtain ⟨kc9, kl9⟩ := hs9.ktb))
    all_goals
      go_wp2
      go_ret
      exact ⟨rfl, ⟨C.s, C.r, C.gs, ⟨C.off.room, L2⟩⟩, ⟨R.s, R.r, R.gs, dropO R.off pt⟩, _, HBK.out _ _ _ _ (by assumption), (HG.out.dropO pt hL).mono (by omega), fun e => e.elim⟩
end
end Go.Proofs.YtklhlffdpojkoaaGreat
