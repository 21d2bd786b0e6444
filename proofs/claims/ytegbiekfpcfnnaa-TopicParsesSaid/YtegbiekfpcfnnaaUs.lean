/-
  The document's Parse, walked.
-/
import Derived.Test.YtegbiekfpcfnnaaUr
import Derived.Test.YtegbiekfpcfnnaaUt
import Derived.BigQuiet
namespace Go.Proofs.Ytegbiekfpcfnnaa
open Go.RowKit Fx

set_option maxRecDepth 100000 in
set_option maxHeartbeats 16000000 in
theorem rparse_any (s : ByteArray) (w : World) (hs : s.size ≤ 9223372036854775807) : Calls Try.prog 22 #[.string s] w (RParseP w s) := by
  have H0 : Hid (Rr 73 ((w.alloc (.cells #[.string s, .int .i64 0, .int .i64 0] 73)).alloc (.cells #[.int .i64 0, .slice none 0 0] 43)) w.heap.size s 0 0) := by
    have h1 : Rr 73 (w.alloc (.cells #[.string s, .int .i64 0, .int .i64 0] 73)) w.heap.size s 0 0 := heap_new _ _ _ rfl
    exact h1.keep (S := fun _ => False) ((Keeps.refl _ _).alloc _) (fun e => e)
  have b0 : nuT s 0 0 ≤ s.size := nuT_le (by omega)
  go_enter Try.func22, Try.ntmps22
  go_wp2_with fail
  refine (within_any 0 1073741824 H0.out hs (by omega)).mono ?_
  rintro e w1 ⟨rfl, hr1, hk1⟩
  have hT0 : ((w.alloc (.cells #[.string s, .int .i64 0, .int .i64 0] 73)).alloc (.cells #[.int .i64 0, .slice none 0 0] 43)).heap[w.heap.size + 1]? = some (.cells (rtCells ⟨0, []⟩ (.slice none 0 0)) 43 (0, 0)) := heap_new _ _ _ (by simp)
  have hT1 := (hk1.block _ (block_lt hT0) (fun e => by have e : w.heap.size + 1 = w.heap.size := e; omega)).trans hT0
  have q0 := block_cell hT1 0
  have q1 := block_free hT1 0
  have q2 := block_lt hT1
  have HT2 : Hid ((w1.setCell ⟨w.heap.size + 1, 0, none⟩ (.int .i64 (nuN s 0 0))).heap[w.heap.size + 1]? = some (.cells (rtCells ⟨nuN s 0 0, []⟩ (.slice none 0 0)) 43 (0, 0))) := setCell_block hT1 0 _
  have HR2 : Hid (Rr 73 (w1.setCell ⟨w.heap.size + 1, 0, none⟩ (.int .i64 (nuN s 0 0))) w.heap.size s (nuT s 0 0) (nuE s 0 0 0 1073741824)) := Rr.keep hr1 ((Keeps.refl (fun k => k = w.heap.size + 1) w1).setC 0 _ (fun _ => rfl)) (fun e => by have e : w.heap.size = w.heap.size + 1 := e; omega)
  have HK2 : Hid (K0 w (w1.setCell ⟨w.heap.size + 1, 0, none⟩ (.int .i64 (nuN s 0 0)))) := k0_then (k0_then (((Keeps.refl _ _).alloc _).alloc _) hk1 (fun k e => by have e : k = w.heap.size := e; omega)) ((Keeps.refl (fun k => k = w.heap.size + 1) w1).setC 0 _ (fun _ => rfl)) (fun k e => by have e : k = w.heap.size + 1 := e; omega)
  have HSZ2 : Hid (w.heap.size + 2 ≤ w1.heap.size) := by have h9 := hk1.size; show _ ≤ _; simp at h9; omega
  clear hr1 hk1 hT0 hT1 H0
  go_wp2_with fail
  refine (within_any 0 20 HR2.out hs (by omega)).mono ?_
  rintro e w2 ⟨rfl, hr2, hk2⟩
  have hHP0 : RPt w w2 s (paX s) (paP s) (.slice none 0 0) := ⟨hr2, (hk2.block _ (block_lt HT2.out) (fun e => by have e : w.heap.size + 1 = w.heap.size := e; omega)).trans HT2.out, World.ownsRow_nil _ _ _ _, k0_then HK2.out hk2 (fun k e => by have e : k = w.heap.size := e; omega), by have h1 := hk2.size; have h2 := HSZ2.out; simp at h1; omega⟩
  have HP0 := Lib.hid hHP0
  have HPE : Hid (paE s = wE (paF s).e (decide ((paF s).a = s.size) && decide (((idsO (paF s).l).length : Int) = paC s))) := rfl
  have HFF1 : Hid (paF s = prun s (paX s) (paC s).toNat (paP s)) := rfl
  have HZ := Lib.hid (@paP_zero s)
  have B1 : Hid ((paP s).a ≤ s.size) := nuT_le b0
  have hCC : nuN s (nuT s 0 0) (nuE s 0 0 0 1073741824) = paC s := rfl
  have HLL : Hid ((paP s).l = []) := by show _ = _; rfl
  rw [hCC]
  generalize paP s = p0 at HP0 HFF1 HZ B1 HLL
  generalize hFg : paF s = F at HPE HFF1
  have HFF2 : Hid (paF s = F) := hFg
  generalize paC s = n at HPE HFF1 HZ ⊢
  generalize hng : paX s = nx at HP0 HFF1 HZ
  have HNX : Hid (paX s = nx) := hng
  clear hr2 hk2 hHP0 hCC b0 q0 q1 q2 HT2 HR2 HK2 HSZ2 hng hFg
  go_wp2
  go_loopw [7] (RPRel w s nx n F) (fun i _ => n.toNat - (intOf i).toNat)
  case atStart => exact ⟨0, p0, _, rfl, Nat.zero_le _, by rw [HLL.out]; rfl, HFF1.out.symm, B1.out, HZ.out, HP0.out⟩
  case round =>
    obtain ⟨k, p, v, rfl, hk, hlk, hF, ha, hzz, hp⟩ := hrel
    have HLK := Lib.hid hlk
    have HP := Lib.hid hp
    by_cases hgo : (k : Int) < n ∧ p.e = 0
    · obtain ⟨hkn, he⟩ := hgo
      obtain ⟨n1, n2, n3, n4⟩ := hzz he
      have hkn2 : k < n.toNat := by omega
      rw [prun_next s nx hkn2 he] at hF
      have HF := Lib.hid hF
      have HA : Hid ((pstep s nx p).a ≤ s.size) := by
        show nuT _ _ _ ≤ _
        exact nuT_le (nuT_le (txT_le ha))
      have HZ2 : Hid ((pstep s nx p).e = 0 → 0 ≤ nx ∧ nx ≤ 1073741824 ∧ 0 ≤ n ∧ n ≤ 20) := fun _ => hzz he
      obtain ⟨a, e, l⟩ := p
      obtain rfl : e = 0 := he
      have hr : Rr 73 wr w.heap.size s a 0 := hp.rd
      obtain ⟨r0, r1, r2, r3, r4, r5⟩ := hr.all
      have ha : a ≤ s.size := ha
      have b1 : txT s a 0 ≤ s.size := txT_le ha
      have b1b : txT s a 0 ≤ 9223372036854775807 := by omega
      have b2 : st2T s ⟨a, 0, l⟩ ≤ s.size := nuT_le b1
      have b2b : st2T s ⟨a, 0, l⟩ ≤ 9223372036854775807 := by omega
      have nn2 : IntKind.i64.wrap (nx - 1) = nx - 1 := IntWalk.i64_in _ (by omega)
      have hlk : l.length = k := hlk
      clear hp hF hzz b2
      go_wp2_with fail
      refine (rtxt_any hr hs (by omega)).mono ?_
      rintro e w1 ⟨rfl, hr1, hk1⟩
      have hrB : Rr 73 (w1.alloc (.cells #[.string (txS s a 0), .int .i64 0, .int .i64 0] 46)) w.heap.size s (txT s a 0) (txE s a 0) := Rr.keep hr1 ((Keeps.refl (fun _ => False) w1).alloc _) (fun e => e)
      have hbB : BoxN w1 (w1.alloc (.cells #[.string (txS s a 0), .int .i64 0, .int .i64 0] 46)) (txS s a 0) 0 0 := heap_new _ _ _ rfl
      have HKB : Hid (Keeps (fun k => k = w.heap.size ∨ k = w1.heap.size) wr (w1.alloc (.cells #[.string (txS s a 0), .int .i64 0, .int .i64 0] 46))) := (hk1.mono (fun _ _ e => .inl e)).alloc _
      have HSZ : Hid (wr.heap.size ≤ w1.heap.size) := hk1.size
      have HNE : Hid (¬ w1.heap.size = w.heap.size) := by have := hk1.size; have := HP.out.sz; show ¬ _; omega
      have hpB := HP.out.keep HKB.out (fun k e => e.imp id (fun e => by rw [e]; exact HSZ.out)) hrB
      have t0 : (w1.alloc (.cells #[.string (txS s a 0), .int .i64 0, .int .i64 0] 46)).cell? ⟨w.heap.size + 1, 0, none⟩ = some (.int .i64 nx) := block_cell hpB.blk 0
      have t1 : (w1.alloc (.cells #[.string (txS s a 0), .int .i64 0, .int .i64 0] 46)).cell? ⟨w.heap.size + 1, 1, none⟩ = some v := block_cell hpB.blk 1
      have tl := block_lt hpB.blk
      obtain ⟨g0, g1, g2, g3, g4, g5⟩ := hrB.all
      have x0 : (w1.alloc (.cells #[.string (txS s a 0), .int .i64 0, .int .i64 0] 46)).cell? ⟨w1.heap.size, 0, none⟩ = some (.string (txS s a 0)) := block_cell hbB 0
      have xl := block_lt hbB
      clear hr hk1 hr1 r0 r1 r2 r3 r4 r5
      by_cases he1 : txE s a 0 = 0
      · rw [he1] at hrB g2
        have HST0 : Hid (st1E s ⟨a, 0, l⟩ = wE 0 (bltB (lastN l) (txS s a 0))) := by show wE (txE s a 0) _ = _; rw [he1]
        clear he1
        by_cases hem : (txS s a 0).size = 0
        · have HST : Hid (st1E s ⟨a, 0, l⟩ = 3) := by
            show _ = _
            rw [HST0.out]
            have : bltB (lastN l) (txS s a 0) = false := by
              cases hx : bltB (lastN l) (txS s a 0) with
              | false => rfl
              | true => have := blt_nonempty hx; omega
            rw [this]; rfl
          have hq1 : (txS s a 0).toList.isEmpty = true := by rw [List.isEmpty_iff]; exact (empty_iff _).2 hem
          have hq2 : (txS s a 0).toList = [] := (empty_iff _).2 hem
          clear hem HST0
          have HZ : Hid (∀ q, Rr 73 (((w1.alloc (.cells #[.string (txS s a 0), .int .i64 0, .int .i64 0] 46)).drewN q).setCell ⟨w.heap.size, 2, none⟩ (.int .i64 3)) w.heap.size s (txT s a 0) (st1E s ⟨a, 0, l⟩)) := fun q => by rw [HST.out]; exact Rr.set2 (w := (w1.alloc (.cells #[.string (txS s a 0), .int .i64 0, .int .i64 0] 46)).drewN q) hrB 3
          have HZB : Hid (∀ q, BoxN w1 (((w1.alloc (.cells #[.string (txS s a 0), .int .i64 0, .int .i64 0] 46)).drewN q).setCell ⟨w.heap.size, 2, none⟩ (.int .i64 3)) (txS s a 0) 0 0) := fun q => (((Keeps.refl (fun k => k = w.heap.size) ((w1.alloc (.cells #[.string (txS s a 0), .int .i64 0, .int .i64 0] 46)).drewN q)).setC 2 _ (fun _ => rfl)).block _ (block_lt hbB) HNE.out).trans hbB
          have HZK : Hid (∀ q, Keeps (fun k => k = w.heap.size ∨ k = w1.heap.size) wr (((w1.alloc (.cells #[.string (txS s a 0), .int .i64 0, .int .i64 0] 46)).drewN q).setCell ⟨w.heap.size, 2, none⟩ (.int .i64 3))) := fun q => (HKB.out.drewN q).setC 2 _ (fun _ => .inl rfl)
          have HCW : Hid (∀ q, Calls Try.prog 31 #[.pointer (some ⟨w.heap.size, 0, none⟩), .int .i64 0, .int .i64 (nx - 1)] (((w1.alloc (.cells #[.string (txS s a 0), .int .i64 0, .int .i64 0] 46)).drewN q).setCell ⟨w.heap.size, 2, none⟩ (.int .i64 3)) (RrP 73 (((w1.alloc (.cells #[.string (txS s a 0), .int .i64 0, .int .i64 0] 46)).drewN q).setCell ⟨w.heap.size, 2, none⟩ (.int .i64 3)) w.heap.size s (.int .i64 (st2N s ⟨a, 0, l⟩)) (st2T s ⟨a, 0, l⟩) (st2E s nx ⟨a, 0, l⟩))) := fun q => within_any 0 (nx - 1) (HZ.out q) hs b1b
          clear hrB hbB
          go_wp2_with fail
          go_quiet (fail)
          go_wp2_with fail
          refine (HCW.out _).mono ?_
          rintro e w3 ⟨rfl, hr3, hk3⟩
          have HK3 := Lib.hid ((HZK.out _).trans hk3 (fun _ _ e => .inl e))
          have hb3 : BoxN w1 w3 (txS s a 0) 0 0 := (hk3.block _ (block_lt (HZB.out _)) HNE.out).trans (HZB.out _)
          have bc3 := block_cell hb3 1
          have bf3 := block_free hb3 1
          have bl3 := block_lt hb3
          have hb3s : BoxN w1 (w3.setCell ⟨w1.heap.size, 1, none⟩ (.int .i64 (st2N s ⟨a, 0, l⟩))) (txS s a 0) (st2N s ⟨a, 0, l⟩) 0 := setCell_block hb3 1 _
          have hr3s : Rr 73 (w3.setCell ⟨w1.heap.size, 1, none⟩ (.int .i64 (st2N s ⟨a, 0, l⟩))) w.heap.size s (st2T s ⟨a, 0, l⟩) (st2E s nx ⟨a, 0, l⟩) := Rr.keep hr3 ((Keeps.refl (fun k => k = w1.heap.size) w3).setC 1 _ (fun _ => rfl)) (fun e => HNE.out e.symm)
          have HB3 := Lib.hid hb3s
          have HR3 := Lib.hid hr3s
          clear hr3 hk3 hb3 hb3s hr3s
          go_wp2_with fail
          have HC2 : Calls Try.prog 31 #[.pointer (some ⟨w.heap.size, 0, none⟩), .int .i64 1, .int .i64 16] (w3.setCell ⟨w1.heap.size, 1, none⟩ (.int .i64 (st2N s ⟨a, 0, l⟩))) (RrP 73 (w3.setCell ⟨w1.heap.size, 1, none⟩ (.int .i64 (st2N s ⟨a, 0, l⟩))) w.heap.size s (.int .i64 (st3N s nx ⟨a, 0, l⟩)) (st3T s nx ⟨a, 0, l⟩) (st3E s nx ⟨a, 0, l⟩)) := within_any 1 16 HR3.out hs b2b
          refine HC2.mono ?_
          clear HC2
          rintro e w4 ⟨rfl, hr4, hk4⟩
          have hb4 : BoxN w1 w4 (txS s a 0) (st2N s ⟨a, 0, l⟩) 0 := (hk4.block _ (block_lt HB3.out) HNE.out).trans HB3.out
          have bc4 := block_cell hb4 2
          have bf4 := block_free hb4 2
          have bl4 := block_lt hb4
          have HW5 : Hid (∃ W, W = w4.setCell ⟨w1.heap.size, 2, none⟩ (.int .i64 (st3N s nx ⟨a, 0, l⟩)) ∧ BoxN w1 W (txS s a 0) (st2N s ⟨a, 0, l⟩) (st3N s nx ⟨a, 0, l⟩) ∧ RPt w W s nx ⟨st3T s nx ⟨a, 0, l⟩, st3E s nx ⟨a, 0, l⟩, l⟩ v) := by
            refine ⟨_, rfl, setCell_block hb4 2 _, ?_⟩
            have hk9 : Keeps (fun k => k = w.heap.size ∨ k = w1.heap.size) wr (w4.setCell ⟨w1.heap.size, 2, none⟩ (.int .i64 (st3N s nx ⟨a, 0, l⟩))) := ((((HK3.out.setC 1 _ (fun _ => .inr rfl)).trans hk4 (fun _ _ e => .inl e))).setC 2 _ (fun _ => .inr rfl))
            exact HP.out.keep hk9 (fun k e => e.imp id (fun e => by rw [e]; exact HSZ.out)) (Rr.keep hr4 ((Keeps.refl (fun k => k = w1.heap.size) w4).setC 2 _ (fun _ => rfl)) (fun e => HNE.out e.symm))
          clear hr4 hk4 hb4
          go_wp2_with fail
          obtain ⟨W, hW, hbW, hPW⟩ := HW5.out
          rw [← hW]
          clear hW HW5 bc3 bf3 bl3 bc4 bf4 bl4
          have y0 := block_cell hbW 0
          have y1 := block_cell hbW 1
          have y2 := block_cell hbW 2
          have y3 := block_lt hbW
          have z1 : W.cell? ⟨w.heap.size + 1, 1, none⟩ = some v := block_cell hPW.blk 1
          have zl := block_lt hPW.blk
          have zf := block_free hPW.blk 1
          have hown : W.ownsRow (w.heap.size + 2) 46 3 v l.length (l.flatMap encO) := hPW.row
          have hll : l.length ≤ 20 := by omega
          have HPW := Lib.hid hPW
          have hsz := hPW.sz
          clear hbW hPW
          go_region_law (refine step_app1 rfl rfl Try.underlying41 infoOne rfl (by decide) rfl ((hown.alloc _).drew) rfl (heap_new_drew _ _ _ (by simp)) rfl rfl ⟨by omega, by decide⟩ (by simp; omega) ?_; intro g1 cap1 w6 hA; have hg6 := grown_alloc (grown_drew hA.grown); have hb6 := (hg6.block _ (block_lt HPW.out.blk) (fun e => by have := (HPW.out.row.lt _ e.symm).1; omega)).trans HPW.out.blk; have u1 : w6.cell? ⟨w.heap.size + 1, 1, none⟩ = some v := block_cell hb6 1; have u2 := block_free hb6 1; have u3 := block_lt hb6)
          all_goals
            go_wp2
            go_roundw
            case rel => exact ⟨k + 1, pstep s nx ⟨a, 0, l⟩, _, by go_num, by omega, by rw [← HLK.out]; simp [pstep], HF.out, HA.out, HZ2.out, HPW.out.add hg6 (by have h9 := hA.own; rw [hlk] at h9 ⊢; exact h9)⟩
            case measure => simp [intOf]; omega
        · have hq1 : (txS s a 0).toList.isEmpty = false := by
            cases hq : (txS s a 0).toList.isEmpty
            · rfl
            · exact absurd ((empty_iff _).1 (List.isEmpty_iff.1 hq)) hem
          by_cases hk0 : k = 0
          · have HST : Hid (st1E s ⟨a, 0, l⟩ = 0) := by
              show _ = _
              rw [HST0.out]
              have hl0 : l = [] := List.eq_nil_of_length_eq_zero (by omega)
              rw [hl0]
              have : bltB (lastN []) (txS s a 0) = true := blt_empty (by omega)
              rw [this]; rfl
            have hk1 : ¬ (0 : Int) < (k : Int) := by omega
            have hk2 : decide ((0 : Int) < (k : Int)) = false := by simp [hk0]
            have hk3 : ¬ 0 < k := by omega
            have hk4 : decide (0 < k) = false := by simp [hk0]
            clear hem hk0 HST0
            have HZ : Hid (∀ q, Rr 73 ((w1.alloc (.cells #[.string (txS s a 0), .int .i64 0, .int .i64 0] 46)).drewN q) w.heap.size s (txT s a 0) (st1E s ⟨a, 0, l⟩)) := fun q => by rw [HST.out]; exact hrB
            have HZB : Hid (∀ q, BoxN w1 ((w1.alloc (.cells #[.string (txS s a 0), .int .i64 0, .int .i64 0] 46)).drewN q) (txS s a 0) 0 0) := fun q => hbB
            have HZK : Hid (∀ q, Keeps (fun k => k = w.heap.size ∨ k = w1.heap.size) wr ((w1.alloc (.cells #[.string (txS s a 0), .int .i64 0, .int .i64 0] 46)).drewN q)) := fun q => HKB.out.drewN q
            have HCW : Hid (∀ q, Calls Try.prog 31 #[.pointer (some ⟨w.heap.size, 0, none⟩), .int .i64 0, .int .i64 (nx - 1)] ((w1.alloc (.cells #[.string (txS s a 0), .int .i64 0, .int .i64 0] 46)).drewN q) (RrP 73 ((w1.alloc (.cells #[.string (txS s a 0), .int .i64 0, .int .i64 0] 46)).drewN q) w.heap.size s (.int .i64 (st2N s ⟨a, 0, l⟩)) (st2T s ⟨a, 0, l⟩) (st2E s nx ⟨a, 0, l⟩))) := fun q => within_any 0 (nx - 1) (HZ.out q) hs b1b
            clear hrB hbB
            go_wp2_with fail
            go_quiet (fail)
            go_wp2_with fail
            refine (HCW.out _).mono ?_
            rintro e w3 ⟨rfl, hr3, hk3⟩
            have HK3 := Lib.hid ((HZK.out _).trans hk3 (fun _ _ e => .inl e))
            have hb3 : BoxN w1 w3 (txS s a 0) 0 0 := (hk3.block _ (block_lt (HZB.out _)) HNE.out).trans (HZB.out _)
            have bc3 := block_cell hb3 1
            have bf3 := block_free hb3 1
            have bl3 := block_lt hb3
            have hb3s : BoxN w1 (w3.setCell ⟨w1.heap.size, 1, none⟩ (.int .i64 (st2N s ⟨a, 0, l⟩))) (txS s a 0) (st2N s ⟨a, 0, l⟩) 0 := setCell_block hb3 1 _
            have hr3s : Rr 73 (w3.setCell ⟨w1.heap.size, 1, none⟩ (.int .i64 (st2N s ⟨a, 0, l⟩))) w.heap.size s (st2T s ⟨a, 0, l⟩) (st2E s nx ⟨a, 0, l⟩) := Rr.keep hr3 ((Keeps.refl (fun k => k = w1.heap.size) w3).setC 1 _ (fun _ => rfl)) (fun e => HNE.out e.symm)
            have HB3 := Lib.hid hb3s
            have HR3 := Lib.hid hr3s
            clear hr3 hk3 hb3 hb3s hr3s
            go_wp2_with fail
            have HC2 : Calls Try.prog 31 #[.pointer (some ⟨w.heap.size, 0, none⟩), .int .i64 1, .int .i64 16] (w3.setCell ⟨w1.heap.size, 1, none⟩ (.int .i64 (st2N s ⟨a, 0, l⟩))) (RrP 73 (w3.setCell ⟨w1.heap.size, 1, none⟩ (.int .i64 (st2N s ⟨a, 0, l⟩))) w.heap.size s (.int .i64 (st3N s nx ⟨a, 0, l⟩)) (st3T s nx ⟨a, 0, l⟩) (st3E s nx ⟨a, 0, l⟩)) := within_any 1 16 HR3.out hs b2b
            refine HC2.mono ?_
            clear HC2
            rintro e w4 ⟨rfl, hr4, hk4⟩
            have hb4 : BoxN w1 w4 (txS s a 0) (st2N s ⟨a, 0, l⟩) 0 := (hk4.block _ (block_lt HB3.out) HNE.out).trans HB3.out
            have bc4 := block_cell hb4 2
            have bf4 := block_free hb4 2
            have bl4 := block_lt hb4
            have HW5 : Hid (∃ W, W = w4.setCell ⟨w1.heap.size, 2, none⟩ (.int .i64 (st3N s nx ⟨a, 0, l⟩)) ∧ BoxN w1 W (txS s a 0) (st2N s ⟨a, 0, l⟩) (st3N s nx ⟨a, 0, l⟩) ∧ RPt w W s nx ⟨st3T s nx ⟨a, 0, l⟩, st3E s nx ⟨a, 0, l⟩, l⟩ v) := by
              refine ⟨_, rfl, setCell_block hb4 2 _, ?_⟩
              have hk9 : Keeps (fun k => k = w.heap.size ∨ k = w1.heap.size) wr (w4.setCell ⟨w1.heap.size, 2, none⟩ (.int .i64 (st3N s nx ⟨a, 0, l⟩))) := ((((HK3.out.setC 1 _ (fun _ => .inr rfl)).trans hk4 (fun _ _ e => .inl e))).setC 2 _ (fun _ => .inr rfl))
              exact HP.out.keep hk9 (fun k e => e.imp id (fun e => by rw [e]; exact HSZ.out)) (Rr.keep hr4 ((Keeps.refl (fun k => k = w1.heap.size) w4).setC 2 _ (fun _ => rfl)) (fun e => HNE.out e.symm))
            clear hr4 hk4 hb4
            go_wp2_with fail
            obtain ⟨W, hW, hbW, hPW⟩ := HW5.out
            rw [← hW]
            clear hW HW5 bc3 bf3 bl3 bc4 bf4 bl4
            have y0 := block_cell hbW 0
            have y1 := block_cell hbW 1
            have y2 := block_cell hbW 2
            have y3 := block_lt hbW
            have z1 : W.cell? ⟨w.heap.size + 1, 1, none⟩ = some v := block_cell hPW.blk 1
            have zl := block_lt hPW.blk
            have zf := block_free hPW.blk 1
            have hown : W.ownsRow (w.heap.size + 2) 46 3 v l.length (l.flatMap encO) := hPW.row
            have hll : l.length ≤ 20 := by omega
            have HPW := Lib.hid hPW
            have hsz := hPW.sz
            clear hbW hPW
            go_region_law (refine step_app1 rfl rfl Try.underlying41 infoOne rfl (by decide) rfl ((hown.alloc _).drew) rfl (heap_new_drew _ _ _ (by simp)) rfl rfl ⟨by omega, by decide⟩ (by simp; omega) ?_; intro g1 cap1 w6 hA; have hg6 := grown_alloc (grown_drew hA.grown); have hb6 := (hg6.block _ (block_lt HPW.out.blk) (fun e => by have := (HPW.out.row.lt _ e.symm).1; omega)).trans HPW.out.blk; have u1 : w6.cell? ⟨w.heap.size + 1, 1, none⟩ = some v := block_cell hb6 1; have u2 := block_free hb6 1; have u3 := block_lt hb6)
            all_goals
              go_wp2
              go_roundw
              case rel => exact ⟨k + 1, pstep s nx ⟨a, 0, l⟩, _, by go_num, by omega, by rw [← HLK.out]; simp [pstep], HF.out, HA.out, HZ2.out, HPW.out.add hg6 (by have h9 := hA.own; rw [hlk] at h9 ⊢; exact h9)⟩
              case measure => simp [intOf]; omega
          · obtain ⟨j, rfl⟩ : ∃ j, k = j + 1 := ⟨k - 1, by omega⟩
            have hj : j < l.length := by omega
            have hlast : lastN l = l[j].1 := by
              have h9 : l = l.take j ++ [l[j]] := by
                have := List.take_succ_eq_append_getElem hj
                rw [← this, List.take_of_length_le (by omega)]
              conv => lhs; rw [h9]
              rw [lastN_app]
            have hrow := hpB.row
            obtain ⟨r, cap, hv, hcap⟩ : ∃ r cap, v = .slice (some ⟨r, 0, none⟩) l.length cap ∧ l.length ≤ cap := by
              rcases hrow.2 with ⟨_, h2⟩ | ⟨r, cp, cur, h1, _, _, h4, _⟩
              · have h2 : l.length = 0 := h2
                omega
              · exact ⟨r, cp, h1, h4⟩
            rw [hv] at t1
            have rc : (w1.alloc (.cells #[.string (txS s a 0), .int .i64 0, .int .i64 0] 46)).cell? ⟨r, j * 3, none⟩ = some (.string l[j].1) := by
              rw [hv] at hrow
              have h9 := hrow.cellAt (j * 3) (by show j * 3 < l.length * 3; omega)
              rw [h9]
              exact flatMap_get encO 3 encO_len l j 0 hj (by omega)
            have rl := World.block_lt_of_cell? _ _ rc
            rw [hlast] at HST0
            have i0 : (0 : Int) ≤ j := by omega
            have i1 : (j : Int) < l.length := by omega
            have i2 : (0 : Int) < ((j + 1 : Nat) : Int) := by omega
            have i3 : IntKind.i64.wrap (((j + 1 : Nat) : Int) - 1) = j := by rw [show ((j + 1 : Nat) : Int) - 1 = (j : Int) by omega]; exact IntWalk.i64_in _ (by omega)
            have HV := Lib.hid hv
            clear hem hk0 hrow hv
            cases hd : bltB l[j].1 (txS s a 0) with
            | true =>
              have HST : Hid (st1E s ⟨a, 0, l⟩ = 0) := by show _ = _; rw [HST0.out, hd]; rfl
              have hd' : Op.bytesLess l[j].1.toList (txS s a 0).toList = true := hd
              clear hd HST0 hlast
              generalize l[j].1 = xx at rc hd'
              have HZ : Hid (∀ q, Rr 73 ((w1.alloc (.cells #[.string (txS s a 0), .int .i64 0, .int .i64 0] 46)).drewN q) w.heap.size s (txT s a 0) (st1E s ⟨a, 0, l⟩)) := fun q => by rw [HST.out]; exact hrB
              have HZB : Hid (∀ q, BoxN w1 ((w1.alloc (.cells #[.string (txS s a 0), .int .i64 0, .int .i64 0] 46)).drewN q) (txS s a 0) 0 0) := fun q => hbB
              have HZK : Hid (∀ q, Keeps (fun k => k = w.heap.size ∨ k = w1.heap.size) wr ((w1.alloc (.cells #[.string (txS s a 0), .int .i64 0, .int .i64 0] 46)).drewN q)) := fun q => HKB.out.drewN q
              have HCW : Hid (∀ q, Calls Try.prog 31 #[.pointer (some ⟨w.heap.size, 0, none⟩), .int .i64 0, .int .i64 (nx - 1)] ((w1.alloc (.cells #[.string (txS s a 0), .int .i64 0, .int .i64 0] 46)).drewN q) (RrP 73 ((w1.alloc (.cells #[.string (txS s a 0), .int .i64 0, .int .i64 0] 46)).drewN q) w.heap.size s (.int .i64 (st2N s ⟨a, 0, l⟩)) (st2T s ⟨a, 0, l⟩) (st2E s nx ⟨a, 0, l⟩))) := fun q => within_any 0 (nx - 1) (HZ.out q) hs b1b
              clear hrB hbB
              go_wp2_with fail
              go_quiet (fail)
              go_wp2_with fail
              refine (HCW.out _).mono ?_
              rintro e w3 ⟨rfl, hr3, hk3⟩
              have HK3 := Lib.hid ((HZK.out _).trans hk3 (fun _ _ e => .inl e))
              have hb3 : BoxN w1 w3 (txS s a 0) 0 0 := (hk3.block _ (block_lt (HZB.out _)) HNE.out).trans (HZB.out _)
              have bc3 := block_cell hb3 1
              have bf3 := block_free hb3 1
              have bl3 := block_lt hb3
              have hb3s : BoxN w1 (w3.setCell ⟨w1.heap.size, 1, none⟩ (.int .i64 (st2N s ⟨a, 0, l⟩))) (txS s a 0) (st2N s ⟨a, 0, l⟩) 0 := setCell_block hb3 1 _
              have hr3s : Rr 73 (w3.setCell ⟨w1.heap.size, 1, none⟩ (.int .i64 (st2N s ⟨a, 0, l⟩))) w.heap.size s (st2T s ⟨a, 0, l⟩) (st2E s nx ⟨a, 0, l⟩) := Rr.keep hr3 ((Keeps.refl (fun k => k = w1.heap.size) w3).setC 1 _ (fun _ => rfl)) (fun e => HNE.out e.symm)
              have HB3 := Lib.hid hb3s
              have HR3 := Lib.hid hr3s
              clear hr3 hk3 hb3 hb3s hr3s
              go_wp2_with fail
              have HC2 : Calls Try.prog 31 #[.pointer (some ⟨w.heap.size, 0, none⟩), .int .i64 1, .int .i64 16] (w3.setCell ⟨w1.heap.size, 1, none⟩ (.int .i64 (st2N s ⟨a, 0, l⟩))) (RrP 73 (w3.setCell ⟨w1.heap.size, 1, none⟩ (.int .i64 (st2N s ⟨a, 0, l⟩))) w.heap.size s (.int .i64 (st3N s nx ⟨a, 0, l⟩)) (st3T s nx ⟨a, 0, l⟩) (st3E s nx ⟨a, 0, l⟩)) := within_any 1 16 HR3.out hs b2b
              refine HC2.mono ?_
              clear HC2
              rintro e w4 ⟨rfl, hr4, hk4⟩
              have hb4 : BoxN w1 w4 (txS s a 0) (st2N s ⟨a, 0, l⟩) 0 := (hk4.block _ (block_lt HB3.out) HNE.out).trans HB3.out
              have bc4 := block_cell hb4 2
              have bf4 := block_free hb4 2
              have bl4 := block_lt hb4
              have HW5 : Hid (∃ W, W = w4.setCell ⟨w1.heap.size, 2, none⟩ (.int .i64 (st3N s nx ⟨a, 0, l⟩)) ∧ BoxN w1 W (txS s a 0) (st2N s ⟨a, 0, l⟩) (st3N s nx ⟨a, 0, l⟩) ∧ RPt w W s nx ⟨st3T s nx ⟨a, 0, l⟩, st3E s nx ⟨a, 0, l⟩, l⟩ v) := by
                refine ⟨_, rfl, setCell_block hb4 2 _, ?_⟩
                have hk9 : Keeps (fun k => k = w.heap.size ∨ k = w1.heap.size) wr (w4.setCell ⟨w1.heap.size, 2, none⟩ (.int .i64 (st3N s nx ⟨a, 0, l⟩))) := ((((HK3.out.setC 1 _ (fun _ => .inr rfl)).trans hk4 (fun _ _ e => .inl e))).setC 2 _ (fun _ => .inr rfl))
                exact HP.out.keep hk9 (fun k e => e.imp id (fun e => by rw [e]; exact HSZ.out)) (Rr.keep hr4 ((Keeps.refl (fun k => k = w1.heap.size) w4).setC 2 _ (fun _ => rfl)) (fun e => HNE.out e.symm))
              clear hr4 hk4 hb4
              go_wp2_with fail
              obtain ⟨W, hW, hbW, hPW⟩ := HW5.out
              rw [← hW]
              clear hW HW5 bc3 bf3 bl3 bc4 bf4 bl4
              have y0 := block_cell hbW 0
              have y1 := block_cell hbW 1
              have y2 := block_cell hbW 2
              have y3 := block_lt hbW
              have z1 : W.cell? ⟨w.heap.size + 1, 1, none⟩ = some v := block_cell hPW.blk 1
              have zl := block_lt hPW.blk
              have zf := block_free hPW.blk 1
              have hown : W.ownsRow (w.heap.size + 2) 46 3 v l.length (l.flatMap encO) := hPW.row
              have hll : l.length ≤ 20 := by omega
              have HPW := Lib.hid hPW
              have hsz := hPW.sz
              clear hbW hPW
              go_region_law (refine step_app1 rfl rfl Try.underlying41 infoOne rfl (by decide) rfl ((hown.alloc _).drew) rfl (heap_new_drew _ _ _ (by simp)) rfl rfl ⟨by omega, by decide⟩ (by simp; omega) ?_; intro g1 cap1 w6 hA; have hg6 := grown_alloc (grown_drew hA.grown); have hb6 := (hg6.block _ (block_lt HPW.out.blk) (fun e => by have := (HPW.out.row.lt _ e.symm).1; omega)).trans HPW.out.blk; have u1 : w6.cell? ⟨w.heap.size + 1, 1, none⟩ = some v := block_cell hb6 1; have u2 := block_free hb6 1; have u3 := block_lt hb6)
              all_goals
                go_wp2
                go_roundw
                case rel => exact ⟨j + 1 + 1, pstep s nx ⟨a, 0, l⟩, _, by go_num, by omega, by rw [← HLK.out]; simp [pstep], HF.out, HA.out, HZ2.out, HPW.out.add hg6 (by have h9 := hA.own; rw [hlk] at h9 ⊢; exact h9)⟩
                case measure => simp [intOf]; omega
            | false =>
              have HST : Hid (st1E s ⟨a, 0, l⟩ = 3) := by show _ = _; rw [HST0.out, hd]; rfl
              have hd' : Op.bytesLess l[j].1.toList (txS s a 0).toList = false := hd
              clear hd HST0 hlast
              generalize l[j].1 = xx at rc hd'
              have HZ : Hid (∀ q, Rr 73 (((w1.alloc (.cells #[.string (txS s a 0), .int .i64 0, .int .i64 0] 46)).drewN q).setCell ⟨w.heap.size, 2, none⟩ (.int .i64 3)) w.heap.size s (txT s a 0) (st1E s ⟨a, 0, l⟩)) := fun q => by rw [HST.out]; exact Rr.set2 (w := (w1.alloc (.cells #[.string (txS s a 0), .int .i64 0, .int .i64 0] 46)).drewN q) hrB 3
              have HZB : Hid (∀ q, BoxN w1 (((w1.alloc (.cells #[.string (txS s a 0), .int .i64 0, .int .i64 0] 46)).drewN q).setCell ⟨w.heap.size, 2, none⟩ (.int .i64 3)) (txS s a 0) 0 0) := fun q => (((Keeps.refl (fun k => k = w.heap.size) ((w1.alloc (.cells #[.string (txS s a 0), .int .i64 0, .int .i64 0] 46)).drewN q)).setC 2 _ (fun _ => rfl)).block _ (block_lt hbB) HNE.out).trans hbB
              have HZK : Hid (∀ q, Keeps (fun k => k = w.heap.size ∨ k = w1.heap.size) wr (((w1.alloc (.cells #[.string (txS s a 0), .int .i64 0, .int .i64 0] 46)).drewN q).setCell ⟨w.heap.size, 2, none⟩ (.int .i64 3))) := fun q => (HKB.out.drewN q).setC 2 _ (fun _ => .inl rfl)
              have HCW : Hid (∀ q, Calls Try.prog 31 #[.pointer (some ⟨w.heap.size, 0, none⟩), .int .i64 0, .int .i64 (nx - 1)] (((w1.alloc (.cells #[.string (txS s a 0), .int .i64 0, .int .i64 0] 46)).drewN q).setCell ⟨w.heap.size, 2, none⟩ (.int .i64 3)) (RrP 73 (((w1.alloc (.cells #[.string (txS s a 0), .int .i64 0, .int .i64 0] 46)).drewN q).setCell ⟨w.heap.size, 2, none⟩ (.int .i64 3)) w.heap.size s (.int .i64 (st2N s ⟨a, 0, l⟩)) (st2T s ⟨a, 0, l⟩) (st2E s nx ⟨a, 0, l⟩))) := fun q => within_any 0 (nx - 1) (HZ.out q) hs b1b
              clear hrB hbB
              go_wp2_with fail
              go_quiet (fail)
              go_wp2_with fail
              refine (HCW.out _).mono ?_
              rintro e w3 ⟨rfl, hr3, hk3⟩
              have HK3 := Lib.hid ((HZK.out _).trans hk3 (fun _ _ e => .inl e))
              have hb3 : BoxN w1 w3 (txS s a 0) 0 0 := (hk3.block _ (block_lt (HZB.out _)) HNE.out).trans (HZB.out _)
              have bc3 := block_cell hb3 1
              have bf3 := block_free hb3 1
              have bl3 := block_lt hb3
              have hb3s : BoxN w1 (w3.setCell ⟨w1.heap.size, 1, none⟩ (.int .i64 (st2N s ⟨a, 0, l⟩))) (txS s a 0) (st2N s ⟨a, 0, l⟩) 0 := setCell_block hb3 1 _
              have hr3s : Rr 73 (w3.setCell ⟨w1.heap.size, 1, none⟩ (.int .i64 (st2N s ⟨a, 0, l⟩))) w.heap.size s (st2T s ⟨a, 0, l⟩) (st2E s nx ⟨a, 0, l⟩) := Rr.keep hr3 ((Keeps.refl (fun k => k = w1.heap.size) w3).setC 1 _ (fun _ => rfl)) (fun e => HNE.out e.symm)
              have HB3 := Lib.hid hb3s
              have HR3 := Lib.hid hr3s
              clear hr3 hk3 hb3 hb3s hr3s
              go_wp2_with fail
              have HC2 : Calls Try.prog 31 #[.pointer (some ⟨w.heap.size, 0, none⟩), .int .i64 1, .int .i64 16] (w3.setCell ⟨w1.heap.size, 1, none⟩ (.int .i64 (st2N s ⟨a, 0, l⟩))) (RrP 73 (w3.setCell ⟨w1.heap.size, 1, none⟩ (.int .i64 (st2N s ⟨a, 0, l⟩))) w.heap.size s (.int .i64 (st3N s nx ⟨a, 0, l⟩)) (st3T s nx ⟨a, 0, l⟩) (st3E s nx ⟨a, 0, l⟩)) := within_any 1 16 HR3.out hs b2b
              refine HC2.mono ?_
              clear HC2
              rintro e w4 ⟨rfl, hr4, hk4⟩
              have hb4 : BoxN w1 w4 (txS s a 0) (st2N s ⟨a, 0, l⟩) 0 := (hk4.block _ (block_lt HB3.out) HNE.out).trans HB3.out
              have bc4 := block_cell hb4 2
              have bf4 := block_free hb4 2
              have bl4 := block_lt hb4
              have HW5 : Hid (∃ W, W = w4.setCell ⟨w1.heap.size, 2, none⟩ (.int .i64 (st3N s nx ⟨a, 0, l⟩)) ∧ BoxN w1 W (txS s a 0) (st2N s ⟨a, 0, l⟩) (st3N s nx ⟨a, 0, l⟩) ∧ RPt w W s nx ⟨st3T s nx ⟨a, 0, l⟩, st3E s nx ⟨a, 0, l⟩, l⟩ v) := by
                refine ⟨_, rfl, setCell_block hb4 2 _, ?_⟩
                have hk9 : Keeps (fun k => k = w.heap.size ∨ k = w1.heap.size) wr (w4.setCell ⟨w1.heap.size, 2, none⟩ (.int .i64 (st3N s nx ⟨a, 0, l⟩))) := ((((HK3.out.setC 1 _ (fun _ => .inr rfl)).trans hk4 (fun _ _ e => .inl e))).setC 2 _ (fun _ => .inr rfl))
                exact HP.out.keep hk9 (fun k e => e.imp id (fun e => by rw [e]; exact HSZ.out)) (Rr.keep hr4 ((Keeps.refl (fun k => k = w1.heap.size) w4).setC 2 _ (fun _ => rfl)) (fun e => HNE.out e.symm))
              clear hr4 hk4 hb4
              go_wp2_with fail
              obtain ⟨W, hW, hbW, hPW⟩ := HW5.out
              rw [← hW]
              clear hW HW5 bc3 bf3 bl3 bc4 bf4 bl4
              have y0 := block_cell hbW 0
              have y1 := block_cell hbW 1
              have y2 := block_cell hbW 2
              have y3 := block_lt hbW
              have z1 : W.cell? ⟨w.heap.size + 1, 1, none⟩ = some v := block_cell hPW.blk 1
              have zl := block_lt hPW.blk
              have zf := block_free hPW.blk 1
              have hown : W.ownsRow (w.heap.size + 2) 46 3 v l.length (l.flatMap encO) := hPW.row
              have hll : l.length ≤ 20 := by omega
              have HPW := Lib.hid hPW
              have hsz := hPW.sz
              clear hbW hPW
              go_region_law (refine step_app1 rfl rfl Try.underlying41 infoOne rfl (by decide) rfl ((hown.alloc _).drew) rfl (heap_new_drew _ _ _ (by simp)) rfl rfl ⟨by omega, by decide⟩ (by simp; omega) ?_; intro g1 cap1 w6 hA; have hg6 := grown_alloc (grown_drew hA.grown); have hb6 := (hg6.block _ (block_lt HPW.out.blk) (fun e => by have := (HPW.out.row.lt _ e.symm).1; omega)).trans HPW.out.blk; have u1 : w6.cell? ⟨w.heap.size + 1, 1, none⟩ = some v := block_cell hb6 1; have u2 := block_free hb6 1; have u3 := block_lt hb6)
              all_goals
                go_wp2
                go_roundw
                case rel => exact ⟨j + 1 + 1, pstep s nx ⟨a, 0, l⟩, _, by go_num, by omega, by rw [← HLK.out]; simp [pstep], HF.out, HA.out, HZ2.out, HPW.out.add hg6 (by have h9 := hA.own; rw [hlk] at h9 ⊢; exact h9)⟩
                case measure => simp [intOf]; omega
      · have HST : Hid (st1E s ⟨a, 0, l⟩ = txE s a 0) := by
          show wE (txE s a 0) _ = _
          unfold wE
          rw [if_neg he1]
        have he2 : (txE s a 0 == 0) = false := by rw [beq_eq_false_iff_ne]; exact he1
        clear he1
        have HZ : Hid (∀ q, Rr 73 ((w1.alloc (.cells #[.string (txS s a 0), .int .i64 0, .int .i64 0] 46)).drewN q) w.heap.size s (txT s a 0) (st1E s ⟨a, 0, l⟩)) := fun q => by rw [HST.out]; exact hrB
        have HZB : Hid (∀ q, BoxN w1 ((w1.alloc (.cells #[.string (txS s a 0), .int .i64 0, .int .i64 0] 46)).drewN q) (txS s a 0) 0 0) := fun q => hbB
        have HZK : Hid (∀ q, Keeps (fun k => k = w.heap.size ∨ k = w1.heap.size) wr ((w1.alloc (.cells #[.string (txS s a 0), .int .i64 0, .int .i64 0] 46)).drewN q)) := fun q => HKB.out.drewN q
        have HCW : Hid (∀ q, Calls Try.prog 31 #[.pointer (some ⟨w.heap.size, 0, none⟩), .int .i64 0, .int .i64 (nx - 1)] ((w1.alloc (.cells #[.string (txS s a 0), .int .i64 0, .int .i64 0] 46)).drewN q) (RrP 73 ((w1.alloc (.cells #[.string (txS s a 0), .int .i64 0, .int .i64 0] 46)).drewN q) w.heap.size s (.int .i64 (st2N s ⟨a, 0, l⟩)) (st2T s ⟨a, 0, l⟩) (st2E s nx ⟨a, 0, l⟩))) := fun q => within_any 0 (nx - 1) (HZ.out q) hs b1b
        clear hrB hbB
        go_wp2_with fail
        go_quiet (fail)
        go_wp2_with fail
        refine (HCW.out _).mono ?_
        rintro e w3 ⟨rfl, hr3, hk3⟩
        have HK3 := Lib.hid ((HZK.out _).trans hk3 (fun _ _ e => .inl e))
        have hb3 : BoxN w1 w3 (txS s a 0) 0 0 := (hk3.block _ (block_lt (HZB.out _)) HNE.out).trans (HZB.out _)
        have bc3 := block_cell hb3 1
        have bf3 := block_free hb3 1
        have bl3 := block_lt hb3
        have hb3s : BoxN w1 (w3.setCell ⟨w1.heap.size, 1, none⟩ (.int .i64 (st2N s ⟨a, 0, l⟩))) (txS s a 0) (st2N s ⟨a, 0, l⟩) 0 := setCell_block hb3 1 _
        have hr3s : Rr 73 (w3.setCell ⟨w1.heap.size, 1, none⟩ (.int .i64 (st2N s ⟨a, 0, l⟩))) w.heap.size s (st2T s ⟨a, 0, l⟩) (st2E s nx ⟨a, 0, l⟩) := Rr.keep hr3 ((Keeps.refl (fun k => k = w1.heap.size) w3).setC 1 _ (fun _ => rfl)) (fun e => HNE.out e.symm)
        have HB3 := Lib.hid hb3s
        have HR3 := Lib.hid hr3s
        clear hr3 hk3 hb3 hb3s hr3s
        go_wp2_with fail
        have HC2 : Calls Try.prog 31 #[.pointer (some ⟨w.heap.size, 0, none⟩), .int .i64 1, .int .i64 16] (w3.setCell ⟨w1.heap.size, 1, none⟩ (.int .i64 (st2N s ⟨a, 0, l⟩))) (RrP 73 (w3.setCell ⟨w1.heap.size, 1, none⟩ (.int .i64 (st2N s ⟨a, 0, l⟩))) w.heap.size s (.int .i64 (st3N s nx ⟨a, 0, l⟩)) (st3T s nx ⟨a, 0, l⟩) (st3E s nx ⟨a, 0, l⟩)) := within_any 1 16 HR3.out hs b2b
        refine HC2.mono ?_
        clear HC2
        rintro e w4 ⟨rfl, hr4, hk4⟩
        have hb4 : BoxN w1 w4 (txS s a 0) (st2N s ⟨a, 0, l⟩) 0 := (hk4.block _ (block_lt HB3.out) HNE.out).trans HB3.out
        have bc4 := block_cell hb4 2
        have bf4 := block_free hb4 2
        have bl4 := block_lt hb4
        have HW5 : Hid (∃ W, W = w4.setCell ⟨w1.heap.size, 2, none⟩ (.int .i64 (st3N s nx ⟨a, 0, l⟩)) ∧ BoxN w1 W (txS s a 0) (st2N s ⟨a, 0, l⟩) (st3N s nx ⟨a, 0, l⟩) ∧ RPt w W s nx ⟨st3T s nx ⟨a, 0, l⟩, st3E s nx ⟨a, 0, l⟩, l⟩ v) := by
          refine ⟨_, rfl, setCell_block hb4 2 _, ?_⟩
          have hk9 : Keeps (fun k => k = w.heap.size ∨ k = w1.heap.size) wr (w4.setCell ⟨w1.heap.size, 2, none⟩ (.int .i64 (st3N s nx ⟨a, 0, l⟩))) := ((((HK3.out.setC 1 _ (fun _ => .inr rfl)).trans hk4 (fun _ _ e => .inl e))).setC 2 _ (fun _ => .inr rfl))
          exact HP.out.keep hk9 (fun k e => e.imp id (fun e => by rw [e]; exact HSZ.out)) (Rr.keep hr4 ((Keeps.refl (fun k => k = w1.heap.size) w4).setC 2 _ (fun _ => rfl)) (fun e => HNE.out e.symm))
        clear hr4 hk4 hb4
        go_wp2_with fail
        obtain ⟨W, hW, hbW, hPW⟩ := HW5.out
        rw [← hW]
        clear hW HW5 bc3 bf3 bl3 bc4 bf4 bl4
        have y0 := block_cell hbW 0
        have y1 := block_cell hbW 1
        have y2 := block_cell hbW 2
        have y3 := block_lt hbW
        have z1 : W.cell? ⟨w.heap.size + 1, 1, none⟩ = some v := block_cell hPW.blk 1
        have zl := block_lt hPW.blk
        have zf := block_free hPW.blk 1
        have hown : W.ownsRow (w.heap.size + 2) 46 3 v l.length (l.flatMap encO) := hPW.row
        have hll : l.length ≤ 20 := by omega
        have HPW := Lib.hid hPW
        have hsz := hPW.sz
        clear hbW hPW
        go_region_law (refine step_app1 rfl rfl Try.underlying41 infoOne rfl (by decide) rfl ((hown.alloc _).drew) rfl (heap_new_drew _ _ _ (by simp)) rfl rfl ⟨by omega, by decide⟩ (by simp; omega) ?_; intro g1 cap1 w6 hA; have hg6 := grown_alloc (grown_drew hA.grown); have hb6 := (hg6.block _ (block_lt HPW.out.blk) (fun e => by have := (HPW.out.row.lt _ e.symm).1; omega)).trans HPW.out.blk; have u1 : w6.cell? ⟨w.heap.size + 1, 1, none⟩ = some v := block_cell hb6 1; have u2 := block_free hb6 1; have u3 := block_lt hb6)
        all_goals
          go_wp2
          go_roundw
          case rel => exact ⟨k + 1, pstep s nx ⟨a, 0, l⟩, _, by go_num, by omega, by rw [← HLK.out]; simp [pstep], HF.out, HA.out, HZ2.out, HPW.out.add hg6 (by have h9 := hA.own; rw [hlk] at h9 ⊢; exact h9)⟩
          case measure => simp [intOf]; omega
      
    · have hEND : prun s nx (n.toNat - k) p = p := by
        by_cases he : p.e = 0
        · have : n.toNat - k = 0 := by omega
          rw [this]; rfl
        · exact prun_stop s nx _ he
      have HFF : Hid (F = p) := by
        show F = p
        rw [← hF, hEND]
      have HEN : Hid (p.e = 0 → (p.l.length : Int) = n) := fun he => by
        have h1 := hzz he
        have h2 : ¬ (k : Int) < n := fun h => hgo ⟨h, he⟩
        omega
      by_cases hkn : (k : Int) < n
      · have he : (p.e == 0) = false := by rw [beq_eq_false_iff_ne]; exact fun h => hgo ⟨hkn, h⟩
        clear hgo hzz hp ha hF hEND hlk
        obtain ⟨a, e, l⟩ := p
        have hrd : Rr 73 wr w.heap.size s a e := HP.out.rd
        obtain ⟨r0, r1, r2, r3, r4, r5⟩ := hrd.all
        have t1 : wr.cell? ⟨w.heap.size + 1, 1, none⟩ = some v := block_cell HP.out.blk 1
        have tl := block_lt HP.out.blk
        have HEN : Hid (e = 0 → (l.length : Int) = n) := HEN.out
        have HFF : Hid (F = ⟨a, e, l⟩) := HFF.out
        have HPP : Hid (RPt w wr s nx ⟨a, e, l⟩ v) := HP.out
        have HQE : Hid (paE s = wE (wE e (decide (a = s.size))) (uniq l l.length 0)) := by
          show _ = _
          rw [HPE.out, HFF.out, uniq_all l a e n s.size HEN.out]
        clear hrd HP
        have HPX : Hid (RPt w wr s nx ⟨a, e, l⟩ v) := HPP.out
        have hw : wE e (decide (a = s.size)) = e := by unfold wE; rw [if_neg (by intro h; rw [h] at he; simp at he)]
        rw [hw] at HQE
        clear hw
        have hmx : l.length ≤ 9223372036854775807 := by
          rcases HPX.out.row.2 with ⟨_, h2⟩ | ⟨g, cp, cur, _, _, _, h4, h5, _⟩
          · have h2 : l.length = 0 := h2
            omega
          · unfold maxLen at h5
            have h4 : l.length ≤ cp := h4
            omega
        obtain ⟨va, vc, rfl⟩ := own_slice HPX.out.row
        have t1 : wr.cell? ⟨w.heap.size + 1, 1, none⟩ = some (.slice va l.length vc) := block_cell HPX.out.blk 1
        go_wp2
        go_loopw [9] (fun i wy => ∃ q : Nat, i = .int .i64 q ∧ q ≤ l.length ∧ RPt w wy s nx ⟨a, wE e (uniq l q 0), l⟩ (.slice va l.length vc)) (fun i _ => l.length - (intOf i).toNat)
        case atStart => exact ⟨0, rfl, Nat.zero_le _, by rw [uniq_none, wE_true]; exact HPX.out⟩
        case round =>
          obtain ⟨q, rfl, hq, hpy⟩ := hrel
          have HPY := Lib.hid hpy
          have y1 : wr.cell? ⟨w.heap.size + 1, 1, none⟩ = some (.slice va l.length vc) := block_cell hpy.blk 1
          have yl := block_lt hpy.blk
          obtain ⟨r0, r1, r2, r3, r4, r5⟩ := hpy.rd.all
          clear hpy
          by_cases hlt : q < l.length
          · go_wp2
            go_loopw [10] (fun i wz => ∃ r : Nat, i = .int .i64 r ∧ r ≤ q ∧ RPt w wz s nx ⟨a, wE e (uniq l q r), l⟩ (.slice va l.length vc)) (fun i _ => q - (intOf i).toNat)
            case atStart => exact ⟨0, rfl, Nat.zero_le _, HPY.out⟩
            case round =>
              obtain ⟨r, rfl, hr, hpz⟩ := hrel
              have HPZ := Lib.hid hpz
              have z1 : wr.cell? ⟨w.heap.size + 1, 1, none⟩ = some (.slice va l.length vc) := block_cell hpz.blk 1
              have zl := block_lt hpz.blk
              by_cases hrq : r < q
              · have hrl : r < l.length := by omega
                have HRQ := Lib.hid hrq
                have hrow := hpz.row
                have hk1 : ∀ nq, RPt w (wr.drewN nq) s nx ⟨a, wE e (uniq l q r), l⟩ (.slice va l.length vc) := fun nq => HPZ.out.keep (S := fun _ => False) ((Keeps.refl _ _).drewN nq) (fun _ e => e.elim) (Rr.keep (S := fun _ => False) HPZ.out.rd ((Keeps.refl _ _).drewN nq) (fun e => e))
                have HK1 := Lib.hid hk1
                obtain ⟨g, rfl⟩ : ∃ g, va = some ⟨g, 0, none⟩ := by
                  rcases hrow.2 with ⟨_, h2⟩ | ⟨g, cp, cur, h1, _⟩
                  · have h2 : l.length = 0 := h2
                    omega
                  · simp only [Value.slice.injEq] at h1
                    exact ⟨g, h1.1⟩
                have cq : wr.cell? ⟨g, q * 3 + 1, none⟩ = some (.int .i64 l[q].2.1) := by
                  rw [hrow.cellAt (q * 3 + 1) (by show _ < l.length * 3; omega)]
                  exact flatMap_get encO 3 encO_len l q 1 hlt (by omega)
                have cr : wr.cell? ⟨g, r * 3 + 1, none⟩ = some (.int .i64 l[r].2.1) := by
                  rw [hrow.cellAt (r * 3 + 1) (by show _ < l.length * 3; omega)]
                  exact flatMap_get encO 3 encO_len l r 1 hrl (by omega)
                have gl := World.block_lt_of_cell? _ _ cq
                obtain ⟨k0, k1, k2, k3, k4, k5⟩ := hpz.rd.all
                have HUN : Hid (wE e (uniq l q (r + 1)) = wE (wE e (uniq l q r)) (l[r].2.1 != l[q].2.1)) := by show _ = _; rw [uniq_next q hrl, idAt_get hlt, wE_and]
                have i0 : (0 : Int) ≤ q := by omega
                have i1 : (q : Int) < l.length := by omega
                have i2 : (0 : Int) ≤ r := by omega
                have i3 : (r : Int) < l.length := by omega
                clear hpz hrow hk1
                generalize l[q].2.1 = xq at cq HUN
                generalize l[r].2.1 = xr at cr HUN
                generalize hcur : wE e (uniq l q r) = cur at HK1 HUN k2
                clear hcur
                by_cases hc : cur = 0
                · by_cases hid : xq = xr
                  · have hid1 : (xq == xr) = true := by simp [hid]
                    have hc1 : (cur == 0) = true := by simp [hc]
                    have HU3 : Hid (wE e (uniq l q (r + 1)) = 3) := by show _ = _; rw [HUN.out, hc, hid]; simp [wE]
                    clear HUN
                    subst hc
                    go_wp2_with fail
                    go_quiet (fail)
                    go_wp2
                    go_roundw
                    case rel => exact ⟨r + 1, by go_num, Nat.succ_le_of_lt HRQ.out, by rw [HU3.out]; exact (HK1.out _).keep (S := fun k => k = w.heap.size) ((Keeps.refl _ _).setC 2 _ (fun _ => rfl)) (fun k e => .inl e) (Rr.set2 (HK1.out _).rd 3)⟩
                    case measure => have := HRQ.out; simp [intOf]; omega
                  · have hid1 : (xq == xr) = false := by rw [beq_eq_false_iff_ne]; exact hid
                    have HU3 : Hid (wE e (uniq l q (r + 1)) = 0) := by show _ = _; rw [HUN.out, hc, show (xr != xq) = true by simpa using fun e => hid e.symm]; rfl
                    clear HUN
                    subst hc
                    go_wp2_with fail
                    go_quiet (fail)
                    go_wp2
                    go_roundw
                    case rel => exact ⟨r + 1, by go_num, Nat.succ_le_of_lt HRQ.out, by rw [HU3.out]; exact HK1.out _⟩
                    case measure => have := HRQ.out; simp [intOf]; omega
                · have hc1 : (cur == 0) = false := by rw [beq_eq_false_iff_ne]; exact hc
                  have HU3 : Hid (wE e (uniq l q (r + 1)) = cur) := by show _ = _; rw [HUN.out]; unfold wE; rw [if_neg hc]
                  clear HUN
                  go_wp2_with fail
                  go_quiet (fail)
                  go_wp2
                  go_roundw
                  case rel => exact ⟨r + 1, by go_num, Nat.succ_le_of_lt HRQ.out, by rw [HU3.out]; exact HK1.out _⟩
                  case measure => have := HRQ.out; simp [intOf]; omega
              · obtain rfl : r = q := by omega
                go_wp2
                go_roundw
                case rel => exact ⟨r + 1, by go_num, hlt, by rw [← uniq_done hlt]; exact HPZ.out⟩
                case measure => simp [intOf]; omega
          · obtain rfl : q = l.length := by omega
            clear hlt hq
            generalize hxx : wE e (uniq l l.length 0) = x at HPY r2
            rw [hxx] at HQE
            clear hxx
            by_cases hz : x = 0
            · subst hz
              go_wp2
              go_ret2
              have hf : ⟨paX s, (paF s).l⟩ = (⟨nx, l⟩ : Tbl) := by rw [HNX.out, HFF2.out, HFF.out]
              refine .inr ⟨HQE.out, w.heap.size + 1, (fun k => k = w.heap.size + 1 ∨ (Value.slice va l.length vc).ownBlock = some k), rfl, ?_, ?_, HPY.out.k0⟩
              · rw [hf]
                refine ⟨_, HPY.out.blk, own_base HPY.out.row (Nat.zero_le _), .inl rfl, fun k e => ?_, fun k e => ⟨.inr e, ?_⟩⟩
                · rcases e with e | e
                  · rw [e]; exact block_lt HPY.out.blk
                  · exact (HPY.out.row.lt k e).2
                · have := (HPY.out.row.lt k e).1
                  omega
              · intro k e
                rcases e with e | e
                · omega
                · have := (HPY.out.row.lt k e).1
                  omega
            · have hz1 : (x == 0) = false := by rw [beq_eq_false_iff_ne]; exact hz
              have HZN := Lib.hid hz
              clear hz
              go_wp2
              go_quiet (fail)
              go_wp2
              go_ret2
              exact .inl ⟨by rw [HQE.out]; exact HZN.out, by rw [HQE.out]; rfl, HPY.out.k0.drewN _⟩
      · clear hgo hzz hp ha hF hEND hlk
        obtain ⟨a, e, l⟩ := p
        have hrd : Rr 73 wr w.heap.size s a e := HP.out.rd
        obtain ⟨r0, r1, r2, r3, r4, r5⟩ := hrd.all
        have t1 : wr.cell? ⟨w.heap.size + 1, 1, none⟩ = some v := block_cell HP.out.blk 1
        have tl := block_lt HP.out.blk
        have HEN : Hid (e = 0 → (l.length : Int) = n) := HEN.out
        have HFF : Hid (F = ⟨a, e, l⟩) := HFF.out
        have HPP : Hid (RPt w wr s nx ⟨a, e, l⟩ v) := HP.out
        have HQE : Hid (paE s = wE (wE e (decide (a = s.size))) (uniq l l.length 0)) := by
          show _ = _
          rw [HPE.out, HFF.out, uniq_all l a e n s.size HEN.out]
        clear hrd HP
        by_cases he0 : e = 0
        · by_cases has : a = s.size
          · have HPX : Hid (RPt w wr s nx ⟨a, e, l⟩ v) := HPP.out
            have hw : wE e (decide (a = s.size)) = e := by rw [he0, has]; simp [wE]
            rw [hw] at HQE
            have he : (e == 0) = true := by simp [he0]
            have ha1 : (a == (s.size : Int)) = true := by simp [has]
            clear hw he0 has
            have hmx : l.length ≤ 9223372036854775807 := by
              rcases HPX.out.row.2 with ⟨_, h2⟩ | ⟨g, cp, cur, _, _, _, h4, h5, _⟩
              · have h2 : l.length = 0 := h2
                omega
              · unfold maxLen at h5
                have h4 : l.length ≤ cp := h4
                omega
            obtain ⟨va, vc, rfl⟩ := own_slice HPX.out.row
            have t1 : wr.cell? ⟨w.heap.size + 1, 1, none⟩ = some (.slice va l.length vc) := block_cell HPX.out.blk 1
            go_wp2
            go_loopw [9] (fun i wy => ∃ q : Nat, i = .int .i64 q ∧ q ≤ l.length ∧ RPt w wy s nx ⟨a, wE e (uniq l q 0), l⟩ (.slice va l.length vc)) (fun i _ => l.length - (intOf i).toNat)
            case atStart => exact ⟨0, rfl, Nat.zero_le _, by rw [uniq_none, wE_true]; exact HPX.out⟩
            case round =>
              obtain ⟨q, rfl, hq, hpy⟩ := hrel
              have HPY := Lib.hid hpy
              have y1 : wr.cell? ⟨w.heap.size + 1, 1, none⟩ = some (.slice va l.length vc) := block_cell hpy.blk 1
              have yl := block_lt hpy.blk
              obtain ⟨r0, r1, r2, r3, r4, r5⟩ := hpy.rd.all
              clear hpy
              by_cases hlt : q < l.length
              · go_wp2
                go_loopw [10] (fun i wz => ∃ r : Nat, i = .int .i64 r ∧ r ≤ q ∧ RPt w wz s nx ⟨a, wE e (uniq l q r), l⟩ (.slice va l.length vc)) (fun i _ => q - (intOf i).toNat)
                case atStart => exact ⟨0, rfl, Nat.zero_le _, HPY.out⟩
                case round =>
                  obtain ⟨r, rfl, hr, hpz⟩ := hrel
                  have HPZ := Lib.hid hpz
                  have z1 : wr.cell? ⟨w.heap.size + 1, 1, none⟩ = some (.slice va l.length vc) := block_cell hpz.blk 1
                  have zl := block_lt hpz.blk
                  by_cases hrq : r < q
                  · have hrl : r < l.length := by omega
                    have HRQ := Lib.hid hrq
                    have hrow := hpz.row
                    have hk1 : ∀ nq, RPt w (wr.drewN nq) s nx ⟨a, wE e (uniq l q r), l⟩ (.slice va l.length vc) := fun nq => HPZ.out.keep (S := fun _ => False) ((Keeps.refl _ _).drewN nq) (fun _ e => e.elim) (Rr.keep (S := fun _ => False) HPZ.out.rd ((Keeps.refl _ _).drewN nq) (fun e => e))
                    have HK1 := Lib.hid hk1
                    obtain ⟨g, rfl⟩ : ∃ g, va = some ⟨g, 0, none⟩ := by
                      rcases hrow.2 with ⟨_, h2⟩ | ⟨g, cp, cur, h1, _⟩
                      · have h2 : l.length = 0 := h2
                        omega
                      · simp only [Value.slice.injEq] at h1
                        exact ⟨g, h1.1⟩
                    have cq : wr.cell? ⟨g, q * 3 + 1, none⟩ = some (.int .i64 l[q].2.1) := by
                      rw [hrow.cellAt (q * 3 + 1) (by show _ < l.length * 3; omega)]
                      exact flatMap_get encO 3 encO_len l q 1 hlt (by omega)
                    have cr : wr.cell? ⟨g, r * 3 + 1, none⟩ = some (.int .i64 l[r].2.1) := by
                      rw [hrow.cellAt (r * 3 + 1) (by show _ < l.length * 3; omega)]
                      exact flatMap_get encO 3 encO_len l r 1 hrl (by omega)
                    have gl := World.block_lt_of_cell? _ _ cq
                    obtain ⟨k0, k1, k2, k3, k4, k5⟩ := hpz.rd.all
                    have HUN : Hid (wE e (uniq l q (r + 1)) = wE (wE e (uniq l q r)) (l[r].2.1 != l[q].2.1)) := by show _ = _; rw [uniq_next q hrl, idAt_get hlt, wE_and]
                    have i0 : (0 : Int) ≤ q := by omega
                    have i1 : (q : Int) < l.length := by omega
                    have i2 : (0 : Int) ≤ r := by omega
                    have i3 : (r : Int) < l.length := by omega
                    clear hpz hrow hk1
                    generalize l[q].2.1 = xq at cq HUN
                    generalize l[r].2.1 = xr at cr HUN
                    generalize hcur : wE e (uniq l q r) = cur at HK1 HUN k2
                    clear hcur
                    by_cases hc : cur = 0
                    · by_cases hid : xq = xr
                      · have hid1 : (xq == xr) = true := by simp [hid]
                        have hc1 : (cur == 0) = true := by simp [hc]
                        have HU3 : Hid (wE e (uniq l q (r + 1)) = 3) := by show _ = _; rw [HUN.out, hc, hid]; simp [wE]
                        clear HUN
                        subst hc
                        go_wp2_with fail
                        go_quiet (fail)
                        go_wp2
                        go_roundw
                        case rel => exact ⟨r + 1, by go_num, Nat.succ_le_of_lt HRQ.out, by rw [HU3.out]; exact (HK1.out _).keep (S := fun k => k = w.heap.size) ((Keeps.refl _ _).setC 2 _ (fun _ => rfl)) (fun k e => .inl e) (Rr.set2 (HK1.out _).rd 3)⟩
                        case measure => have := HRQ.out; simp [intOf]; omega
                      · have hid1 : (xq == xr) = false := by rw [beq_eq_false_iff_ne]; exact hid
                        have HU3 : Hid (wE e (uniq l q (r + 1)) = 0) := by show _ = _; rw [HUN.out, hc, show (xr != xq) = true by simpa using fun e => hid e.symm]; rfl
                        clear HUN
                        subst hc
                        go_wp2_with fail
                        go_quiet (fail)
                        go_wp2
                        go_roundw
                        case rel => exact ⟨r + 1, by go_num, Nat.succ_le_of_lt HRQ.out, by rw [HU3.out]; exact HK1.out _⟩
                        case measure => have := HRQ.out; simp [intOf]; omega
                    · have hc1 : (cur == 0) = false := by rw [beq_eq_false_iff_ne]; exact hc
                      have HU3 : Hid (wE e (uniq l q (r + 1)) = cur) := by show _ = _; rw [HUN.out]; unfold wE; rw [if_neg hc]
                      clear HUN
                      go_wp2_with fail
                      go_quiet (fail)
                      go_wp2
                      go_roundw
                      case rel => exact ⟨r + 1, by go_num, Nat.succ_le_of_lt HRQ.out, by rw [HU3.out]; exact HK1.out _⟩
                      case measure => have := HRQ.out; simp [intOf]; omega
                  · obtain rfl : r = q := by omega
                    go_wp2
                    go_roundw
                    case rel => exact ⟨r + 1, by go_num, hlt, by rw [← uniq_done hlt]; exact HPZ.out⟩
                    case measure => simp [intOf]; omega
              · obtain rfl : q = l.length := by omega
                clear hlt hq
                generalize hxx : wE e (uniq l l.length 0) = x at HPY r2
                rw [hxx] at HQE
                clear hxx
                by_cases hz : x = 0
                · subst hz
                  go_wp2
                  go_ret2
                  have hf : ⟨paX s, (paF s).l⟩ = (⟨nx, l⟩ : Tbl) := by rw [HNX.out, HFF2.out, HFF.out]
                  refine .inr ⟨HQE.out, w.heap.size + 1, (fun k => k = w.heap.size + 1 ∨ (Value.slice va l.length vc).ownBlock = some k), rfl, ?_, ?_, HPY.out.k0⟩
                  · rw [hf]
                    refine ⟨_, HPY.out.blk, own_base HPY.out.row (Nat.zero_le _), .inl rfl, fun k e => ?_, fun k e => ⟨.inr e, ?_⟩⟩
                    · rcases e with e | e
                      · rw [e]; exact block_lt HPY.out.blk
                      · exact (HPY.out.row.lt k e).2
                    · have := (HPY.out.row.lt k e).1
                      omega
                  · intro k e
                    rcases e with e | e
                    · omega
                    · have := (HPY.out.row.lt k e).1
                      omega
                · have hz1 : (x == 0) = false := by rw [beq_eq_false_iff_ne]; exact hz
                  have HZN := Lib.hid hz
                  clear hz
                  go_wp2
                  go_quiet (fail)
                  go_wp2
                  go_ret2
                  exact .inl ⟨by rw [HQE.out]; exact HZN.out, by rw [HQE.out]; rfl, HPY.out.k0.drewN _⟩
          · have HPX : Hid (RPt w (wr.setCell ⟨w.heap.size, 2, none⟩ (.int .i64 3)) s nx ⟨a, 3, l⟩ v) := HPP.out.keep (S := fun k => k = w.heap.size) ((Keeps.refl _ _).setC 2 _ (fun _ => rfl)) (fun k e => .inl e) (Rr.set2 HPP.out.rd 3)
            have hw : wE e (decide (a = s.size)) = 3 := by rw [he0, decide_eq_false has]; simp [wE]
            rw [hw] at HQE
            have he : (e == 0) = true := by simp [he0]
            have ha1 : (a == (s.size : Int)) = false := by rw [beq_eq_false_iff_ne]; exact has
            clear hw he0 has
            have hmx : l.length ≤ 9223372036854775807 := by
              rcases HPX.out.row.2 with ⟨_, h2⟩ | ⟨g, cp, cur, _, _, _, h4, h5, _⟩
              · have h2 : l.length = 0 := h2
                omega
              · unfold maxLen at h5
                have h4 : l.length ≤ cp := h4
                omega
            obtain ⟨va, vc, rfl⟩ := own_slice HPX.out.row
            have t1 : (wr.setCell ⟨w.heap.size, 2, none⟩ (.int .i64 3)).cell? ⟨w.heap.size + 1, 1, none⟩ = some (.slice va l.length vc) := block_cell HPX.out.blk 1
            go_wp2
            go_loopw [9] (fun i wy => ∃ q : Nat, i = .int .i64 q ∧ q ≤ l.length ∧ RPt w wy s nx ⟨a, wE 3 (uniq l q 0), l⟩ (.slice va l.length vc)) (fun i _ => l.length - (intOf i).toNat)
            case atStart => exact ⟨0, rfl, Nat.zero_le _, by rw [uniq_none, wE_true]; exact HPX.out⟩
            case round =>
              obtain ⟨q, rfl, hq, hpy⟩ := hrel
              have HPY := Lib.hid hpy
              have y1 : wr.cell? ⟨w.heap.size + 1, 1, none⟩ = some (.slice va l.length vc) := block_cell hpy.blk 1
              have yl := block_lt hpy.blk
              obtain ⟨r0, r1, r2, r3, r4, r5⟩ := hpy.rd.all
              clear hpy
              by_cases hlt : q < l.length
              · go_wp2
                go_loopw [10] (fun i wz => ∃ r : Nat, i = .int .i64 r ∧ r ≤ q ∧ RPt w wz s nx ⟨a, wE 3 (uniq l q r), l⟩ (.slice va l.length vc)) (fun i _ => q - (intOf i).toNat)
                case atStart => exact ⟨0, rfl, Nat.zero_le _, HPY.out⟩
                case round =>
                  obtain ⟨r, rfl, hr, hpz⟩ := hrel
                  have HPZ := Lib.hid hpz
                  have z1 : wr.cell? ⟨w.heap.size + 1, 1, none⟩ = some (.slice va l.length vc) := block_cell hpz.blk 1
                  have zl := block_lt hpz.blk
                  by_cases hrq : r < q
                  · have hrl : r < l.length := by omega
                    have HRQ := Lib.hid hrq
                    have hrow := hpz.row
                    have hk1 : ∀ nq, RPt w (wr.drewN nq) s nx ⟨a, wE 3 (uniq l q r), l⟩ (.slice va l.length vc) := fun nq => HPZ.out.keep (S := fun _ => False) ((Keeps.refl _ _).drewN nq) (fun _ e => e.elim) (Rr.keep (S := fun _ => False) HPZ.out.rd ((Keeps.refl _ _).drewN nq) (fun e => e))
                    have HK1 := Lib.hid hk1
                    obtain ⟨g, rfl⟩ : ∃ g, va = some ⟨g, 0, none⟩ := by
                      rcases hrow.2 with ⟨_, h2⟩ | ⟨g, cp, cur, h1, _⟩
                      · have h2 : l.length = 0 := h2
                        omega
                      · simp only [Value.slice.injEq] at h1
                        exact ⟨g, h1.1⟩
                    have cq : wr.cell? ⟨g, q * 3 + 1, none⟩ = some (.int .i64 l[q].2.1) := by
                      rw [hrow.cellAt (q * 3 + 1) (by show _ < l.length * 3; omega)]
                      exact flatMap_get encO 3 encO_len l q 1 hlt (by omega)
                    have cr : wr.cell? ⟨g, r * 3 + 1, none⟩ = some (.int .i64 l[r].2.1) := by
                      rw [hrow.cellAt (r * 3 + 1) (by show _ < l.length * 3; omega)]
                      exact flatMap_get encO 3 encO_len l r 1 hrl (by omega)
                    have gl := World.block_lt_of_cell? _ _ cq
                    obtain ⟨k0, k1, k2, k3, k4, k5⟩ := hpz.rd.all
                    have HUN : Hid (wE 3 (uniq l q (r + 1)) = wE (wE 3 (uniq l q r)) (l[r].2.1 != l[q].2.1)) := by show _ = _; rw [uniq_next q hrl, idAt_get hlt, wE_and]
                    have i0 : (0 : Int) ≤ q := by omega
                    have i1 : (q : Int) < l.length := by omega
                    have i2 : (0 : Int) ≤ r := by omega
                    have i3 : (r : Int) < l.length := by omega
                    clear hpz hrow hk1
                    generalize l[q].2.1 = xq at cq HUN
                    generalize l[r].2.1 = xr at cr HUN
                    generalize hcur : wE 3 (uniq l q r) = cur at HK1 HUN k2
                    clear hcur
                    by_cases hc : cur = 0
                    · by_cases hid : xq = xr
                      · have hid1 : (xq == xr) = true := by simp [hid]
                        have hc1 : (cur == 0) = true := by simp [hc]
                        have HU3 : Hid (wE 3 (uniq l q (r + 1)) = 3) := by show _ = _; rw [HUN.out, hc, hid]; simp [wE]
                        clear HUN
                        subst hc
                        go_wp2_with fail
                        go_quiet (fail)
                        go_wp2
                        go_roundw
                        case rel => exact ⟨r + 1, by go_num, Nat.succ_le_of_lt HRQ.out, by rw [HU3.out]; exact (HK1.out _).keep (S := fun k => k = w.heap.size) ((Keeps.refl _ _).setC 2 _ (fun _ => rfl)) (fun k e => .inl e) (Rr.set2 (HK1.out _).rd 3)⟩
                        case measure => have := HRQ.out; simp [intOf]; omega
                      · have hid1 : (xq == xr) = false := by rw [beq_eq_false_iff_ne]; exact hid
                        have HU3 : Hid (wE 3 (uniq l q (r + 1)) = 0) := by show _ = _; rw [HUN.out, hc, show (xr != xq) = true by simpa using fun e => hid e.symm]; rfl
                        clear HUN
                        subst hc
                        go_wp2_with fail
                        go_quiet (fail)
                        go_wp2
                        go_roundw
                        case rel => exact ⟨r + 1, by go_num, Nat.succ_le_of_lt HRQ.out, by rw [HU3.out]; exact HK1.out _⟩
                        case measure => have := HRQ.out; simp [intOf]; omega
                    · have hc1 : (cur == 0) = false := by rw [beq_eq_false_iff_ne]; exact hc
                      have HU3 : Hid (wE 3 (uniq l q (r + 1)) = cur) := by show _ = _; rw [HUN.out]; unfold wE; rw [if_neg hc]
                      clear HUN
                      go_wp2_with fail
                      go_quiet (fail)
                      go_wp2
                      go_roundw
                      case rel => exact ⟨r + 1, by go_num, Nat.succ_le_of_lt HRQ.out, by rw [HU3.out]; exact HK1.out _⟩
                      case measure => have := HRQ.out; simp [intOf]; omega
                  · obtain rfl : r = q := by omega
                    go_wp2
                    go_roundw
                    case rel => exact ⟨r + 1, by go_num, hlt, by rw [← uniq_done hlt]; exact HPZ.out⟩
                    case measure => simp [intOf]; omega
              · obtain rfl : q = l.length := by omega
                clear hlt hq
                generalize hxx : wE 3 (uniq l l.length 0) = x at HPY r2
                rw [hxx] at HQE
                clear hxx
                by_cases hz : x = 0
                · subst hz
                  go_wp2
                  go_ret2
                  have hf : ⟨paX s, (paF s).l⟩ = (⟨nx, l⟩ : Tbl) := by rw [HNX.out, HFF2.out, HFF.out]
                  refine .inr ⟨HQE.out, w.heap.size + 1, (fun k => k = w.heap.size + 1 ∨ (Value.slice va l.length vc).ownBlock = some k), rfl, ?_, ?_, HPY.out.k0⟩
                  · rw [hf]
                    refine ⟨_, HPY.out.blk, own_base HPY.out.row (Nat.zero_le _), .inl rfl, fun k e => ?_, fun k e => ⟨.inr e, ?_⟩⟩
                    · rcases e with e | e
                      · rw [e]; exact block_lt HPY.out.blk
                      · exact (HPY.out.row.lt k e).2
                    · have := (HPY.out.row.lt k e).1
                      omega
                  · intro k e
                    rcases e with e | e
                    · omega
                    · have := (HPY.out.row.lt k e).1
                      omega
                · have hz1 : (x == 0) = false := by rw [beq_eq_false_iff_ne]; exact hz
                  have HZN := Lib.hid hz
                  clear hz
                  go_wp2
                  go_quiet (fail)
                  go_wp2
                  go_ret2
                  exact .inl ⟨by rw [HQE.out]; exact HZN.out, by rw [HQE.out]; rfl, HPY.out.k0.drewN _⟩
        · have HPX : Hid (RPt w wr s nx ⟨a, e, l⟩ v) := HPP.out
          have hw : wE e (decide (a = s.size)) = e := by unfold wE; rw [if_neg he0]
          rw [hw] at HQE
          have he : (e == 0) = false := by rw [beq_eq_false_iff_ne]; exact he0
          clear hw he0
          have hmx : l.length ≤ 9223372036854775807 := by
            rcases HPX.out.row.2 with ⟨_, h2⟩ | ⟨g, cp, cur, _, _, _, h4, h5, _⟩
            · have h2 : l.length = 0 := h2
              omega
            · unfold maxLen at h5
              have h4 : l.length ≤ cp := h4
              omega
          obtain ⟨va, vc, rfl⟩ := own_slice HPX.out.row
          have t1 : wr.cell? ⟨w.heap.size + 1, 1, none⟩ = some (.slice va l.length vc) := block_cell HPX.out.blk 1
          go_wp2
          go_loopw [9] (fun i wy => ∃ q : Nat, i = .int .i64 q ∧ q ≤ l.length ∧ RPt w wy s nx ⟨a, wE e (uniq l q 0), l⟩ (.slice va l.length vc)) (fun i _ => l.length - (intOf i).toNat)
          case atStart => exact ⟨0, rfl, Nat.zero_le _, by rw [uniq_none, wE_true]; exact HPX.out⟩
          case round =>
            obtain ⟨q, rfl, hq, hpy⟩ := hrel
            have HPY := Lib.hid hpy
            have y1 : wr.cell? ⟨w.heap.size + 1, 1, none⟩ = some (.slice va l.length vc) := block_cell hpy.blk 1
            have yl := block_lt hpy.blk
            obtain ⟨r0, r1, r2, r3, r4, r5⟩ := hpy.rd.all
            clear hpy
            by_cases hlt : q < l.length
            · go_wp2
              go_loopw [10] (fun i wz => ∃ r : Nat, i = .int .i64 r ∧ r ≤ q ∧ RPt w wz s nx ⟨a, wE e (uniq l q r), l⟩ (.slice va l.length vc)) (fun i _ => q - (intOf i).toNat)
              case atStart => exact ⟨0, rfl, Nat.zero_le _, HPY.out⟩
              case round =>
                obtain ⟨r, rfl, hr, hpz⟩ := hrel
                have HPZ := Lib.hid hpz
                have z1 : wr.cell? ⟨w.heap.size + 1, 1, none⟩ = some (.slice va l.length vc) := block_cell hpz.blk 1
                have zl := block_lt hpz.blk
                by_cases hrq : r < q
                · have hrl : r < l.length := by omega
                  have HRQ := Lib.hid hrq
                  have hrow := hpz.row
                  have hk1 : ∀ nq, RPt w (wr.drewN nq) s nx ⟨a, wE e (uniq l q r), l⟩ (.slice va l.length vc) := fun nq => HPZ.out.keep (S := fun _ => False) ((Keeps.refl _ _).drewN nq) (fun _ e => e.elim) (Rr.keep (S := fun _ => False) HPZ.out.rd ((Keeps.refl _ _).drewN nq) (fun e => e))
                  have HK1 := Lib.hid hk1
                  obtain ⟨g, rfl⟩ : ∃ g, va = some ⟨g, 0, none⟩ := by
                    rcases hrow.2 with ⟨_, h2⟩ | ⟨g, cp, cur, h1, _⟩
                    · have h2 : l.length = 0 := h2
                      omega
                    · simp only [Value.slice.injEq] at h1
                      exact ⟨g, h1.1⟩
                  have cq : wr.cell? ⟨g, q * 3 + 1, none⟩ = some (.int .i64 l[q].2.1) := by
                    rw [hrow.cellAt (q * 3 + 1) (by show _ < l.length * 3; omega)]
                    exact flatMap_get encO 3 encO_len l q 1 hlt (by omega)
                  have cr : wr.cell? ⟨g, r * 3 + 1, none⟩ = some (.int .i64 l[r].2.1) := by
                    rw [hrow.cellAt (r * 3 + 1) (by show _ < l.length * 3; omega)]
                    exact flatMap_get encO 3 encO_len l r 1 hrl (by omega)
                  have gl := World.block_lt_of_cell? _ _ cq
                  obtain ⟨k0, k1, k2, k3, k4, k5⟩ := hpz.rd.all
                  have HUN : Hid (wE e (uniq l q (r + 1)) = wE (wE e (uniq l q r)) (l[r].2.1 != l[q].2.1)) := by show _ = _; rw [uniq_next q hrl, idAt_get hlt, wE_and]
                  have i0 : (0 : Int) ≤ q := by omega
                  have i1 : (q : Int) < l.length := by omega
                  have i2 : (0 : Int) ≤ r := by omega
                  have i3 : (r : Int) < l.length := by omega
                  clear hpz hrow hk1
                  generalize l[q].2.1 = xq at cq HUN
                  generalize l[r].2.1 = xr at cr HUN
                  generalize hcur : wE e (uniq l q r) = cur at HK1 HUN k2
                  clear hcur
                  by_cases hc : cur = 0
                  · by_cases hid : xq = xr
                    · have hid1 : (xq == xr) = true := by simp [hid]
                      have hc1 : (cur == 0) = true := by simp [hc]
                      have HU3 : Hid (wE e (uniq l q (r + 1)) = 3) := by show _ = _; rw [HUN.out, hc, hid]; simp [wE]
                      clear HUN
                      subst hc
                      go_wp2_with fail
                      go_quiet (fail)
                      go_wp2
                      go_roundw
                      case rel => exact ⟨r + 1, by go_num, Nat.succ_le_of_lt HRQ.out, by rw [HU3.out]; exact (HK1.out _).keep (S := fun k => k = w.heap.size) ((Keeps.refl _ _).setC 2 _ (fun _ => rfl)) (fun k e => .inl e) (Rr.set2 (HK1.out _).rd 3)⟩
                      case measure => have := HRQ.out; simp [intOf]; omega
                    · have hid1 : (xq == xr) = false := by rw [beq_eq_false_iff_ne]; exact hid
                      have HU3 : Hid (wE e (uniq l q (r + 1)) = 0) := by show _ = _; rw [HUN.out, hc, show (xr != xq) = true by simpa using fun e => hid e.symm]; rfl
                      clear HUN
                      subst hc
                      go_wp2_with fail
                      go_quiet (fail)
                      go_wp2
                      go_roundw
                      case rel => exact ⟨r + 1, by go_num, Nat.succ_le_of_lt HRQ.out, by rw [HU3.out]; exact HK1.out _⟩
                      case measure => have := HRQ.out; simp [intOf]; omega
                  · have hc1 : (cur == 0) = false := by rw [beq_eq_false_iff_ne]; exact hc
                    have HU3 : Hid (wE e (uniq l q (r + 1)) = cur) := by show _ = _; rw [HUN.out]; unfold wE; rw [if_neg hc]
                    clear HUN
                    go_wp2_with fail
                    go_quiet (fail)
                    go_wp2
                    go_roundw
                    case rel => exact ⟨r + 1, by go_num, Nat.succ_le_of_lt HRQ.out, by rw [HU3.out]; exact HK1.out _⟩
                    case measure => have := HRQ.out; simp [intOf]; omega
                · obtain rfl : r = q := by omega
                  go_wp2
                  go_roundw
                  case rel => exact ⟨r + 1, by go_num, hlt, by rw [← uniq_done hlt]; exact HPZ.out⟩
                  case measure => simp [intOf]; omega
            · obtain rfl : q = l.length := by omega
              clear hlt hq
              generalize hxx : wE e (uniq l l.length 0) = x at HPY r2
              rw [hxx] at HQE
              clear hxx
              by_cases hz : x = 0
              · subst hz
                go_wp2
                go_ret2
                have hf : ⟨paX s, (paF s).l⟩ = (⟨nx, l⟩ : Tbl) := by rw [HNX.out, HFF2.out, HFF.out]
                refine .inr ⟨HQE.out, w.heap.size + 1, (fun k => k = w.heap.size + 1 ∨ (Value.slice va l.length vc).ownBlock = some k), rfl, ?_, ?_, HPY.out.k0⟩
                · rw [hf]
                  refine ⟨_, HPY.out.blk, own_base HPY.out.row (Nat.zero_le _), .inl rfl, fun k e => ?_, fun k e => ⟨.inr e, ?_⟩⟩
                  · rcases e with e | e
                    · rw [e]; exact block_lt HPY.out.blk
                    · exact (HPY.out.row.lt k e).2
                  · have := (HPY.out.row.lt k e).1
                    omega
                · intro k e
                  rcases e with e | e
                  · omega
                  · have := (HPY.out.row.lt k e).1
                    omega
              · have hz1 : (x == 0) = false := by rw [beq_eq_false_iff_ne]; exact hz
                have HZN := Lib.hid hz
                clear hz
                go_wp2
                go_quiet (fail)
                go_wp2
                go_ret2
                exact .inl ⟨by rw [HQE.out]; exact HZN.out, by rw [HQE.out]; rfl, HPY.out.k0.drewN _⟩
end Go.Proofs.Ytegbiekfpcfnnaa
