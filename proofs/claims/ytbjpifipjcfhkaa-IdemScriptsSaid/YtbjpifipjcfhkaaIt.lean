/-
  IdemApart: what one producer sends changes nothing of another one; a later epoch begins anew: the plain law, the walk.
-/
import Derived.Test.YtbjpifipjcfhkaaIr
namespace Go.Proofs.Ytbjpifipjcfhkaa
open Go.RowKit Fx

def batA (id epoch : Int) : BatchC := ⟨9, 2, id, epoch, 0, none, 0, 0⟩
def headA (epoch : Int) : HeardC := addH (newHd epoch) ⟨0, 9, 2⟩
theorem win_true {n l m : Int} (h1 : l ≤ n) (h2 : n ≤ m) : win n l m = true := by unfold win; simp [h1, h2]
theorem may_batA {id epoch : Int} (h1 : 0 ≤ id) (h2 : id ≤ 1073741824) (h3 : 0 ≤ epoch) (h4 : epoch ≤ 32768) : mayB (batA id epoch) = true := by
  unfold mayB batA
  simp only [win_true h1 h2, win_true h3 h4, Bool.true_and]
  rfl
theorem may_bareA {id epoch : Int} (h1 : 0 ≤ id) (h2 : id ≤ 1073741824) (h3 : 0 ≤ epoch) (h4 : epoch ≤ 32768) : mayB (bareB (batA id epoch)) = true := by
  unfold mayB bareB batA
  simp only [win_true h1 h2, win_true h3 h4, Bool.true_and]
  rfl
theorem oldH_aput (M : List (Int × HeardC)) (s id : Int) (H : HeardC) : oldH (aput M s H) id = if s = id then H else oldH M id := by
  unfold oldH
  rw [aget_aput]
  split
  · rfl
  · rfl
theorem old_other (M : List (Int × HeardC)) (b : BatchC) (id : Int) (h : b.prod ≠ id) : oldH (noteM M b) id = oldH M id := by
  unfold noteM
  split
  · split
    · rfl
    · split
      · rw [oldH_aput, if_neg h]
      · rw [oldH_aput, if_neg h]
  · rfl
theorem noteA {M : List (Int × HeardC)} {id epoch : Int} (h1 : 0 ≤ id) (h2 : id ≤ 1073741824) (h3 : 0 ≤ epoch) (h4 : epoch ≤ 32768) (h : (oldH M id).epoch < epoch) : oldH (noteM M (batA id epoch)) id = headA epoch := by
  unfold noteM
  rw [if_pos (may_batA h1 h2 h3 h4), if_neg (by show ¬ epoch < (oldH M id).epoch; omega), if_pos (show (oldH M (batA id epoch).prod).epoch < (batA id epoch).epoch from h), oldH_aput, if_pos (show (batA id epoch).prod = id from rfl)]
  rfl
theorem checkA1 {M : List (Int × HeardC)} {id epoch : Int} (h1 : 0 ≤ id) (h2 : id ≤ 1073741824) (h3 : 0 ≤ epoch) (h4 : epoch ≤ 32768) (h : oldH M id = headA epoch) : checkR M (batA id epoch) = (9, true, 0) := by
  unfold checkR
  rw [if_neg (by show ¬ id = -1; omega), if_pos (may_bareA h1 h2 h3 h4)]
  show checkH (oldH M id) _ = _
  rw [h]
  unfold checkH
  rw [if_neg (by show ¬ epoch < epoch; omega), if_pos (by rfl)]
  rfl
theorem checkA2 {M : List (Int × HeardC)} {id epoch e2 : Int} (h1 : 0 ≤ id) (h2 : id ≤ 1073741824) (h3 : 0 ≤ e2) (h4 : e2 ≤ 32768) (h : oldH M id = headA epoch) (h5 : epoch < e2) : checkR M (batA id e2) = (0, false, 0) := by
  unfold checkR
  rw [if_neg (by show ¬ id = -1; omega), if_pos (may_bareA h1 h2 h3 h4)]
  show checkH (oldH M id) _ = _
  rw [h]
  unfold checkH
  rw [if_neg (by show ¬ e2 < epoch; omega), if_neg (by show ¬ e2 = epoch; omega)]
  rfl
theorem checkA3 {M : List (Int × HeardC)} {id epoch e2 : Int} (h1 : 0 ≤ id) (h2 : id ≤ 1073741824) (h3 : 0 ≤ epoch) (h4 : epoch ≤ 32768) (h : oldH M id = headA e2) (h5 : epoch < e2) : checkR M (batA id epoch) = (0, false, 8) := by
  unfold checkR
  rw [if_neg (by show ¬ id = -1; omega), if_pos (may_bareA h1 h2 h3 h4)]
  show checkH (oldH M id) _ = _
  rw [h]
  unfold checkH
  rw [if_pos (show (batA id epoch).epoch < (headA e2).epoch from h5)]
theorem bat_cells {w wr : World} {b off : Nat} {l : List BatchC} (h : RowAt 6 rBatch w b off l) (hk : K0 w wr) (k : Nat) (hlt : k < l.length) :
    wr.cell? ⟨b, off + k * 6, none⟩ = some (.int .i64 l[k].base) ∧ wr.cell? ⟨b, off + k * 6 + 1, none⟩ = some (.int .i64 l[k].span) ∧ wr.cell? ⟨b, off + k * 6 + 2, none⟩ = some (.int .i64 l[k].prod) ∧
    wr.cell? ⟨b, off + k * 6 + 3, none⟩ = some (.int .i64 l[k].epoch) ∧ wr.cell? ⟨b, off + k * 6 + 4, none⟩ = some (.int .i64 l[k].seq) ∧ wr.cell? ⟨b, off + k * 6 + 5, none⟩ = some (.slice l[k].ra l[k].rn l[k].rc) ∧ b < wr.heap.size := by
  obtain ⟨cs, hc, hj, hr⟩ := h k hlt
  have hr : cs = [.int .i64 l[k].base, .int .i64 l[k].span, .int .i64 l[k].prod, .int .i64 l[k].epoch, .int .i64 l[k].seq, .slice l[k].ra l[k].rn l[k].rc] := hr
  subst hr
  have hb : b < w.heap.size := World.block_lt_of_cell? w _ (hj 0 (by omega))
  refine ⟨hk.cell' (hj 0 (by omega)) (fun e => e), hk.cell' (hj 1 (by omega)) (fun e => e), hk.cell' (hj 2 (by omega)) (fun e => e), hk.cell' (hj 3 (by omega)) (fun e => e), hk.cell' (hj 4 (by omega)) (fun e => e), hk.cell' (hj 5 (by omega)) (fun e => e), Nat.lt_of_lt_of_le hb hk.size⟩
def BatAt (w : World) (bb : Nat) (b : BatchC) : Prop := w.heap[bb]? = some (.cells (bcells b) 31 (0, 0))
theorem BatAt.cs {w : World} {bb : Nat} {b : BatchC} (h : BatAt w bb b) :
    w.cell? ⟨bb, 0, none⟩ = some (.int .i64 b.base) ∧ w.cell? ⟨bb, 1, none⟩ = some (.int .i64 b.span) ∧ w.cell? ⟨bb, 2, none⟩ = some (.int .i64 b.prod) ∧
    w.cell? ⟨bb, 3, none⟩ = some (.int .i64 b.epoch) ∧ w.cell? ⟨bb, 4, none⟩ = some (.int .i64 b.seq) ∧ w.cell? ⟨bb, 5, none⟩ = some (.slice b.ra b.rn b.rc) ∧ bb < w.heap.size :=
  ⟨block_cell h 0, block_cell h 1, block_cell h 2, block_cell h 3, block_cell h 4, block_cell h 5, block_lt h⟩
theorem BatAt.keep {w w' : World} {bb : Nat} {b : BatchC} {S : Nat → Prop} (h : BatAt w bb b) (hk : Keeps S w w') (hS : ¬ S bb) : BatAt w' bb b := (hk.block _ (block_lt h) hS).trans h
structure ARel (w wr : World) (bb pb : Nat) (M : List (Int × HeardC)) (id epoch : Int) : Prop where
  pf : PF w wr (fun k => k = bb) pb M
  wf : WfM M
  old : oldH M id = headA epoch
  bat : BatAt wr bb (batA id epoch)
theorem ARel.keep {w wr wx : World} {bb pb : Nat} {M : List (Int × HeardC)} {id epoch : Int} (h : ARel w wr bb pb M id epoch) (hk : K0 wr wx) : ARel w wx bb pb M id epoch :=
  ⟨h.pf.keep hk, h.wf, h.old, h.bat.keep hk (fun e => e)⟩
set_option maxRecDepth 100000 in
set_option maxHeartbeats 4000000 in
theorem apart_any (w : World) (a : Option Addr) (cap : Nat) (l : List BatchC) (id epoch : Int) (hs : SlAt 6 rBatch w a cap l) :
    Calls Try.prog 7 #[.slice a l.length cap, .int .i64 id, .int .i64 epoch] w fun e w' => Same w e (.bool true) w' := by
  have hm := hs.len
  have HS := Lib.hid hs
  clear hs
  by_cases g0 : 80 < (l.length : Int)
  · go_enter Try.func7, Try.ntmps7
    go_wp2_with fail
    refine (live_any _).mono ?_
    rintro e w2 ⟨rfl, k2⟩
    go_wp2
    go_ret
    exact ⟨rfl, k2⟩
  · by_cases g1 : id < 0
    · go_enter Try.func7, Try.ntmps7
      go_wp2_with fail
      refine (live_any _).mono ?_
      rintro e w2 ⟨rfl, k2⟩
      go_wp2
      go_ret
      exact ⟨rfl, k2⟩
    · by_cases g2 : 1073741824 < id
      · go_enter Try.func7, Try.ntmps7
        go_wp2_with fail
        refine (live_any _).mono ?_
        rintro e w2 ⟨rfl, k2⟩
        go_wp2
        go_ret
        exact ⟨rfl, k2⟩
      · by_cases g3 : epoch < 0
        · go_enter Try.func7, Try.ntmps7
          go_wp2_with fail
          refine (live_any _).mono ?_
          rintro e w2 ⟨rfl, k2⟩
          go_wp2
          go_ret
          exact ⟨rfl, k2⟩
        · by_cases g4 : 32767 < epoch
          · go_enter Try.func7, Try.ntmps7
            go_wp2_with fail
            refine (live_any _).mono ?_
            rintro e w2 ⟨rfl, k2⟩
            go_wp2
            go_ret
            exact ⟨rfl, k2⟩
          · have B1 : Hid (0 ≤ id ∧ id ≤ 1073741824 ∧ 0 ≤ epoch ∧ epoch ≤ 32768) := ⟨by omega, by omega, by omega, by omega⟩
            go_enter Try.func7, Try.ntmps7
            go_wp2_with fail
            refine (pnew_any w).mono ?_
            rintro e w1 ⟨pb, rfl, s1⟩
            have P1 := Lib.hid (PF.of s1)
            clear s1
            have hK : K0 w1 (w1.alloc (.cells (bcells (batA id epoch)) 31)) := (Keeps.refl _ _).alloc _
            have PA : Hid (PF w (w1.alloc (.cells (bcells (batA id epoch)) 31)) (fun k => k = w1.heap.size) pb []) := (P1.out.more (fun k e => .inr (by rw [e]; exact Nat.le_refl _))).keep hK
            have BA : Hid (BatAt (w1.alloc (.cells (bcells (batA id epoch)) 31)) w1.heap.size (batA id epoch)) := heap_new _ _ _ rfl
            unfold bcells batA at PA BA
            clear hK
            have x0 : (w1.alloc (.cells #[.int .i64 9, .int .i64 2, .int .i64 id, .int .i64 epoch, .int .i64 0, .slice none 0 0] 31)).cell? ⟨w1.heap.size, 0, none⟩ = some (.int .i64 9) := block_cell BA.out 0
            have x1 : (w1.alloc (.cells #[.int .i64 9, .int .i64 2, .int .i64 id, .int .i64 epoch, .int .i64 0, .slice none 0 0] 31)).cell? ⟨w1.heap.size, 1, none⟩ = some (.int .i64 2) := block_cell BA.out 1
            have x2 : (w1.alloc (.cells #[.int .i64 9, .int .i64 2, .int .i64 id, .int .i64 epoch, .int .i64 0, .slice none 0 0] 31)).cell? ⟨w1.heap.size, 2, none⟩ = some (.int .i64 id) := block_cell BA.out 2
            have x3 : (w1.alloc (.cells #[.int .i64 9, .int .i64 2, .int .i64 id, .int .i64 epoch, .int .i64 0, .slice none 0 0] 31)).cell? ⟨w1.heap.size, 3, none⟩ = some (.int .i64 epoch) := block_cell BA.out 3
            have x4 : (w1.alloc (.cells #[.int .i64 9, .int .i64 2, .int .i64 id, .int .i64 epoch, .int .i64 0, .slice none 0 0] 31)).cell? ⟨w1.heap.size, 4, none⟩ = some (.int .i64 0) := block_cell BA.out 4
            have x5 : (w1.alloc (.cells #[.int .i64 9, .int .i64 2, .int .i64 id, .int .i64 epoch, .int .i64 0, .slice none 0 0] 31)).cell? ⟨w1.heap.size, 5, none⟩ = some (.slice none 0 0) := block_cell BA.out 5
            have xl := block_lt BA.out
            go_wp2_with fail
            refine (note_pf (M' := noteM [] (batA id epoch)) PA.out (fun k e => by rw [e]; exact block_lt BA.out) wf_nil (batA id epoch) rfl).mono ?_
            rintro e w2 ⟨rfl, p2, k2⟩
            have R0 : Hid (ARel w w2 w1.heap.size pb (noteM [] (batA id epoch)) id epoch) := ⟨p2, wf_nil.note _, noteA B1.out.1 B1.out.2.1 B1.out.2.2.1 B1.out.2.2.2 (show (-1 : Int) < epoch by have := B1.out; omega), BatAt.keep (b := batA id epoch) BA.out k2 (fun e => e.2 rfl)⟩
            clear p2 k2 x0 x1 x2 x3 x4 x5 xl PA BA P1
            obtain ⟨bb, ebb⟩ : ∃ bb, bb = w1.heap.size := ⟨_, rfl⟩
            rw [← ebb] at R0 ⊢
            clear ebb
            go_wp2
            go_loopw [9] (fun i wr => ∃ k : Nat, i = .int .i64 k ∧ k ≤ l.length ∧ ∃ M, ARel w wr bb pb M id epoch) (fun i _ => l.length - (intOf i).toNat)
            case atStart => exact ⟨0, rfl, by omega, _, R0.out⟩
            case round =>
              obtain ⟨k, rfl, hk, M, hr⟩ := hrel
              obtain ⟨wo, rfl⟩ : ∃ wo : World, wo = wr := ⟨_, rfl⟩
              by_cases hlt : k < l.length
              · obtain ⟨b, off, rfl, hrow⟩ := HS.out.row hlt
                obtain ⟨x0, x1, x2, x3, x4, x5, hbl⟩ := bat_cells hrow hr.pf.st.k0 k hlt
                generalize l[k] = bt at x0 x1 x2 x3 x4 x5
                have HR := Lib.hid hr
                have i0 : (0 : Int) ≤ k := by omega
                have i1 : (k : Int) < l.length := by omega
                clear hrow hr R0
                by_cases hne : bt.prod = id
                · rw [hne] at x2
                  have c0 : wo.cell? ⟨bb, 0, none⟩ = some (.int .i64 9) := block_cell HR.out.bat 0
                  have c1 : wo.cell? ⟨bb, 1, none⟩ = some (.int .i64 2) := block_cell HR.out.bat 1
                  have c2 : wo.cell? ⟨bb, 2, none⟩ = some (.int .i64 id) := block_cell HR.out.bat 2
                  have c3 : wo.cell? ⟨bb, 3, none⟩ = some (.int .i64 epoch) := block_cell HR.out.bat 3
                  have c4 : wo.cell? ⟨bb, 4, none⟩ = some (.int .i64 0) := block_cell HR.out.bat 4
                  have c5 : wo.cell? ⟨bb, 5, none⟩ = some (.slice none 0 0) := block_cell HR.out.bat 5
                  have clt := block_lt HR.out.bat
                  go_wp2_with fail
                  refine (check_st HR.out.pf.st HR.out.wf (batA id epoch) (checkA1 B1.out.1 B1.out.2.1 B1.out.2.2.1 B1.out.2.2.2 HR.out.old)).mono ?_
                  rintro e w6 ⟨rfl, k6⟩
                  simp only [resV]
                  have HR6 := Lib.hid (HR.out.keep k6)
                  clear k6 x0 x1 x2 x3 x4 x5 hbl c0 c1 c2 c3 c4 c5 clt
                  go_wp2_with fail
                  refine (epoch_st HR6.out.pf.st id (show (oldH M id).epoch = epoch by rw [HR6.out.old]; rfl)).mono ?_
                  rintro e w7 ⟨rfl, k7⟩
                  have HR7 := Lib.hid (HR6.out.keep k7)
                  clear k7
                  go_wp2
                  go_roundw
                  case rel => exact ⟨k + 1, by go_num, by omega, M, HR7.out⟩
                  case measure => simp [intOf]; omega
                · go_wp2_with fail
                  refine (note_pf (M' := noteM M bt) HR.out.pf (fun k e => by rw [e]; exact block_lt HR.out.bat) HR.out.wf bt rfl).mono ?_
                  rintro e w5 ⟨rfl, p5, k5⟩
                  have HR5 : Hid (ARel w w5 bb pb (noteM M bt) id epoch) := ⟨p5, HR.out.wf.note _, (old_other M bt id hne).trans HR.out.old, HR.out.bat.keep k5 (fun e => e.2 rfl)⟩
                  clear p5 k5 x0 x1 x2 x3 x4 x5 hbl HR
                  generalize noteM M bt = M at HR5
                  have HR := HR5
                  clear HR5 hne
                  have c0 : w5.cell? ⟨bb, 0, none⟩ = some (.int .i64 9) := block_cell HR.out.bat 0
                  have c1 : w5.cell? ⟨bb, 1, none⟩ = some (.int .i64 2) := block_cell HR.out.bat 1
                  have c2 : w5.cell? ⟨bb, 2, none⟩ = some (.int .i64 id) := block_cell HR.out.bat 2
                  have c3 : w5.cell? ⟨bb, 3, none⟩ = some (.int .i64 epoch) := block_cell HR.out.bat 3
                  have c4 : w5.cell? ⟨bb, 4, none⟩ = some (.int .i64 0) := block_cell HR.out.bat 4
                  have c5 : w5.cell? ⟨bb, 5, none⟩ = some (.slice none 0 0) := block_cell HR.out.bat 5
                  have clt := block_lt HR.out.bat
                  go_wp2_with fail
                  refine (check_st HR.out.pf.st HR.out.wf (batA id epoch) (checkA1 B1.out.1 B1.out.2.1 B1.out.2.2.1 B1.out.2.2.2 HR.out.old)).mono ?_
                  rintro e w6 ⟨rfl, k6⟩
                  simp only [resV]
                  have HR6 := Lib.hid (HR.out.keep k6)
                  clear k6 c0 c1 c2 c3 c4 c5 clt
                  go_wp2_with fail
                  refine (epoch_st HR6.out.pf.st id (show (oldH M id).epoch = epoch by rw [HR6.out.old]; rfl)).mono ?_
                  rintro e w7 ⟨rfl, k7⟩
                  have HR7 := Lib.hid (HR6.out.keep k7)
                  clear k7
                  go_wp2
                  go_roundw
                  case rel => exact ⟨k + 1, by go_num, by omega, M, HR7.out⟩
                  case measure => simp [intOf]; omega
              · obtain rfl : k = l.length := by omega
                have HR := Lib.hid hr
                clear hr R0 hlt
                have c0 : wo.cell? ⟨bb, 0, none⟩ = some (.int .i64 9) := block_cell HR.out.bat 0
                have c1 : wo.cell? ⟨bb, 1, none⟩ = some (.int .i64 2) := block_cell HR.out.bat 1
                have c2 : wo.cell? ⟨bb, 2, none⟩ = some (.int .i64 id) := block_cell HR.out.bat 2
                have c3 : wo.cell? ⟨bb, 3, none⟩ = some (.int .i64 epoch) := block_cell HR.out.bat 3
                have c4 : wo.cell? ⟨bb, 4, none⟩ = some (.int .i64 0) := block_cell HR.out.bat 4
                have c5 : wo.cell? ⟨bb, 5, none⟩ = some (.slice none 0 0) := block_cell HR.out.bat 5
                have clt := block_lt HR.out.bat
                have hA : (wo.alloc (.cells #[.int .i64 9, .int .i64 2, .int .i64 id, .int .i64 epoch, .int .i64 0, .slice none 0 0] 31)).heap[wo.heap.size]? = some (.cells #[.int .i64 9, .int .i64 2, .int .i64 id, .int .i64 epoch, .int .i64 0, .slice none 0 0] 31 (0, 0)) := heap_new _ _ _ rfl
                have fr := block_free hA 3
                have la := block_lt hA
                clear hA
                go_wp2_with fail
                have hk9 : K0 wo (wo.alloc (.cells #[.int .i64 9, .int .i64 2, .int .i64 id, .int .i64 (epoch + 1), .int .i64 0, .slice none 0 0] 31)) := (Keeps.refl _ _).alloc _
                have BC : Hid (BatAt (wo.alloc (.cells #[.int .i64 9, .int .i64 2, .int .i64 id, .int .i64 (epoch + 1), .int .i64 0, .slice none 0 0] 31)) wo.heap.size (batA id (epoch + 1))) := heap_new _ _ _ rfl
                have BB := Lib.hid (HR.out.bat.keep hk9 (fun e => e))
                have P9 := Lib.hid ((HR.out.pf.more (G := fun k => k = bb ∨ k = wo.heap.size) (fun k e => e.elim .inl (fun e => .inr (by rw [e]; exact Nat.le_refl _)))).keep hk9)
                have HWF := Lib.hid HR.out.wf
                have HOLD := Lib.hid HR.out.old
                have HBS := Lib.hid (block_lt HR.out.bat)
                clear hk9 HR c0 c1 c2 c3 c4 c5 clt fr la
                generalize hcb : wo.heap.size = cb at BC P9 HBS
                generalize (wo.alloc (.cells #[.int .i64 9, .int .i64 2, .int .i64 id, .int .i64 (epoch + 1), .int .i64 0, .slice none 0 0] 31)) = wa at BC BB P9 ⊢
                refine (check_st P9.out.st HWF.out (batA id (epoch + 1)) (checkA2 B1.out.1 B1.out.2.1 (by omega) (by omega) HOLD.out (by omega))).mono ?_
                rintro e w10 ⟨rfl, k10⟩
                simp only [resV]
                have BC10 := Lib.hid (BC.out.keep k10 (fun e => e))
                have BB10 := Lib.hid (BB.out.keep k10 (fun e => e))
                have P10 := Lib.hid (P9.out.keep k10)
                clear k10 BC BB P9
                have c0 : w10.cell? ⟨cb, 0, none⟩ = some (.int .i64 9) := block_cell BC10.out 0
                have c1 : w10.cell? ⟨cb, 1, none⟩ = some (.int .i64 2) := block_cell BC10.out 1
                have c2 : w10.cell? ⟨cb, 2, none⟩ = some (.int .i64 id) := block_cell BC10.out 2
                have c3 : w10.cell? ⟨cb, 3, none⟩ = some (.int .i64 (epoch + 1)) := block_cell BC10.out 3
                have c4 : w10.cell? ⟨cb, 4, none⟩ = some (.int .i64 0) := block_cell BC10.out 4
                have c5 : w10.cell? ⟨cb, 5, none⟩ = some (.slice none 0 0) := block_cell BC10.out 5
                have clt := block_lt BC10.out
                go_wp2_with fail
                refine (note_pf (M' := noteM M (batA id (epoch + 1))) P10.out (fun k e => e.elim (fun e => by rw [e]; exact block_lt BB10.out) (fun e => by rw [e]; exact block_lt BC10.out)) HWF.out (batA id (epoch + 1)) rfl).mono ?_
                rintro e w11 ⟨rfl, p11, k11⟩
                have BB11 := Lib.hid (BB10.out.keep k11 (fun e => e.2 (.inl rfl)))
                have P11 := Lib.hid p11.st
                have HO11 := Lib.hid (noteA (M := M) (epoch := epoch + 1) B1.out.1 B1.out.2.1 (by omega) (by omega) (show (oldH M id).epoch < epoch + 1 by rw [HOLD.out]; show epoch < epoch + 1; omega))
                have HWF11 := Lib.hid (HWF.out.note (batA id (epoch + 1)))
                clear p11 k11 c0 c1 c2 c3 c4 c5 clt P10 BC10 BB10
                have c0 : w11.cell? ⟨bb, 0, none⟩ = some (.int .i64 9) := block_cell BB11.out 0
                have c1 : w11.cell? ⟨bb, 1, none⟩ = some (.int .i64 2) := block_cell BB11.out 1
                have c2 : w11.cell? ⟨bb, 2, none⟩ = some (.int .i64 id) := block_cell BB11.out 2
                have c3 : w11.cell? ⟨bb, 3, none⟩ = some (.int .i64 epoch) := block_cell BB11.out 3
                have c4 : w11.cell? ⟨bb, 4, none⟩ = some (.int .i64 0) := block_cell BB11.out 4
                have c5 : w11.cell? ⟨bb, 5, none⟩ = some (.slice none 0 0) := block_cell BB11.out 5
                have clt := block_lt BB11.out
                go_wp2_with fail
                refine (check_st P11.out HWF11.out (batA id epoch) (checkA3 B1.out.1 B1.out.2.1 (by omega) (by omega) HO11.out (by omega))).mono ?_
                rintro e w12 ⟨rfl, k12⟩
                simp only [resV]
                have P12 := Lib.hid (P11.out.keep k12)
                clear k12 c0 c1 c2 c3 c4 c5 clt
                go_wp2_with fail
                refine (epoch_st P12.out id (show (oldH (noteM M (batA id (epoch + 1))) id).epoch = epoch + 1 by rw [HO11.out]; rfl)).mono ?_
                rintro e w13 ⟨rfl, k13⟩
                have P13 := Lib.hid (P12.out.keep k13)
                clear k13
                go_wp2_with fail
                refine (live_any _).mono ?_
                rintro e w14 ⟨rfl, k14⟩
                have HF := Lib.hid (K0.tr P13.out.k0 k14)
                clear k14
                go_wp2
                go_ret
                exact ⟨rfl, HF.out⟩
end Go.Proofs.Ytbjpifipjcfhkaa
