/-
  TopicScripts, walked.
-/
import Derived.Test.YtegbiekfpcfnnaaUn
import Derived.Test.YtegbiekfpcfnnaaTn
namespace Go.Proofs.Ytegbiekfpcfnnaa
open Go.RowKit Fx

def SRel (w : World) (b n : Nat) (i tv : Value) (wr : World) : Prop :=
  ∃ (k tb m : Nat) (F : Nat → Prop) (t R : Tbl), i = .int .i64 k ∧ k ≤ n ∧ tv = .pointer (some ⟨tb, 0, none⟩) ∧ TSt w wr tb m b F t R
theorem newDoc {w wx : World} (h : wx = w.alloc (.cells #[.int .i64 0, .slice none 0 0] 43)) : RTst wx (fun k => k = w.heap.size) w.heap.size ⟨0, []⟩ := by
  subst h
  refine ⟨.slice none 0 0, heap_new _ _ _ rfl, World.ownsRow_nil _ _ _ _, rfl, fun k e => ?_, fun k e => by cases e⟩
  rw [e]; simp
theorem SimT.nil : SimT ⟨0, []⟩ ⟨0, []⟩ := ⟨rfl, fun _ => rfl, List.Pairwise.nil⟩
/-- The box of one call. -/
def BoxO (wr wx : World) (o : OpC) : Prop := wx.heap[wr.heap.size]? = some (.cells #[.int .i64 o.doo, .string o.name, .int .i64 o.parts] 26 (0, 0))
theorem BoxO.keep {wr wx wy : World} {o : OpC} {S : Nat → Prop} (h : BoxO wr wx o) (hk : Keeps S wx wy) (hS : ¬ S wr.heap.size) : BoxO wr wy o := (hk.block _ (block_lt h) hS).trans h
theorem BoxO.cells {wr wx : World} {o : OpC} (h : BoxO wr wx o) : wx.cell? ⟨wr.heap.size, 1, none⟩ = some (.string o.name) ∧ wx.cell? ⟨wr.heap.size, 2, none⟩ = some (.int .i64 o.parts) ∧ wr.heap.size < wx.heap.size := ⟨block_cell h 1, block_cell h 2, block_lt h⟩
set_option maxRecDepth 100000 in
set_option maxHeartbeats 16000000 in
theorem tscripts_any (w : World) (a : Option Addr) (c : Nat) (l : List OpC) (h : SlAt 3 rOp w a c l) : Calls Try.prog 5 #[.slice a l.length c] w fun e w' => Same w e (.bool true) w' := by
  have hm := h.len
  unfold maxLen at hm
  have HH := Lib.hid h
  clear h
  go_enter Try.func5, Try.ntmps5
  go_wp2_with fail
  refine (new_calls _).mono ?_
  rintro e w1 ⟨rfl, ht, hk, hz⟩
  have H0 : Hid (∃ b, b = w1.heap.size ∧ TSt w (w1.alloc (.cells #[.int .i64 0, .slice none 0 0] 43)) (w.heap.size + 1) w.heap.size b (fun k => k = b) ⟨0, []⟩ ⟨0, []⟩) := by
    refine ⟨_, rfl, ht.keep ((Keeps.refl (fun _ => False) _).alloc _) (fun e => e) (fun e => e), newDoc rfl, SimT.nil, WfT.new, fun k e => ?_, by omega, by omega, fun k e => ?_, hk.alloc _⟩
    · have e : k = w1.heap.size := e
      omega
    · have e : k = w1.heap.size := e
      omega
  obtain ⟨b, hb, hT⟩ := H0.out
  have HB := Lib.hid hb
  have HT0 := Lib.hid hT
  clear ht hk hz H0 hb hT
  go_wp2_with fail
  rw [← HB.out]
  go_loopw [5, 3] (SRel w b l.length) (fun i _ _ => l.length - (intOf i).toNat)
  case atStart => exact ⟨0, _, _, _, _, _, rfl, Nat.zero_le _, rfl, HT0.out⟩
  case round =>
    obtain ⟨k, tb, m, F, t, R, rfl, hk, rfl, hT⟩ := hrel
    have HT := Lib.hid hT
    clear hT
    by_cases hlt : k < l.length ∧ k < 60
    · obtain ⟨h1, h2⟩ := hlt
      obtain ⟨g, off, rfl, hrow⟩ := HH.out.row h1
      obtain ⟨c0, c1, c2, hgl⟩ := op_cells hrow HT.out.k0 (fun _ e => e) k h1
      have HS : Hid (TSt w (wr.alloc (.cells #[.int .i64 l[k].doo, .string l[k].name, .int .i64 l[k].parts] 26)) tb m b F t R) := HT.out.keep ((Keeps.refl _ _).alloc _)
      have HX : Hid (BoxO wr (wr.alloc (.cells #[.int .i64 l[k].doo, .string l[k].name, .int .i64 l[k].parts] 26)) l[k]) := heap_new _ _ _ rfl
      have htl := HT.out.tt.lt
      have hml := HT.out.tt.map.lt
      have hnx : Hid (¬ TblS tb m wr.heap.size) := fun e => by unfold TblS at e; omega
      clear hrow htl hml
      generalize l[k] = o at *
      by_cases d0 : o.doo = 0
      · have e0 : (o.doo == 0) = true := by rw [d0]; rfl
        clear d0
        go_wp2_with fail
        refine (create_at tb m t o.name o.parts _ HS.out.tt HS.out.wf.next.1).mono ?_
        rintro e w1 ⟨rfl, hT1, hk1⟩
        obtain ⟨x1, x2, x3⟩ := (HX.out.keep hk1 hnx.out).cells
        have HC := Lib.hid (HS.out.create o.name o.parts)
        have HT1 := Lib.hid hT1
        have HK1 := Lib.hid hk1
        clear hT1 hk1 c0 c1 c2 hgl
        go_wp2_with fail
        refine (rtcr_any o.name o.parts (HS.out.doc HK1.out) HS.out.wfR).mono ?_
        rintro e w2 ⟨rfl, hp⟩
        obtain ⟨F', hT2⟩ := HS.out.both HT1.out HK1.out hp HC.out.1 HC.out.2.1
        rw [HC.out.2.2.1, HC.out.2.2.2]
        have HT2 := Lib.hid hT2
        clear hT2 hp x1 x2 x3 HC
        generalize (t.create o.name o.parts).1 = x
        generalize (t.create o.name o.parts).2.1 = y
        have i1 : (x != x) = false := by simp
        have i2 : (y != y) = false := by simp
        go_wp2_with fail
        refine HT2.out.list.mono ?_
        rintro e w3 ⟨a3, c3, rfl, hS3, hk3⟩
        have HS3 := Lib.hid hS3
        have HT3 := Lib.hid (HT2.out.keep hk3)
        clear hS3 hk3
        go_wp2_with fail
        refine HT3.out.rlist.mono ?_
        rintro e w4 ⟨a4, c4, rfl, hS4, hk4⟩
        have HS4 := Lib.hid hS4
        have HS34 := Lib.hid (HS3.out.keep0 stable_T hk4)
        have HT4 := Lib.hid (HT3.out.keep hk4)
        clear hS4 hk4
        go_wp2_with fail
        refine (sameTopics_any w4 a3 a4 c3 c4 (pairsT (R.rcreate o.name o.parts).2.2) HS34.out HS4.out).mono ?_
        rintro e w5 ⟨rfl, hk5⟩
        have HT5 := Lib.hid (HT4.out.keep hk5)
        clear hk5
        go_wp2_with fail
        refine (tprint_any HT5.out.tt HT5.out.sim HT5.out.wf).mono ?_
        rintro e w6 ⟨rfl, hk6⟩
        have HT6 := Lib.hid (HT5.out.keep hk6)
        clear hk6
        go_wp2_with fail
        refine (rtprint_any HT6.out.rr HT6.out.wfR).mono ?_
        rintro e w7 ⟨rfl, hk7⟩
        have HT7 := Lib.hid (HT6.out.keep hk7)
        clear hk7
        generalize printT (R.rcreate o.name o.parts).2.2 = pr
        go_wp2
        go_roundw
        case rel => exact ⟨k + 1, _, _, _, _, _, by go_num, by omega, rfl, HT7.out⟩
        case measure => simp [intOf]; omega
      · have e0 : (o.doo == 0) = false := by simpa using d0
        by_cases d1 : o.doo = 1
        · have e1 : (o.doo == 1) = true := by rw [d1]; rfl
          clear d0 d1
          go_wp2_with fail
          refine (delete_any tb m t o.name _ HS.out.tt).mono ?_
          rintro e w1 ⟨rfl, hT1, hk1⟩
          obtain ⟨x1, x2, x3⟩ := (HX.out.keep hk1 hnx.out).cells
          have HT1 := Lib.hid hT1
          have HK1 := Lib.hid hk1
          clear hT1 hk1 c0 c1 c2 hgl
          go_wp2_with fail
          refine (rtdel_any o.name (HS.out.doc HK1.out) HS.out.sim.ord.kd (Nat.le_trans HS.out.wfR.len (by decide))).mono ?_
          rintro e w2 ⟨rfl, hp⟩
          obtain ⟨F', hT2⟩ := HS.out.both HT1.out HK1.out hp (HS.out.sim.del HS.out.wf.keys o.name) (HS.out.wf.del o.name)
          rw [HS.out.sim.find o.name]
          have HT2 := Lib.hid hT2
          clear hT2 hp x1 x2 x3
          generalize (t.find o.name).1 = x
          generalize (t.find o.name).2.2 = y
          have i1 : (x != x) = false := by simp
          have i2 : (y != y) = false := by simp
          go_wp2_with fail
          refine HT2.out.list.mono ?_
          rintro e w3 ⟨a3, c3, rfl, hS3, hk3⟩
          have HS3 := Lib.hid hS3
          have HT3 := Lib.hid (HT2.out.keep hk3)
          clear hS3 hk3
          go_wp2_with fail
          refine HT3.out.rlist.mono ?_
          rintro e w4 ⟨a4, c4, rfl, hS4, hk4⟩
          have HS4 := Lib.hid hS4
          have HS34 := Lib.hid (HS3.out.keep0 stable_T hk4)
          have HT4 := Lib.hid (HT3.out.keep hk4)
          clear hS4 hk4
          go_wp2_with fail
          refine (sameTopics_any w4 a3 a4 c3 c4 (pairsT (rtdel R o.name)) HS34.out HS4.out).mono ?_
          rintro e w5 ⟨rfl, hk5⟩
          have HT5 := Lib.hid (HT4.out.keep hk5)
          clear hk5
          go_wp2_with fail
          refine (tprint_any HT5.out.tt HT5.out.sim HT5.out.wf).mono ?_
          rintro e w6 ⟨rfl, hk6⟩
          have HT6 := Lib.hid (HT5.out.keep hk6)
          clear hk6
          go_wp2_with fail
          refine (rtprint_any HT6.out.rr HT6.out.wfR).mono ?_
          rintro e w7 ⟨rfl, hk7⟩
          have HT7 := Lib.hid (HT6.out.keep hk7)
          clear hk7
          generalize printT (rtdel R o.name) = pr
          go_wp2
          go_roundw
          case rel => exact ⟨k + 1, _, _, _, _, _, by go_num, by omega, rfl, HT7.out⟩
          case measure => simp [intOf]; omega
        · have e1 : (o.doo == 1) = false := by simpa using d1
          by_cases d2 : o.doo = 2
          · have e2 : (o.doo == 2) = true := by rw [d2]; rfl
            clear d0 d1 d2
            go_wp2_with fail
            refine (find_at tb m t o.name _ HS.out.tt).mono ?_
            rintro e w1 ⟨rfl, hk1⟩
            obtain ⟨x1, x2, x3⟩ := (HX.out.keep hk1 (fun e => e)).cells
            have HT1 := Lib.hid (HS.out.keep hk1)
            clear hk1 c0 c1 c2 hgl
            obtain ⟨v, hv⟩ := HT1.out.rr
            have HV := Lib.hid hv
            have HQ := Lib.hid (rtfind_any o.name hv (Nat.le_trans HT1.out.wfR.len (by decide)))
            clear hv
            go_wp2_with fail
            refine HQ.out.mono ?_
            rintro e w2 ⟨x, rfl, rfl, hf⟩
            have HT2 := HT1
            rcases hf with ⟨i, hi, rfl, hn⟩ | ⟨rfl, hn⟩
            · have hg : t.find o.name = (R.all[i].2.1, R.all[i].2.2, 0) := by
                have h9 : aget R.all R.all[i].1 = some R.all[i].2 := aget_of_mem HT1.out.sim.ord.kd (List.getElem_mem hi)
                rw [hn] at h9
                rw [← HT1.out.sim.find]
                unfold Tbl.find
                rw [h9]
              rw [hg]
              obtain ⟨r, cap, rfl, _, hrl, _⟩ : ∃ r cap, v = .slice (some ⟨r, 0, none⟩) R.all.length cap ∧ r ≠ b ∧ r < w2.heap.size ∧ R.all.length ≤ cap := by
                rcases HV.out.form with ⟨hnil, _⟩ | ⟨r, cap, e1, e2, e3, e4, _⟩
                · rw [hnil] at hi; exact absurd hi (Nat.not_lt_zero _)
                · exact ⟨r, cap, e1, e2, e3, e4⟩
              obtain ⟨q0, q1, q2⟩ := HV.out.cell rfl i hi
              have q3 : w2.cell? ⟨b, 1, none⟩ = some (.slice (some ⟨r, 0, none⟩) R.all.length cap) := block_cell HV.out.blk 1
              have q4 := block_lt HV.out.blk
              have i0 : (0 : Int) ≤ i := by omega
              have i3 : ¬ (i : Int) < 0 := by omega
              have i4 : (i : Int) < R.all.length := by omega
              generalize R.all[i].2.1 = x at q1
              generalize R.all[i].2.2 = y at q2
              have i1 : (x != x) = false := by simp
              have i2 : (y != y) = false := by simp
              clear hn hg q0 x1 x2 x3 hrl
              go_wp2_with fail
              refine HT2.out.list.mono ?_
              rintro e w3 ⟨a3, c3, rfl, hS3, hk3⟩
              have HS3 := Lib.hid hS3
              have HT3 := Lib.hid (HT2.out.keep hk3)
              clear hS3 hk3
              go_wp2_with fail
              refine HT3.out.rlist.mono ?_
              rintro e w4 ⟨a4, c4, rfl, hS4, hk4⟩
              have HS4 := Lib.hid hS4
              have HS34 := Lib.hid (HS3.out.keep0 stable_T hk4)
              have HT4 := Lib.hid (HT3.out.keep hk4)
              clear hS4 hk4
              go_wp2_with fail
              refine (sameTopics_any w4 a3 a4 c3 c4 (pairsT R) HS34.out HS4.out).mono ?_
              rintro e w5 ⟨rfl, hk5⟩
              have HT5 := Lib.hid (HT4.out.keep hk5)
              clear hk5
              go_wp2_with fail
              refine (tprint_any HT5.out.tt HT5.out.sim HT5.out.wf).mono ?_
              rintro e w6 ⟨rfl, hk6⟩
              have HT6 := Lib.hid (HT5.out.keep hk6)
              clear hk6
              go_wp2_with fail
              refine (rtprint_any HT6.out.rr HT6.out.wfR).mono ?_
              rintro e w7 ⟨rfl, hk7⟩
              have HT7 := Lib.hid (HT6.out.keep hk7)
              clear hk7
              generalize printT R = pr
              go_wp2
              go_roundw
              case rel => exact ⟨k + 1, _, _, _, _, _, by go_num, by omega, rfl, HT7.out⟩
              case measure => simp [intOf]; omega
            · have hg : t.find o.name = (0, 0, 6) := by
                rw [← HT1.out.sim.find]
                unfold Tbl.find
                rw [hn]
              rw [hg]
              clear hn hg x1 x2 x3
              go_wp2_with fail
              refine HT2.out.list.mono ?_
              rintro e w3 ⟨a3, c3, rfl, hS3, hk3⟩
              have HS3 := Lib.hid hS3
              have HT3 := Lib.hid (HT2.out.keep hk3)
              clear hS3 hk3
              go_wp2_with fail
              refine HT3.out.rlist.mono ?_
              rintro e w4 ⟨a4, c4, rfl, hS4, hk4⟩
              have HS4 := Lib.hid hS4
              have HS34 := Lib.hid (HS3.out.keep0 stable_T hk4)
              have HT4 := Lib.hid (HT3.out.keep hk4)
              clear hS4 hk4
              go_wp2_with fail
              refine (sameTopics_any w4 a3 a4 c3 c4 (pairsT R) HS34.out HS4.out).mono ?_
              rintro e w5 ⟨rfl, hk5⟩
              have HT5 := Lib.hid (HT4.out.keep hk5)
              clear hk5
              go_wp2_with fail
              refine (tprint_any HT5.out.tt HT5.out.sim HT5.out.wf).mono ?_
              rintro e w6 ⟨rfl, hk6⟩
              have HT6 := Lib.hid (HT5.out.keep hk6)
              clear hk6
              go_wp2_with fail
              refine (rtprint_any HT6.out.rr HT6.out.wfR).mono ?_
              rintro e w7 ⟨rfl, hk7⟩
              have HT7 := Lib.hid (HT6.out.keep hk7)
              clear hk7
              generalize printT R = pr
              go_wp2
              go_roundw
              case rel => exact ⟨k + 1, _, _, _, _, _, by go_num, by omega, rfl, HT7.out⟩
              case measure => simp [intOf]; omega
          · have e2 : (o.doo == 2) = false := by simpa using d2
            clear d0 d1 d2
            have HPS := Lib.hid HS.out.parsed
            have HPZ := Lib.hid (printT_size HS.out.wfR)
            go_wp2_with fail
            refine (tprint_any HS.out.tt HS.out.sim HS.out.wf).mono ?_
            rintro e w1 ⟨rfl, hk1⟩
            have HT1 := Lib.hid (HS.out.keep hk1)
            clear hk1 c0 c1 c2 hgl
            go_wp2_with fail
            refine (parse_any (printT R) w1 (Nat.le_trans HPZ.out (by decide))).mono ?_
            intro e w2 hq
            rcases hq with ⟨hz, _⟩ | ⟨_, tb', m', rfl, hT', hb1, hb2, hk2⟩
            · exact absurd HPS.out.1 hz
            have HT2 := Lib.hid (HT1.out.anew hk2 hT' hb1 hb2 HPS.out.2.1 HPS.out.2.2)
            clear hT' hb1 hb2 hk2
            go_wp2_with fail
            refine HT2.out.list.mono ?_
            rintro e w3 ⟨a3, c3, rfl, hS3, hk3⟩
            have HS3 := Lib.hid hS3
            have HT3 := Lib.hid (HT2.out.keep hk3)
            clear hS3 hk3
            go_wp2_with fail
            refine HT3.out.rlist.mono ?_
            rintro e w4 ⟨a4, c4, rfl, hS4, hk4⟩
            have HS4 := Lib.hid hS4
            have HS34 := Lib.hid (HS3.out.keep0 stable_T hk4)
            have HT4 := Lib.hid (HT3.out.keep hk4)
            clear hS4 hk4
            go_wp2_with fail
            refine (sameTopics_any w4 a3 a4 c3 c4 (pairsT R) HS34.out HS4.out).mono ?_
            rintro e w5 ⟨rfl, hk5⟩
            have HT5 := Lib.hid (HT4.out.keep hk5)
            clear hk5
            go_wp2_with fail
            refine (tprint_any HT5.out.tt HT5.out.sim HT5.out.wf).mono ?_
            rintro e w6 ⟨rfl, hk6⟩
            have HT6 := Lib.hid (HT5.out.keep hk6)
            clear hk6
            go_wp2_with fail
            refine (rtprint_any HT6.out.rr HT6.out.wfR).mono ?_
            rintro e w7 ⟨rfl, hk7⟩
            have HT7 := Lib.hid (HT6.out.keep hk7)
            clear hk7
            generalize printT R = pr
            go_wp2
            go_roundw
            case rel => exact ⟨k + 1, _, _, _, _, _, by go_num, by omega, rfl, HT7.out⟩
            case measure => simp [intOf]; omega
    · have HK := Lib.hid HT.out.k0
      by_cases h1 : k < l.length
      · have h2 : ¬ k < 60 := fun e => hlt ⟨h1, e⟩
        clear hlt
        go_wp2_with fail
        refine (live_any _).mono ?_
        rintro e w2 ⟨rfl, k2⟩
        have HK2 := Lib.hid k2
        clear k2
        go_wp2
        go_ret
        exact ⟨rfl, K0.tr HK.out HK2.out⟩
      · clear hlt
        go_wp2_with fail
        refine (live_any _).mono ?_
        rintro e w2 ⟨rfl, k2⟩
        have HK2 := Lib.hid k2
        clear k2
        go_wp2
        go_ret
        exact ⟨rfl, K0.tr HK.out HK2.out⟩
end Go.Proofs.Ytegbiekfpcfnnaa
