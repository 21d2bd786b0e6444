/-
  The program's coordinator's Join with its frame, all ways.
-/
import Derived.Test.YtklhlffdpojkoaaGreatJ23
namespace Go.Proofs.YtklhlffdpojkoaaGreat
open Go.RowKit Go.Shelf Fx

section
variable {w0 w : World} {cb : Nat} {C : CoordC} {Y : CLay}
theorem CPost.box {wb w2 w3 : World} {C' : CoordC} {j : Nat} (h : CPost w0 wb cb Y C' w2) (hk0 : K0 w wb) (hk : Keeps (fun k => k = j) w2 w3) (hj : w.heap.size ≤ j) (hjb : j < wb.heap.size) (hY : ∀ k, cfoot cb Y k → k < w.heap.size) (hw : w0.heap.size ≤ w.heap.size) : CPost w0 w cb Y C' w3 := by
  obtain ⟨Y', h1, h2, h3⟩ := h
  have hn : ¬ cfoot cb Y' j := fun e => (h2 j e).elim (fun e => by have := hY j e; omega) (fun e => by omega)
  refine ⟨Y', h1.keepS hk (fun k e => ?_), fun k e => (h2 k e).imp id (fun e => Nat.le_trans hk0.size e), ((hk0.mono (S1 := cfoot cb Y) fun _ _ e => e.elim).trans h3 fun _ _ e => e).trans hk (fun k hk e => by have e : k = j := e; omega)⟩
  have e : k = j := e
  subst e
  exact ⟨by omega, fun e => hn (.inl e), fun e => hn (.inr (.inl e)), fun e => hn (.inr (.inr (.inl e))), fun e => hn (.inr (.inr (.inr (.inl e)))), fun i hi e => hn (.inr (.inr (.inr (.inr ⟨i, hi, e⟩))))⟩
def PJoined (w0 w : World) (cb : Nat) (Y : CLay) (C : CoordC) (s : ByteArray) (g g' : GroupC) (m : Int) (e : Ending) (w' : World) : Prop :=
  e = .returned (.tuple #[.agg #[.int .i64 (nextM g m), .int .i64 g'.gen, .int .i64 (firstM g'.ones)], .int .i64 0]) ∧ CPost w0 w cb Y ⟨C.s, C.r, aput C.gs s g', C.off⟩ w'
set_option maxRecDepth 100000 in
set_option maxHeartbeats 4000000 in
theorem pjoin_found (h : CAt w0 w cb C Y) (s : ByteArray) (m now : Int) (tv : Value) (topics : List ByteArray) (h1 : s.toList.isEmpty = false) (h2 : ¬ 100 < (s.size : Int)) {b : Nat} {g : GroupC} (e : aget Y.L s = some (b, g)) {n : Nat} (ok : Ok (n + 1) g) (htl : topics.length ≤ 1000)
    (hm : -9223372036854775808 ≤ m ∧ m ≤ 9223372036854775807) (ht : Out 1 rStr w (fun k => ∀ i, i < Y.L.length → ¬ Y.fp i k) tv topics) (hj : joinE g m topics now = 0) :
    Calls Tryz.prog 12 #[.pointer (some ⟨cb, 0, none⟩), .string s, .int .i64 m, tv, .int .i64 now] w fun e w' => PJoined w0 w cb Y C s g (joinG g m topics now) m e w' := by
  obtain ⟨i, hi, h3, hix, hgr⟩ := h.at e
  have HB := Lib.hid (jw_facts w)
  have HK := Lib.hid ((Keeps.refl (fun _ => False) w).alloc (.cells #[.int .i64 0, .int .i64 0, .int .i64 0] 41))
  have hsz : (w.alloc (.cells #[.int .i64 0, .int .i64 0, .int .i64 0] 41)).heap.size = w.heap.size + 1 := by simp
  generalize hwb : w.alloc (.cells #[.int .i64 0, .int .i64 0, .int .i64 0] 41) = wb at HB HK hsz
  have HWB := Lib.hid hwb
  have hb := h.keep HK.out
  have HJ : Hid (Calls Tryz.prog 39 #[.pointer (some ⟨b, 0, none⟩), .int .i64 m, tv, .int .i64 now] wb fun e w' => e = .returned (.tuple #[.int .i64 (nextM g m), .int .i64 0]) ∧ GrpPost wb (Y.fp i) b (joinG g m topics now) w') := by
    show Calls _ _ _ _ _
    refine (join_any wb (Y.fp i) b g m now tv topics (hgr.keep HK.out fun _ _ e => e) ok.wf hm (by have := ok.next; omega) (ht.keep still_str HK.out (fun _ _ _ e => e) (fun k _ e => e i hi))).mono fun e w' hq => ?_
    have := hq
    unfold JoinPost at this
    rw [if_pos hj, if_pos hj, hj] at this
    exact this
  have okg := ok.join hm htl hj
  have V := Lib.hid (fun (wx : World) (F : Nat → Prop) (hg : Grp wx F b (joinG g m topics now)) => view_any wx F b (joinG g m topics now) hg (by have := okg.wf.len; omega) okg.bnd)
  have HLEN := Lib.hid (joinG_len hj)
  have C2 : Hid (wb.cell? ⟨cb, 2, none⟩ = some (.map (some Y.gb))) := block_cell hb.blk 2
  have c2 : w.cell? ⟨cb, 2, none⟩ = some (.map (some Y.gb)) := block_cell h.blk 2
  have hltw := block_lt h.blk
  have hlt := block_lt hb.blk
  have hlt0 := block_lt h.blk
  have hmm := Lib.hid hb.map
  have HV : Hid (aget (avals gptr Y.L) s = some (.pointer (some ⟨b, 0, none⟩))) := by show _ = _; rw [aget_avals, e]; rfl
  have HH := Lib.hid hb
  have HE := Lib.hid e
  have HIX := Lib.hid hix
  have HJB : Hid (∀ i, i < Y.L.length → ¬ Y.fp i w.heap.size) := fun i hi e => Nat.lt_irrefl _ ((h.grp i hi).ltF _ e)
  have HS := Lib.hid (⟨h.k0.size, hlt0, h.map.lt, block_lt h.off.blk, h.off.map.lt⟩ : w0.heap.size ≤ w.heap.size ∧ cb < w.heap.size ∧ Y.gb < w.heap.size ∧ Y.tb < w.heap.size ∧ Y.ob < w.heap.size)
  have HSZ := Lib.hid hsz
  have HFC := Lib.hid (fun e => (h.fpn i cb hi e).2.1 rfl)
  have HFJ : Hid (¬ Y.fp i w.heap.size) := HJB.out i hi
  clear h e ht hj okg ok hgr h3 hix hb hwb hsz hlt0
  go_enter Tryz.func12, Tryz.ntmps12
  go_wp2_with (at_lookup; rw [HWB.out]; refine wpList_look (strKey Tryz.underlying9) rfl rfl Tryz.underlying67 zeroPtr rfl s rfl hmm.out _ HV.out ?_)
  refine HJ.out.mono ?_
  rintro e w2 ⟨rfl, hp⟩
  have hp2 := hp
  obtain ⟨F', hg2, hF2, hk2⟩ := hp2
  have HKW2 : Hid (Keeps (cfoot cb Y) w w2) := (HK.out.mono (S1 := cfoot cb Y) fun _ _ e => e.elim).trans hk2 (fun k _ e => .inr (.inr (.inr (.inr ⟨i, hi, e⟩))))
  have HB2 : Hid (w2.heap[w.heap.size]? = some (.cells #[.int .i64 0, .int .i64 0, .int .i64 0] 41 (0, 0))) := (hk2.block _ (block_lt HB.out) HFJ.out).trans HB.out
  have d2 : w2.cell? ⟨cb, 2, none⟩ = some (.map (some Y.gb)) := hk2.cell' C2.out HFC.out
  have hlt2 : cb < w2.heap.size := Nat.lt_of_lt_of_le hlt hk2.size
  rw [HIX.out] at hp
  obtain ⟨Y', hY', ⟨e1, e2, e3, e4⟩, hfp⟩ := HH.out.turn HE.out hp
  have HM2 : Hid (MapAt .string w2 Y.gb (avals gptr Y'.L)) := by have := hY'.map; rw [e1] at this; exact this
  have HY := Lib.hid hY'
  have HG := Lib.hid (⟨e1, e2, e3, e4⟩ : Y'.gb = Y.gb ∧ Y'.tb = Y.tb ∧ Y'.ob = Y.ob ∧ Y'.L = aput Y.L s (b, joinG g m topics now))
  have HFP := Lib.hid hfp
  clear hg2 hF2 hk2 hp hY' e1 e2 e3 e4 hfp c2 hlt hmm
  go_wp2_with (at_mapUpdate; refine wpList_put (strKey Tryz.underlying9) rfl rfl Tryz.underlying67 rfl s rfl HM2.out (.pointer (some ⟨b, 0, none⟩)) rfl ?_; intro ob hm3)
  have HM4 : Hid (CAt w0 (setObjAt w2 Y.gb ob) cb ⟨C.s, C.r, aput C.gs s (joinG g m topics now), C.off⟩ Y') := by
    have e1 : aput (avals gptr Y'.L) s (.pointer (some ⟨b, 0, none⟩)) = avals gptr Y'.L := by
      rw [show Value.pointer (some ⟨b, 0, none⟩) = gptr (b, joinG g m topics now) from rfl, aput_avals, HG.out.2.2.2, aput_same (aget_aput_self _ _ _)]
    rw [e1] at hm3
    have hm4 : MapAt .string (setObjAt w2 Y'.gb ob) Y'.gb (avals gptr Y'.L) := by rw [HG.out.1]; exact hm3
    have := HY.out.reput hm4
    rw [HG.out.1] at this
    exact this
  have HB3 : Hid ((setObjAt w2 Y.gb ob).heap[w.heap.size]? = some (.cells #[.int .i64 0, .int .i64 0, .int .i64 0] 41 (0, 0))) := (setObjAt_other _ _ (by have := HS.out; omega)).trans HB2.out
  have HKW3 : Hid (Keeps (cfoot cb Y) w (setObjAt w2 Y.gb ob)) := HKW2.out.trans (Keeps.setObj (S := fun k => k = Y.gb) (Keeps.refl _ _) (fun _ => rfl) _) (fun k _ e => .inr (.inl e))
  generalize setObjAt w2 Y.gb ob = w3 at HM4 HB3 HKW3 ⊢
  have hgr3 := HM4.out.at (s := s) (b := b) (g := joinG g m topics now) (by rw [HG.out.2.2.2]; exact aget_aput_self _ _ _)
  obtain ⟨i3, hi3, _, _, hgr3⟩ := hgr3
  refine (V.out w3 _ hgr3).mono ?_
  intro e w4 hq
  obtain ⟨va, vc, rfl, hv, k4⟩ := hq.seen
  obtain ⟨r, rfl, hr1, hr2, hr3⟩ := view_first hv HLEN.out
  have b4 : w4.heap[w.heap.size]? = some (.cells #[.int .i64 0, .int .i64 0, .int .i64 0] 41 (0, 0)) := (k4.block _ (block_lt HB3.out) (fun e => e)).trans HB3.out
  have q0 := block_cell b4 0
  have q1 := block_cell b4 1
  have q2 := block_cell b4 2
  have f0 := block_free b4 0
  have f1 := block_free b4 1
  have f2 := block_free b4 2
  have hj4 := block_lt b4
  have HX : Hid (∀ o, (((((w4.setCell ⟨w.heap.size, 0, none⟩ (.int .i64 (nextM g m))).setCell ⟨w.heap.size, 1, none⟩ (.int .i64 (joinG g m topics now).gen)).setCell ⟨w.heap.size, 2, none⟩ (.int .i64 (firstM (joinG g m topics now).ones))).alloc o).drew).heap[w.heap.size]? = some (.cells #[.int .i64 (nextM g m), .int .i64 (joinG g m topics now).gen, .int .i64 (firstM (joinG g m topics now).ones)] 41 (0, 0))) :=
    fun o => (Below.heap_alloc _ _ _ (by simpa using hj4)).trans (setCell_block (setCell_block (setCell_block b4 0 _) 1 _) 2 _)
  have HSS : Hid (∀ k, k = w.heap.size → w0.heap.size ≤ k ∧ k ≠ cb ∧ k ≠ Y'.gb ∧ k ≠ Y'.tb ∧ k ≠ Y'.ob ∧ ∀ i, i < Y'.L.length → ¬ Y'.fp i k) := by
    show ∀ k, _ → _
    rintro k rfl
    have hs := HS.out
    have hz := HSZ.out
    refine ⟨hs.1, by omega, by rw [HG.out.1]; omega, by rw [HG.out.2.1]; omega, by rw [HG.out.2.2.1]; omega, fun j hj e => ?_⟩
    rcases HFP.out j _ hj e with e2 | e2
    · exact HJB.out j e2.1 e2.2
    · omega
  have HFT : Hid (∀ k, cfoot cb Y' k → cfoot cb Y k ∨ w.heap.size ≤ k) := by
    show ∀ k, _ → _
    intro k e
    have hz := HSZ.out
    obtain ⟨e1, e2, e3, e4⟩ := HG.out
    rcases e with e | e | e | e | ⟨j, hj, e⟩
    · exact .inl (.inl e)
    · exact .inl (.inr (.inl (e.trans e1)))
    · exact .inl (.inr (.inr (.inl (e.trans e2))))
    · exact .inl (.inr (.inr (.inr (.inl (e.trans e3)))))
    · exact (HFP.out j k hj e).imp (fun e => .inr (.inr (.inr (.inr ⟨j, e.1, e.2⟩)))) (fun e => by omega)
  have HK4 := Lib.hid k4
  have hln : 0 < (joinG g m topics now).ones.length := Nat.pos_of_ne_zero HLEN.out
  clear hq hv k4 hgr3 hm3 hr2 b4
  go_wp2
  go_region
  all_goals go_wp2
  (try simp only [Exit.inBlock, Exit.then])
  all_goals refine bodyPost_ret (results_cell_row2 rfl _ _ _ _ _ _ _ rfl (HX.out _) Tryz.underlying41 rfl (by kernel_rfl)) rfl ?_
  all_goals exact ⟨rfl, Y', (HM4.out.keep HK4.out).keepS (S := fun k => k = w.heap.size) ((((((Keeps.refl (fun k => k = w.heap.size) w4).setC 0 _ (fun _ => rfl)).setC 1 _ (fun _ => rfl)).setC 2 _ (fun _ => rfl)).alloc _).drew) HSS.out, HFT.out, (HKW3.out.trans HK4.out (fun _ _ e => e.elim)).trans ((((((Keeps.refl (fun k => k = w.heap.size) w4).setC 0 _ (fun _ => rfl)).setC 1 _ (fun _ => rfl)).setC 2 _ (fun _ => rfl)).alloc _).drew) (fun k hk e => by have e : k = w.heap.size := e; omega)⟩
set_option maxRecDepth 100000 in
set_option maxHeartbeats 4000000 in
theorem pjoin_new (h : CAt w0 w cb C Y) (s : ByteArray) (m now : Int) (tv : Value) (topics : List ByteArray) (h1 : s.toList.isEmpty = false) (h2 : ¬ 100 < (s.size : Int)) (e : aget Y.L s = none) (hf : C.gs.length < 20)
    (hsr : (1 ≤ C.s ∧ C.s ≤ 100000) ∧ 1 ≤ C.r ∧ C.r ≤ 100000) (htl : topics.length ≤ 1000)
    (hm : -9223372036854775808 ≤ m ∧ m ≤ 9223372036854775807) (ht : Out 1 rStr w (fun _ => True) tv topics) (hj : joinE (newG C.s C.r) m topics now = 0) :
    Calls Tryz.prog 12 #[.pointer (some ⟨cb, 0, none⟩), .string s, .int .i64 m, tv, .int .i64 now] w fun e w' => PJoined w0 w cb Y C s (newG C.s C.r) (joinG (newG C.s C.r) m topics now) m e w' := by
  have HB := Lib.hid (jw_facts w)
  have HK := Lib.hid ((Keeps.refl (fun _ => False) w).alloc (.cells #[.int .i64 0, .int .i64 0, .int .i64 0] 41))
  have hsz : (w.alloc (.cells #[.int .i64 0, .int .i64 0, .int .i64 0] 41)).heap.size = w.heap.size + 1 := by simp
  generalize hwb : w.alloc (.cells #[.int .i64 0, .int .i64 0, .int .i64 0] 41) = wb at HB HK hsz
  have HWB := Lib.hid hwb
  have hb := h.keep HK.out
  have HT := Lib.hid (ht.keep still_str HK.out (fun _ _ _ e => e) (fun _ _ e => e) (G' := fun _ => True))
  have HN := Lib.hid (fun (wx : World) => new_any C.s C.r wx hsr.1 hsr.2)
  have ok := Ok.new hsr.1 hsr.2
  have HJ : Hid (∀ (wx : World) (nb : Nat), K0 wb wx → wb.heap.size ≤ nb → Grp wx (fun k => k = nb) nb (newG C.s C.r) → Calls Tryz.prog 39 #[.pointer (some ⟨nb, 0, none⟩), .int .i64 m, tv, .int .i64 now] wx fun e w' => e = .returned (.tuple #[.int .i64 (nextM (newG C.s C.r) m), .int .i64 0]) ∧ GrpPost wx (fun k => k = nb) nb (joinG (newG C.s C.r) m topics now) w') := by
    show ∀ wx nb, _ → _ → _ → _
    intro wx nb hk hnb hg
    refine (join_any wx (fun k => k = nb) nb (newG C.s C.r) m now tv topics hg ok.wf hm (by have := ok.next; omega) (HT.out.keep still_str hk (fun _ _ _ e => e) (fun k hlt _ e => by omega))).mono fun e w' hq => ?_
    have := hq
    unfold JoinPost at this
    rw [if_pos hj, if_pos hj, hj] at this
    exact this
  have okg := (ok.le (m := 999 + 1) (by omega)).join hm htl hj
  have V := Lib.hid (fun (wx : World) (F : Nat → Prop) (b : Nat) (hg : Grp wx F b (joinG (newG C.s C.r) m topics now)) => view_any wx F b (joinG (newG C.s C.r) m topics now) hg (by have := okg.wf.len; omega) okg.bnd)
  have HLEN := Lib.hid (joinG_len hj)
  have C2 : Hid (wb.cell? ⟨cb, 2, none⟩ = some (.map (some Y.gb))) := block_cell hb.blk 2
  have c2 : w.cell? ⟨cb, 2, none⟩ = some (.map (some Y.gb)) := block_cell h.blk 2
  have hltw := block_lt h.blk
  have cw2 := C2.out
  have c0 : wb.cell? ⟨cb, 0, none⟩ = some (.int .i64 C.s) := block_cell hb.blk 0
  have c1 : wb.cell? ⟨cb, 1, none⟩ = some (.int .i64 C.r) := block_cell hb.blk 1
  have hlt := block_lt hb.blk
  have hlt0 := block_lt h.blk
  have hmm := Lib.hid hb.map
  have HV : Hid (aget (avals gptr Y.L) s = none) := by show _ = _; rw [aget_avals, e]; rfl
  have hl : ¬ 20 ≤ ((avals gptr Y.L).length : Int) := by rw [avals_len]; have := congrArg List.length h.core; simp [gcore] at this; omega
  have HH := Lib.hid hb
  have HE := Lib.hid e
  have HJB : Hid (∀ i, i < Y.L.length → ¬ Y.fp i w.heap.size) := fun i hi e => Nat.lt_irrefl _ ((h.grp i hi).ltF _ e)
  have HS := Lib.hid (⟨h.k0.size, hlt0, h.map.lt, block_lt h.off.blk, h.off.map.lt⟩ : w0.heap.size ≤ w.heap.size ∧ cb < w.heap.size ∧ Y.gb < w.heap.size ∧ Y.tb < w.heap.size ∧ Y.ob < w.heap.size)
  have HSZ := Lib.hid hsz
  have hkk : K0 wb wb.drew := (Keeps.refl _ _).drew
  clear h e ht hj okg ok hb hwb hsz hlt0 hf hsr
  go_enter Tryz.func12, Tryz.ntmps12
  go_wp2_with (first | (at_lookup; rw [HWB.out]; refine wpList_look (strKey Tryz.underlying9) rfl rfl Tryz.underlying67 zeroPtr rfl s rfl hmm.out _ HV.out ?_) | (at_len; refine wpList_len rfl rfl Tryz.underlying67 rfl hmm.out ?_))
  go_region_held3 (fun w' => w'.cell? ⟨cb, 0, none⟩ = some (.int .i64 C.s) ∧ w'.cell? ⟨cb, 1, none⟩ = some (.int .i64 C.r))
    (first | go_keep | (go_split_ands; refine ⟨?_, ?_⟩ <;> first | assumption | exact Keeps.cell' (by assumption) (by assumption) (fun e => e)))
    (first | (go_at_call 23; refine (HN.out _).mono ?_; rintro e w1 ⟨rfl, hg1, hk1, hz1⟩))
  have HK1 := Lib.hid (K0.tr hkk hk1)
  have HG1 : Hid (Grp w1 (fun k => k = wb.heap.size) wb.heap.size (newG C.s C.r)) := hg1
  have d2 : w1.cell? ⟨cb, 2, none⟩ = some (.map (some Y.gb)) := HK1.out.cell' C2.out (fun e => e)
  have hlt1 : cb < w1.heap.size := Nat.lt_of_lt_of_le hlt HK1.out.size
  clear hg1 hk1 hz1
  go_wp2_with fail
  refine (HJ.out _ _ HK1.out (Nat.le_refl _) HG1.out).mono ?_
  rintro e w2 ⟨rfl, hp⟩
  obtain ⟨F', hg2, hF2, hk2⟩ := hp
  have hK2 : K0 wb w2 := HK1.out.trans hk2 (fun k hk e => by have e : k = wb.heap.size := e; omega)
  have HK2 := Lib.hid hK2
  have HKW2 : Hid (Keeps (cfoot cb Y) w w2) := (K0.tr HK.out hK2).mono fun _ _ e => e.elim
  have HB2 : Hid (w2.heap[w.heap.size]? = some (.cells #[.int .i64 0, .int .i64 0, .int .i64 0] 41 (0, 0))) := (hK2.block _ (block_lt HB.out) (fun e => e)).trans HB.out
  have e2 : w2.cell? ⟨cb, 2, none⟩ = some (.map (some Y.gb)) := hK2.cell' C2.out (fun e => e)
  have hlt2 : cb < w2.heap.size := Nat.lt_of_lt_of_le hlt hK2.size
  have HM2 : Hid (MapAt .string w2 Y.gb (avals gptr Y.L)) := HH.out.map.keep hK2 (fun e => e)
  have HG2 := Lib.hid hg2
  have HF2 : Hid (∀ k, F' k → wb.heap.size ≤ k) := fun k e => (hF2 k e).elim (fun e => by have e : k = wb.heap.size := e; omega) (fun e => Nat.le_trans HK1.out.size e)
  have hnb : wb.heap.size < w2.heap.size := by have h5 := HG1.out.ltF _ rfl; have := hk2.size; omega
  clear hg2 hF2 hk2 hK2 c2 cw2 c0 c1 d2 hlt hlt1 hmm
  go_wp2_with (at_mapUpdate; refine wpList_put (strKey Tryz.underlying9) rfl rfl Tryz.underlying67 rfl s rfl HM2.out (.pointer (some ⟨wb.heap.size, 0, none⟩)) rfl ?_; intro ob hm3)
  obtain ⟨Y', hY', ⟨y1, y2, y3, y4⟩, hfp⟩ := HH.out.more (o := ob) HE.out HK2.out HG2.out HF2.out hm3
  have HM4 := Lib.hid hY'
  have HG := Lib.hid (⟨y1, y2, y3, y4⟩ : Y'.gb = Y.gb ∧ Y'.tb = Y.tb ∧ Y'.ob = Y.ob ∧ Y'.L = aput Y.L s (wb.heap.size, joinG (newG C.s C.r) m topics now))
  have HFP := Lib.hid hfp
  have HB3 : Hid ((setObjAt w2 Y.gb ob).heap[w.heap.size]? = some (.cells #[.int .i64 0, .int .i64 0, .int .i64 0] 41 (0, 0))) := (setObjAt_other _ _ (by have := HS.out; omega)).trans HB2.out
  clear hY' y1 y2 y3 y4 hfp
  have HKW3 : Hid (Keeps (cfoot cb Y) w (setObjAt w2 Y.gb ob)) := HKW2.out.trans (Keeps.setObj (S := fun k => k = Y.gb) (Keeps.refl _ _) (fun _ => rfl) _) (fun k _ e => .inr (.inl e))
  generalize setObjAt w2 Y.gb ob = w3 at HM4 HB3 HKW3 ⊢
  have hgr3 := HM4.out.at (s := s) (b := wb.heap.size) (g := joinG (newG C.s C.r) m topics now) (by rw [HG.out.2.2.2]; exact aget_aput_self _ _ _)
  obtain ⟨i3, hi3, _, _, hgr3⟩ := hgr3
  refine (V.out w3 _ _ hgr3).mono ?_
  intro e w4 hq
  obtain ⟨va, vc, rfl, hv, k4⟩ := hq.seen
  obtain ⟨r, rfl, hr1, hr2, hr3⟩ := view_first hv HLEN.out
  have b4 : w4.heap[w.heap.size]? = some (.cells #[.int .i64 0, .int .i64 0, .int .i64 0] 41 (0, 0)) := (k4.block _ (block_lt HB3.out) (fun e => e)).trans HB3.out
  have q0 := block_cell b4 0
  have q1 := block_cell b4 1
  have q2 := block_cell b4 2
  have f0 := block_free b4 0
  have f1 := block_free b4 1
  have f2 := block_free b4 2
  have hj4 := block_lt b4
  have HX : Hid (∀ o, (((((w4.setCell ⟨w.heap.size, 0, none⟩ (.int .i64 (nextM (newG C.s C.r) m))).setCell ⟨w.heap.size, 1, none⟩ (.int .i64 (joinG (newG C.s C.r) m topics now).gen)).setCell ⟨w.heap.size, 2, none⟩ (.int .i64 (firstM (joinG (newG C.s C.r) m topics now).ones))).alloc o).drew).heap[w.heap.size]? = some (.cells #[.int .i64 (nextM (newG C.s C.r) m), .int .i64 (joinG (newG C.s C.r) m topics now).gen, .int .i64 (firstM (joinG (newG C.s C.r) m topics now).ones)] 41 (0, 0))) :=
    fun o => (Below.heap_alloc _ _ _ (by simpa using hj4)).trans (setCell_block (setCell_block (setCell_block b4 0 _) 1 _) 2 _)
  have HSS : Hid (∀ k, k = w.heap.size → w0.heap.size ≤ k ∧ k ≠ cb ∧ k ≠ Y'.gb ∧ k ≠ Y'.tb ∧ k ≠ Y'.ob ∧ ∀ i, i < Y'.L.length → ¬ Y'.fp i k) := by
    show ∀ k, _ → _
    rintro k rfl
    have hs := HS.out
    have hz := HSZ.out
    refine ⟨hs.1, by omega, by rw [HG.out.1]; omega, by rw [HG.out.2.1]; omega, by rw [HG.out.2.2.1]; omega, fun j hj e => ?_⟩
    rcases HFP.out j _ hj e with e2 | e2
    · exact HJB.out j e2.1 e2.2
    · omega
  have HFT : Hid (∀ k, cfoot cb Y' k → cfoot cb Y k ∨ w.heap.size ≤ k) := by
    show ∀ k, _ → _
    intro k e
    have hz := HSZ.out
    obtain ⟨e1, e2, e3, e4⟩ := HG.out
    rcases e with e | e | e | e | ⟨j, hj, e⟩
    · exact .inl (.inl e)
    · exact .inl (.inr (.inl (e.trans e1)))
    · exact .inl (.inr (.inr (.inl (e.trans e2))))
    · exact .inl (.inr (.inr (.inr (.inl (e.trans e3)))))
    · exact (HFP.out j k hj e).imp (fun e => .inr (.inr (.inr (.inr ⟨j, e.1, e.2⟩)))) (fun e => by omega)
  have HK4 := Lib.hid k4
  have hln : 0 < (joinG (newG C.s C.r) m topics now).ones.length := Nat.pos_of_ne_zero HLEN.out
  clear hq hv k4 hgr3 hm3 hr2 b4
  go_wp2
  go_region
  all_goals go_wp2
  (try simp only [Exit.inBlock, Exit.then])
  all_goals refine bodyPost_ret (results_cell_row2 rfl _ _ _ _ _ _ _ rfl (HX.out _) Tryz.underlying41 rfl (by kernel_rfl)) rfl ?_
  all_goals exact ⟨rfl, Y', (HM4.out.keep HK4.out).keepS (S := fun k => k = w.heap.size) ((((((Keeps.refl (fun k => k = w.heap.size) w4).setC 0 _ (fun _ => rfl)).setC 1 _ (fun _ => rfl)).setC 2 _ (fun _ => rfl)).alloc _).drew) HSS.out, HFT.out, (HKW3.out.trans HK4.out (fun _ _ e => e.elim)).trans ((((((Keeps.refl (fun k => k = w.heap.size) w4).setC 0 _ (fun _ => rfl)).setC 1 _ (fun _ => rfl)).setC 2 _ (fun _ => rfl)).alloc _).drew) (fun k hk e => by have e : k = w.heap.size := e; omega)⟩
set_option maxRecDepth 100000 in
set_option maxHeartbeats 4000000 in
theorem pjoin_found_err (h : CAt w0 w cb C Y) (s : ByteArray) (m now : Int) (tv : Value) (topics : List ByteArray) (h1 : s.toList.isEmpty = false) (h2 : ¬ 100 < (s.size : Int)) {b : Nat} {g : GroupC} (e : aget Y.L s = some (b, g)) {n : Nat} (ok : Ok (n + 1) g) (_htl : topics.length ≤ 1000)
    (hm : -9223372036854775808 ≤ m ∧ m ≤ 9223372036854775807) (ht : Out 1 rStr w (fun k => ∀ i, i < Y.L.length → ¬ Y.fp i k) tv topics) (hj : ¬ joinE g m topics now = 0) :
    Calls Tryz.prog 12 #[.pointer (some ⟨cb, 0, none⟩), .string s, .int .i64 m, tv, .int .i64 now] w fun e w' => e = .returned (.tuple #[.agg #[.int .i64 0, .int .i64 0, .int .i64 0], .int .i64 (joinE g m topics now)]) ∧ CPost w0 w cb Y C w' := by
  obtain ⟨i, hi, h3, hix, hgr⟩ := h.at e
  have HB := Lib.hid (jw_facts w)
  have HK := Lib.hid ((Keeps.refl (fun _ => False) w).alloc (.cells #[.int .i64 0, .int .i64 0, .int .i64 0] 41))
  have hsz : (w.alloc (.cells #[.int .i64 0, .int .i64 0, .int .i64 0] 41)).heap.size = w.heap.size + 1 := by simp
  generalize hwb : w.alloc (.cells #[.int .i64 0, .int .i64 0, .int .i64 0] 41) = wb at HB HK hsz
  have HWB := Lib.hid hwb
  have hb := h.keep HK.out
  have HJ : Hid (Calls Tryz.prog 39 #[.pointer (some ⟨b, 0, none⟩), .int .i64 m, tv, .int .i64 now] wb fun e w' => e = .returned (.tuple #[.int .i64 0, .int .i64 (joinE g m topics now)]) ∧ GrpPost wb (Y.fp i) b g w') := by
    show Calls _ _ _ _ _
    refine (join_any wb (Y.fp i) b g m now tv topics (hgr.keep HK.out fun _ _ e => e) ok.wf hm (by have := ok.next; omega) (ht.keep still_str HK.out (fun _ _ _ e => e) (fun k _ e => e i hi))).mono fun e w' hq => ?_
    have := hq
    unfold JoinPost at this
    rw [if_neg hj, if_neg hj] at this
    exact this
  have C2 : Hid (wb.cell? ⟨cb, 2, none⟩ = some (.map (some Y.gb))) := block_cell hb.blk 2
  have c2 : w.cell? ⟨cb, 2, none⟩ = some (.map (some Y.gb)) := block_cell h.blk 2
  have hltw := block_lt h.blk
  have hlt := block_lt hb.blk
  have hlt0 := block_lt h.blk
  have hmm := Lib.hid hb.map
  have HV : Hid (aget (avals gptr Y.L) s = some (.pointer (some ⟨b, 0, none⟩))) := by show _ = _; rw [aget_avals, e]; rfl
  have HH := Lib.hid hb
  have HE := Lib.hid e
  have HIX := Lib.hid hix
  have HJB : Hid (∀ i, i < Y.L.length → ¬ Y.fp i w.heap.size) := fun i hi e => Nat.lt_irrefl _ ((h.grp i hi).ltF _ e)
  have HS := Lib.hid (⟨h.k0.size, hlt0, h.map.lt, block_lt h.off.blk, h.off.map.lt⟩ : w0.heap.size ≤ w.heap.size ∧ cb < w.heap.size ∧ Y.gb < w.heap.size ∧ Y.tb < w.heap.size ∧ Y.ob < w.heap.size)
  have HSZ := Lib.hid hsz
  have HLT := Lib.hid h.ltC
  have HFC := Lib.hid (fun e => (h.fpn i cb hi e).2.1 rfl)
  have HFJ : Hid (¬ Y.fp i w.heap.size) := HJB.out i hi
  have hjb : (joinE g m topics now == 0) = false := by simpa using hj
  have hjc : (joinE g m topics now != 0) = true := by simpa using hj
  generalize joinE g m topics now = er at *
  clear h e ht hj ok hgr h3 hix hb hwb hsz hlt0
  go_enter Tryz.func12, Tryz.ntmps12
  go_wp2_with (at_lookup; rw [HWB.out]; refine wpList_look (strKey Tryz.underlying9) rfl rfl Tryz.underlying67 zeroPtr rfl s rfl hmm.out _ HV.out ?_)
  refine HJ.out.mono ?_
  rintro e w2 ⟨rfl, hp⟩
  have hp2 := hp
  obtain ⟨F', hg2, hF2, hk2⟩ := hp2
  have HB2 : Hid (w2.heap[w.heap.size]? = some (.cells #[.int .i64 0, .int .i64 0, .int .i64 0] 41 (0, 0))) := (hk2.block _ (block_lt HB.out) HFJ.out).trans HB.out
  rw [HIX.out] at hp
  have HP := Lib.hid ((HH.out.turnP HE.out hp).box HK.out ((((Keeps.refl (fun k => k = w.heap.size) w2).setC 0 (.int .i64 0) (fun _ => rfl)).setC 1 (.int .i64 0) (fun _ => rfl)).setC 2 (.int .i64 0) (fun _ => rfl)) (Nat.le_refl _) (by have := HSZ.out; omega) HLT.out HS.out.1)
  have HAG : Hid (aput C.gs s g = C.gs) := by show _ = _; exact aput_same ((HH.out.agetL s).trans (by rw [HE.out]; rfl))
  have b2 := HB2.out
  have q0 := block_cell b2 0
  have q1 := block_cell b2 1
  have q2 := block_cell b2 2
  have f0 := block_free b2 0
  have f1 := block_free b2 1
  have f2 := block_free b2 2
  have hj2 := block_lt b2
  have HZ : Hid ((((w2.setCell ⟨w.heap.size, 0, none⟩ (.int .i64 0)).setCell ⟨w.heap.size, 1, none⟩ (.int .i64 0)).setCell ⟨w.heap.size, 2, none⟩ (.int .i64 0)).heap[w.heap.size]? = some (.cells #[.int .i64 0, .int .i64 0, .int .i64 0] 41 (0, 0))) := setCell_block (setCell_block (setCell_block b2 0 _) 1 _) 2 _
  clear hp hg2 hF2 hk2 b2
  go_wp2
  (try simp only [Exit.inBlock, Exit.then])
  refine bodyPost_ret (results_cell_row2 rfl _ _ _ _ _ _ _ rfl HZ.out Tryz.underlying41 rfl (by kernel_rfl)) rfl ?_
  refine ⟨rfl, ?_⟩
  have h9 := HP.out
  rw [HAG.out] at h9
  exact h9
set_option maxRecDepth 100000 in
set_option maxHeartbeats 4000000 in
theorem pjoin_new_err (h : CAt w0 w cb C Y) (s : ByteArray) (m now : Int) (tv : Value) (topics : List ByteArray) (h1 : s.toList.isEmpty = false) (h2 : ¬ 100 < (s.size : Int)) (e : aget Y.L s = none) (hf : C.gs.length < 20)
    (hsr : (1 ≤ C.s ∧ C.s ≤ 100000) ∧ 1 ≤ C.r ∧ C.r ≤ 100000) (_htl : topics.length ≤ 1000)
    (hm : -9223372036854775808 ≤ m ∧ m ≤ 9223372036854775807) (ht : Out 1 rStr w (fun _ => True) tv topics) (hj : ¬ joinE (newG C.s C.r) m topics now = 0) :
    Calls Tryz.prog 12 #[.pointer (some ⟨cb, 0, none⟩), .string s, .int .i64 m, tv, .int .i64 now] w fun e w' => e = .returned (.tuple #[.agg #[.int .i64 0, .int .i64 0, .int .i64 0], .int .i64 (joinE (newG C.s C.r) m topics now)]) ∧ CPost w0 w cb Y C w' := by
  have HB := Lib.hid (jw_facts w)
  have HK := Lib.hid ((Keeps.refl (fun _ => False) w).alloc (.cells #[.int .i64 0, .int .i64 0, .int .i64 0] 41))
  have hsz : (w.alloc (.cells #[.int .i64 0, .int .i64 0, .int .i64 0] 41)).heap.size = w.heap.size + 1 := by simp
  generalize hwb : w.alloc (.cells #[.int .i64 0, .int .i64 0, .int .i64 0] 41) = wb at HB HK hsz
  have HWB := Lib.hid hwb
  have hb := h.keep HK.out
  have HT := Lib.hid (ht.keep still_str HK.out (fun _ _ _ e => e) (fun _ _ e => e) (G' := fun _ => True))
  have HN := Lib.hid (fun (wx : World) => new_any C.s C.r wx hsr.1 hsr.2)
  have ok := Ok.new hsr.1 hsr.2
  have HJ : Hid (∀ (wx : World) (nb : Nat), K0 wb wx → wb.heap.size ≤ nb → Grp wx (fun k => k = nb) nb (newG C.s C.r) → Calls Tryz.prog 39 #[.pointer (some ⟨nb, 0, none⟩), .int .i64 m, tv, .int .i64 now] wx fun e w' => e = .returned (.tuple #[.int .i64 0, .int .i64 (joinE (newG C.s C.r) m topics now)]) ∧ GrpPost wx (fun k => k = nb) nb (newG C.s C.r) w') := by
    show ∀ wx nb, _ → _ → _ → _
    intro wx nb hk hnb hg
    refine (join_any wx (fun k => k = nb) nb (newG C.s C.r) m now tv topics hg ok.wf hm (by have := ok.next; omega) (HT.out.keep still_str hk (fun _ _ _ e => e) (fun k hlt _ e => by omega))).mono fun e w' hq => ?_
    have := hq
    unfold JoinPost at this
    rw [if_neg hj, if_neg hj] at this
    exact this
  have C2 : Hid (wb.cell? ⟨cb, 2, none⟩ = some (.map (some Y.gb))) := block_cell hb.blk 2
  have c2 : w.cell? ⟨cb, 2, none⟩ = some (.map (some Y.gb)) := block_cell h.blk 2
  have hltw := block_lt h.blk
  have cw2 := C2.out
  have c0 : wb.cell? ⟨cb, 0, none⟩ = some (.int .i64 C.s) := block_cell hb.blk 0
  have c1 : wb.cell? ⟨cb, 1, none⟩ = some (.int .i64 C.r) := block_cell hb.blk 1
  have hlt := block_lt hb.blk
  have hlt0 := block_lt h.blk
  have hmm := Lib.hid hb.map
  have HV : Hid (aget (avals gptr Y.L) s = none) := by show _ = _; rw [aget_avals, e]; rfl
  have hl : ¬ 20 ≤ ((avals gptr Y.L).length : Int) := by rw [avals_len]; have := congrArg List.length h.core; simp [gcore] at this; omega
  have HH := Lib.hid hb
  have HE := Lib.hid e
  have HJB : Hid (∀ i, i < Y.L.length → ¬ Y.fp i w.heap.size) := fun i hi e => Nat.lt_irrefl _ ((h.grp i hi).ltF _ e)
  have HS := Lib.hid (⟨h.k0.size, hlt0, h.map.lt, block_lt h.off.blk, h.off.map.lt⟩ : w0.heap.size ≤ w.heap.size ∧ cb < w.heap.size ∧ Y.gb < w.heap.size ∧ Y.tb < w.heap.size ∧ Y.ob < w.heap.size)
  have HSZ := Lib.hid hsz
  have HLT := Lib.hid h.ltC
  have hkk : K0 wb wb.drew := (Keeps.refl _ _).drew
  have hjb : (joinE (newG C.s C.r) m topics now == 0) = false := by simpa using hj
  have hjc : (joinE (newG C.s C.r) m topics now != 0) = true := by simpa using hj
  generalize joinE (newG C.s C.r) m topics now = er at *
  clear h e ht hj ok hb hwb hsz hlt0 hf hsr
  go_enter Tryz.func12, Tryz.ntmps12
  go_wp2_with (first | (at_lookup; rw [HWB.out]; refine wpList_look (strKey Tryz.underlying9) rfl rfl Tryz.underlying67 zeroPtr rfl s rfl hmm.out _ HV.out ?_) | (at_len; refine wpList_len rfl rfl Tryz.underlying67 rfl hmm.out ?_))
  go_region_held3 (fun w' => w'.cell? ⟨cb, 0, none⟩ = some (.int .i64 C.s) ∧ w'.cell? ⟨cb, 1, none⟩ = some (.int .i64 C.r))
    (first | go_keep | (go_split_ands; refine ⟨?_, ?_⟩ <;> first | assumption | exact Keeps.cell' (by assumption) (by assumption) (fun e => e)))
    (first | (go_at_call 23; refine (HN.out _).mono ?_; rintro e w1 ⟨rfl, hg1, hk1, hz1⟩))
  have HK1 := Lib.hid (K0.tr hkk hk1)
  have HG1 : Hid (Grp w1 (fun k => k = wb.heap.size) wb.heap.size (newG C.s C.r)) := hg1
  have d2 : w1.cell? ⟨cb, 2, none⟩ = some (.map (some Y.gb)) := HK1.out.cell' C2.out (fun e => e)
  have hlt1 : cb < w1.heap.size := Nat.lt_of_lt_of_le hlt HK1.out.size
  clear hg1 hk1 hz1
  go_wp2_with fail
  refine (HJ.out _ _ HK1.out (Nat.le_refl _) HG1.out).mono ?_
  rintro e w2 ⟨rfl, hp⟩
  obtain ⟨F', hg2, hF2, hk2⟩ := hp
  have hK2 : K0 wb w2 := HK1.out.trans hk2 (fun k hk e => by have e : k = wb.heap.size := e; omega)
  have HB2 : Hid (w2.heap[w.heap.size]? = some (.cells #[.int .i64 0, .int .i64 0, .int .i64 0] 41 (0, 0))) := (hK2.block _ (block_lt HB.out) (fun e => e)).trans HB.out
  have HP := Lib.hid ((HH.out.post0 hK2).box HK.out ((((Keeps.refl (fun k => k = w.heap.size) w2).setC 0 (.int .i64 0) (fun _ => rfl)).setC 1 (.int .i64 0) (fun _ => rfl)).setC 2 (.int .i64 0) (fun _ => rfl)) (Nat.le_refl _) (by have := HSZ.out; omega) HLT.out HS.out.1)
  have b2 := HB2.out
  have q0 := block_cell b2 0
  have q1 := block_cell b2 1
  have q2 := block_cell b2 2
  have f0 := block_free b2 0
  have f1 := block_free b2 1
  have f2 := block_free b2 2
  have hj2 := block_lt b2
  have HZ : Hid ((((w2.setCell ⟨w.heap.size, 0, none⟩ (.int .i64 0)).setCell ⟨w.heap.size, 1, none⟩ (.int .i64 0)).setCell ⟨w.heap.size, 2, none⟩ (.int .i64 0)).heap[w.heap.size]? = some (.cells #[.int .i64 0, .int .i64 0, .int .i64 0] 41 (0, 0))) := setCell_block (setCell_block (setCell_block b2 0 _) 1 _) 2 _
  clear hg2 hF2 hk2 hK2 b2
  go_wp2
  (try simp only [Exit.inBlock, Exit.then])
  refine bodyPost_ret (results_cell_row2 rfl _ _ _ _ _ _ _ rfl HZ.out Tryz.underlying41 rfl (by kernel_rfl)) rfl ?_
  exact ⟨rfl, HP.out⟩
/-- What Join answers. -/
def joinR (C : CoordC) (s : ByteArray) (m : Int) (topics : List ByteArray) (now : Int) : Int × Int × Int :=
  if cjoinE C s m topics now = 0 then (nextM (cbase C s) m, (cjoinG C s m topics now).gen, firstM (cjoinG C s m topics now).ones) else (0, 0, 0)
def PJoinP (w0 w : World) (cb : Nat) (Y : CLay) (C : CoordC) (s : ByteArray) (m : Int) (topics : List ByteArray) (now : Int) (e : Ending) (w' : World) : Prop :=
  e = .returned (.tuple #[.agg #[.int .i64 (joinR C s m topics now).1, .int .i64 (joinR C s m topics now).2.1, .int .i64 (joinR C s m topics now).2.2], .int .i64 (cjoinE C s m topics now)]) ∧ CPost w0 w cb Y (cjoinC C s m topics now) w'
theorem PJoinP.err {w' : World} {s : ByteArray} {m : Int} {topics : List ByteArray} {now x : Int} (h : cjoinE C s m topics now = x) (hx : ¬ x = 0) (hq : CPost w0 w cb Y C w') : PJoinP w0 w cb Y C s m topics now (.returned (.tuple #[.agg #[.int .i64 0, .int .i64 0, .int .i64 0], .int .i64 x])) w' := by
  unfold PJoinP joinR cjoinC
  rw [h, if_neg hx, if_neg hx]
  exact ⟨rfl, hq⟩
theorem PJoinP.fine {w' : World} {e : Ending} {s : ByteArray} {m : Int} {topics : List ByteArray} {now : Int} (h : cjoinE C s m topics now = 0) (hq : PJoined w0 w cb Y C s (cbase C s) (cjoinG C s m topics now) m e w') : PJoinP w0 w cb Y C s m topics now e w' := by
  obtain ⟨rfl, hq⟩ := hq
  unfold PJoinP joinR cjoinC
  rw [h, if_pos rfl, if_pos rfl]
  exact ⟨rfl, hq⟩
theorem pjoin_at (h : CAt w0 w cb C Y) (s : ByteArray) (m now : Int) (tv : Value) (topics : List ByteArray) {n : Nat} (ok : COk (n + 1) C) (hsr : (1 ≤ C.s ∧ C.s ≤ 100000) ∧ 1 ≤ C.r ∧ C.r ≤ 100000) (htl : topics.length ≤ 1000)
    (hm : -9223372036854775808 ≤ m ∧ m ≤ 9223372036854775807) (ht : Out 1 rStr w (fun k => ¬ cfoot cb Y k) tv topics) :
    Calls Tryz.prog 12 #[.pointer (some ⟨cb, 0, none⟩), .string s, .int .i64 m, tv, .int .i64 now] w (PJoinP w0 w cb Y C s m topics now) := by
  by_cases hs : s.size = 0 ∨ 100 < s.size
  · have h1 : cjoinE C s m topics now = 1 := by unfold cjoinE; rw [if_pos hs]
    obtain ⟨ta, tc, rfl, _, _⟩ := ht
    exact (cjoin_name s m now ta _ tc hs w).mono fun e w' hq => by
      obtain ⟨rfl, hk⟩ := hq
      exact PJoinP.err h1 (by decide) (h.post0 hk)
  · have s1 : s.toList.isEmpty = false := bytes_some (by omega)
    have s2 : ¬ 100 < (s.size : Int) := by omega
    cases hg : aget C.gs s with
    | none =>
      have hb : cbase C s = newG C.s C.r := by unfold cbase; rw [hg]; rfl
      by_cases hf : 20 ≤ C.gs.length
      · have h1 : cjoinE C s m topics now = 5 := by unfold cjoinE; rw [if_neg hs, if_pos ⟨by rw [hg]; rfl, hf⟩]
        obtain ⟨ta, tc, rfl, _, _⟩ := ht
        exact (cjoin_full h s m now ta _ tc s1 s2 (h.none hg) hf).mono fun e w' hq => by
          obtain ⟨rfl, hk⟩ := hq
          exact PJoinP.err h1 (by decide) (h.post0 hk)
      · have h1 : cjoinE C s m topics now = joinE (newG C.s C.r) m topics now := by unfold cjoinE; rw [if_neg hs, if_neg (fun e => hf e.2), hb]
        have ht' : Out 1 rStr w (fun _ => True) tv topics := ht.keep still_str (Keeps.refl (fun _ => False) _) (fun _ _ _ e => e) (fun _ _ _ => trivial)
        by_cases hj : joinE (newG C.s C.r) m topics now = 0
        · refine (pjoin_new h s m now tv topics s1 s2 (h.none hg) (by omega) hsr htl hm ht' hj).mono fun e w' hq => PJoinP.fine (h1.trans hj) ?_
          unfold cjoinG
          rw [hb]
          exact hq
        · exact (pjoin_new_err h s m now tv topics s1 s2 (h.none hg) (by omega) hsr htl hm ht' hj).mono fun e w' hq => by
            obtain ⟨rfl, hq⟩ := hq
            exact PJoinP.err h1 hj hq
    | some g =>
      have hb : cbase C s = g := by unfold cbase; rw [hg]; rfl
      have h1 : cjoinE C s m topics now = joinE g m topics now := by unfold cjoinE; rw [if_neg hs, if_neg (fun e => by rw [hg] at e; cases e.1), hb]
      obtain ⟨b, hgb⟩ := h.some hg
      have ht' : Out 1 rStr w (fun k => ∀ i, i < Y.L.length → ¬ Y.fp i k) tv topics := ht.keep still_str (Keeps.refl (fun _ => False) _) (fun _ _ _ e => e) (fun k _ e i hi e2 => e (.inr (.inr (.inr (.inr ⟨i, hi, e2⟩)))))
      by_cases hj : joinE g m topics now = 0
      · refine (pjoin_found h s m now tv topics s1 s2 hgb (ok s g hg) htl hm ht' hj).mono fun e w' hq => PJoinP.fine (h1.trans hj) ?_
        unfold cjoinG
        rw [hb]
        exact hq
      · exact (pjoin_found_err h s m now tv topics s1 s2 hgb (ok s g hg) htl hm ht' hj).mono fun e w' hq => by
          obtain ⟨rfl, hq⟩ := hq
          exact PJoinP.err h1 hj hq
end
end Go.Proofs.YtklhlffdpojkoaaGreat
