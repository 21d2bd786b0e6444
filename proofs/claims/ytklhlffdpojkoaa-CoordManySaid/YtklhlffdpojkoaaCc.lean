/-
  A coordinator's calls: Group, Commit, Committed, New.
-/
import Derived.Test.YtklhlffdpojkoaaCb
namespace Go.Proofs.Ytklhlffdpojkoaa
open Go.RowKit Go.Shelf Fx

set_option maxRecDepth 100000 in
set_option maxHeartbeats 1000000 in
theorem view_nil (w : World) : Calls Try.prog 17 #[.pointer none] w fun e w' => Same w e (.agg #[.int .i64 0, .int .i64 0, .int .i64 0, .int .i64 0, .slice none 0 0]) w' := by
  have HB : Hid ((w.alloc (.cells #[.int .i64 0, .int .i64 0, .int .i64 0, .int .i64 0, .slice none 0 0] 34)).heap[w.heap.size]? = some (.cells #[.int .i64 0, .int .i64 0, .int .i64 0, .int .i64 0, .slice none 0 0] 34 (0, 0))) := heap_new _ _ _ rfl
  go_enter Try.func17, Try.ntmps17
  go_wp2
  (try simp only [Exit.inBlock, Exit.then])
  refine bodyPost_ret (results_cell_row rfl _ _ _ _ _ _ _ rfl HB.out Try.underlying34 rfl (by kernel_rfl)) rfl ?_
  exact ⟨rfl, (Keeps.refl _ _).alloc _⟩
section
variable {w0 w : World} {cb : Nat} {C : CoordC} {Y : CLay}
set_option maxRecDepth 100000 in
set_option maxHeartbeats 2000000 in
theorem cgroup_some (h : CAt w0 w cb C Y) (s : ByteArray) {n : Nat} (ok : COk n C) {g : GroupC} (hg : aget C.gs s = some g) :
    Calls Try.prog 10 #[.pointer (some ⟨cb, 0, none⟩), .string s] w fun e w' => ∃ a c, e = .returned (.agg #[.int .i64 g.phase, .int .i64 g.gen, .int .i64 g.next, .int .i64 g.til, .slice a g.ones.length c]) ∧ ViewAt w' w.heap.size (.slice a g.ones.length c) g.ones ∧ K0 w w' := by
  obtain ⟨b, hb⟩ := h.some hg
  have hok := ok s g hg
  obtain ⟨i, hi, h3, hix, hgr⟩ := h.at hb
  have HB : Hid ((w.alloc (.cells #[.int .i64 0, .int .i64 0, .int .i64 0, .int .i64 0, .slice none 0 0] 34)).heap[w.heap.size]? = some (.cells #[.int .i64 0, .int .i64 0, .int .i64 0, .int .i64 0, .slice none 0 0] 34 (0, 0))) := heap_new _ _ _ rfl
  have HK := Lib.hid ((Keeps.refl (fun _ => False) w).alloc (.cells #[.int .i64 0, .int .i64 0, .int .i64 0, .int .i64 0, .slice none 0 0] 34))
  have G := Lib.hid (group_some (h.keep HK.out) s hb)
  have V := Lib.hid (fun (wx : World) (hk : K0 w wx) => view_any wx _ b g (hgr.keep hk fun _ _ e => e) (by have := hok.wf.len; omega) hok.bnd)
  clear hg h ok hb hgr h3 hix hi hok
  go_enter Try.func10, Try.ntmps10
  go_wp2_with fail
  refine G.out.mono ?_
  rintro e w1 ⟨rfl, k1⟩
  go_wp2_with fail
  refine (V.out _ (K0.tr HK.out k1)).mono ?_
  intro e w2 hq
  obtain ⟨a, c, rfl, hv, k2⟩ := hq.seen
  have k3 := K0.tr k1 k2
  have b2 : w2.heap[w.heap.size]? = some (.cells #[.int .i64 0, .int .i64 0, .int .i64 0, .int .i64 0, .slice none 0 0] 34 (0, 0)) := (k3.block _ (block_lt HB.out) (fun e => e)).trans HB.out
  have q0 := block_cell b2 0
  have q1 := block_cell b2 1
  have q2 := block_cell b2 2
  have q3 := block_cell b2 3
  have q4 := block_cell b2 4
  have f0 := block_free b2 0
  have f1 := block_free b2 1
  have f2 := block_free b2 2
  have f3 := block_free b2 3
  have f4 := block_free b2 4
  have hlt := block_lt b2
  have hlt1 : w.heap.size < w1.heap.size := by have := k1.size; simp at this; omega
  have HF : Hid ((((((w2.setCell ⟨w.heap.size, 0, none⟩ (.int .i64 g.phase)).setCell ⟨w.heap.size, 1, none⟩ (.int .i64 g.gen)).setCell ⟨w.heap.size, 2, none⟩ (.int .i64 g.next)).setCell ⟨w.heap.size, 3, none⟩ (.int .i64 g.til)).setCell ⟨w.heap.size, 4, none⟩ (.slice a g.ones.length c)).heap[w.heap.size]? = some (.cells #[.int .i64 g.phase, .int .i64 g.gen, .int .i64 g.next, .int .i64 g.til, .slice a g.ones.length c] 34 (0, 0))) :=
    setCell_block (setCell_block (setCell_block (setCell_block (setCell_block b2 0 _) 1 _) 2 _) 3 _) 4 _
  have HP : Hid (Keeps (fun k => k = w.heap.size) w2 (((((w2.setCell ⟨w.heap.size, 0, none⟩ (.int .i64 g.phase)).setCell ⟨w.heap.size, 1, none⟩ (.int .i64 g.gen)).setCell ⟨w.heap.size, 2, none⟩ (.int .i64 g.next)).setCell ⟨w.heap.size, 3, none⟩ (.int .i64 g.til)).setCell ⟨w.heap.size, 4, none⟩ (.slice a g.ones.length c))) :=
    (((((Keeps.refl (fun k => k = w.heap.size) w2).setC 0 _ (fun _ => rfl)).setC 1 _ (fun _ => rfl)).setC 2 _ (fun _ => rfl)).setC 3 _ (fun _ => rfl)).setC 4 _ (fun _ => rfl)
  have HV := Lib.hid hv
  have HK2 := Lib.hid (K0.tr HK.out k3)
  clear hv k1 k2 k3 hq b2
  go_wp2
  (try simp only [Exit.inBlock, Exit.then])
  refine bodyPost_ret (results_cell_row rfl _ _ _ _ _ _ _ rfl HF.out Try.underlying34 rfl (by kernel_rfl)) rfl ?_
  refine ⟨a, c, rfl, ?_, (HK2.out.trans HP.out (fun k hk e => by omega))⟩
  have := HV.out.keep HP.out (fun k e => .inl (by omega))
  obtain ⟨C1, e1, e2, e3⟩ := this
  exact ⟨C1, e1, own_base e2 (by omega), fun x hx => ⟨(e3 x hx).1.keep still_str (Keeps.refl (fun _ => False) _) (fun _ _ _ e => e) (fun k _ e => by omega), (e3 x hx).2.keep still_part (Keeps.refl (fun _ => False) _) (fun _ _ _ e => e) (fun k _ e => by omega)⟩⟩
set_option maxRecDepth 100000 in
set_option maxHeartbeats 2000000 in
theorem ccommit_at (h : CAt w0 w cb C Y) (s t : ByteArray) (i at_ : Int) :
    Calls Try.prog 12 #[.pointer (some ⟨cb, 0, none⟩), .string s, .agg #[.string t, .int .i64 i], .int .i64 at_] w fun e w' => e = .returned (.int .i64 (commitE C.off ⟨s, t, i⟩ at_)) ∧ CAt w0 w' cb ⟨C.s, C.r, C.gs, commitC C.off ⟨s, t, i⟩ at_⟩ Y ∧ Keeps (fun k => k = Y.ob) w w' := by
  have HK := Lib.hid ((Keeps.refl (fun _ => False) w).alloc (.cells #[.string t, .int .i64 i] 42))
  have HBB : Hid ((w.alloc (.cells #[.string t, .int .i64 i] 42)).heap[w.heap.size]? = some (.cells #[.string t, .int .i64 i] 42)) := heap_new _ _ _ rfl
  generalize hwb : w.alloc (.cells #[.string t, .int .i64 i] 42) = wb at HK HBB
  have HWB := Lib.hid hwb
  have hb := h.keep HK.out
  have c3 : wb.cell? ⟨cb, 3, none⟩ = some (.pointer (some ⟨Y.tb, 0, none⟩)) := block_cell hb.blk 3
  have d0 : wb.cell? ⟨w.heap.size, 0, none⟩ = some (.string t) := block_cell HBB.out 0
  have d1 : wb.cell? ⟨w.heap.size, 1, none⟩ = some (.int .i64 i) := block_cell HBB.out 1
  have hlt := block_lt hb.blk
  have hlt2 := block_lt HBB.out
  have HC := Lib.hid (fun (wx : World) (hk : K0 wb wx) => commit_any wx Y.tb Y.ob C.off s t i at_ (hb.keep hk).off)
  have HH := Lib.hid hb
  have n1 : ¬ cb = Y.ob := h.ne2
  have n2 : ¬ w.heap.size = Y.ob := fun e => by have := h.off.map.lt; omega
  have hkk : K0 wb wb.drew := (Keeps.refl _ _).drew
  clear h hwb hb
  go_enter Try.func12, Try.ntmps12
  go_wp2_with fail
  rw [HWB.out]
  clear HWB
  go_region_held3 (fun w' => w'.cell? ⟨cb, 3, none⟩ = some (.pointer (some ⟨Y.tb, 0, none⟩)) ∧ w'.cell? ⟨w.heap.size, 0, none⟩ = some (.string t) ∧ w'.cell? ⟨w.heap.size, 1, none⟩ = some (.int .i64 i))
    (first | go_keep | (go_split_ands; refine ⟨?_, ?_, ?_⟩ <;> first | assumption | exact Keeps.cell' (by assumption) (by assumption) (by assumption)))
    (first | (go_at_call 22; refine (HC.out _ hkk).mono ?_; rintro e w' ⟨rfl, ho, hp⟩))
  have HF := Lib.hid ((HH.out.keep hkk).offs ho hp)
  have HKF := Lib.hid (((K0.tr HK.out hkk).mono (fun _ _ e => absurd e id)).trans hp (fun _ _ e => e))
  clear ho hp
  go_wp2
  go_ret
  exact ⟨rfl, HF.out, HKF.out⟩
set_option maxRecDepth 100000 in
set_option maxHeartbeats 2000000 in
theorem cget_at (h : CAt w0 w cb C Y) (s t : ByteArray) (i : Int) :
    Calls Try.prog 13 #[.pointer (some ⟨cb, 0, none⟩), .string s, .agg #[.string t, .int .i64 i]] w fun e w' => Same w e (.tuple #[.int .i64 (getV C.off ⟨s, t, i⟩).1, .bool (getV C.off ⟨s, t, i⟩).2]) w' := by
  have HK := Lib.hid ((Keeps.refl (fun _ => False) w).alloc (.cells #[.string t, .int .i64 i] 42))
  have HBB : Hid ((w.alloc (.cells #[.string t, .int .i64 i] 42)).heap[w.heap.size]? = some (.cells #[.string t, .int .i64 i] 42)) := heap_new _ _ _ rfl
  generalize hwb : w.alloc (.cells #[.string t, .int .i64 i] 42) = wb at HK HBB
  have HWB := Lib.hid hwb
  have hb := h.keep HK.out
  have c3 : wb.cell? ⟨cb, 3, none⟩ = some (.pointer (some ⟨Y.tb, 0, none⟩)) := block_cell hb.blk 3
  have d0 : wb.cell? ⟨w.heap.size, 0, none⟩ = some (.string t) := block_cell HBB.out 0
  have d1 : wb.cell? ⟨w.heap.size, 1, none⟩ = some (.int .i64 i) := block_cell HBB.out 1
  have hlt := block_lt hb.blk
  have hlt2 := block_lt HBB.out
  have HC := Lib.hid (fun (wx : World) (hk : K0 wb wx) => get_any wx Y.tb Y.ob C.off s t i (hb.keep hk).off)
  have hkk : K0 wb wb.drew := (Keeps.refl _ _).drew
  clear h hwb hb
  go_enter Try.func13, Try.ntmps13
  go_wp2_with fail
  rw [HWB.out]
  clear HWB
  go_region_held3 (fun w' => w'.cell? ⟨cb, 3, none⟩ = some (.pointer (some ⟨Y.tb, 0, none⟩)) ∧ w'.cell? ⟨w.heap.size, 0, none⟩ = some (.string t) ∧ w'.cell? ⟨w.heap.size, 1, none⟩ = some (.int .i64 i))
    (first | go_keep | (go_split_ands; refine ⟨?_, ?_, ?_⟩ <;> first | assumption | exact Keeps.cell' (by assumption) (by assumption) (fun e => e)))
    (first | (go_at_call 23; refine (HC.out _ hkk).mono ?_; rintro e w' ⟨rfl, hp⟩))
  have HF := Lib.hid (K0.tr HK.out (K0.tr hkk hp))
  clear hp
  go_wp2
  go_ret2
  exact ⟨rfl, HF.out⟩
end
def newC (s r : Int) : CoordC := ⟨s, r, [], ⟨1000, []⟩⟩
set_option maxRecDepth 100000 in
set_option maxHeartbeats 2000000 in
theorem cnew_bad (s r : Int) (w : World) (h : newBad s r) : Calls Try.prog 6 #[.int .i64 s, .int .i64 r] w fun e w' => Same w e (.tuple #[.pointer none, .int .i64 1]) w' := by
  have HN := Lib.hid (new_bad s r w h)
  clear h
  go_enter Try.func6, Try.ntmps6
  go_wp2_with fail
  refine HN.out.mono ?_
  rintro e w1 ⟨rfl, k1⟩
  go_wp2
  go_ret2
  exact ⟨rfl, k1⟩
set_option maxRecDepth 100000 in
set_option maxHeartbeats 2000000 in
theorem cnew_any (s r : Int) (w : World) (h1 : 1 ≤ s ∧ s ≤ 100000) (h2 : 1 ≤ r ∧ r ≤ 100000) :
    Calls Try.prog 6 #[.int .i64 s, .int .i64 r] w fun e w' => ∃ cb, e = .returned (.tuple #[.pointer (some ⟨cb, 0, none⟩), .int .i64 0]) ∧ CSt w w' cb (newC s r) := by
  have HN := Lib.hid (new_any s r w h1 h2)
  have HO := Lib.hid (fun (w : World) => offNew_any 1000 w (by omega) (by omega))
  have hmm := @run_makeMap Try.prog
  clear h1 h2
  go_enter Try.func6, Try.ntmps6
  go_wp2_with fail
  refine HN.out.mono ?_
  rintro e w1 ⟨rfl, _, k1, z1⟩
  have Z1 := Lib.hid z1
  clear z1
  go_wp2_with fail
  refine (HO.out w1).mono ?_
  rintro e w2 ⟨rfl, ho, k2, z2⟩
  have Z2 := Lib.hid z2
  clear z2
  have HOF := Lib.hid ho
  have HK := Lib.hid (K0.tr k1 k2)
  clear ho k1 k2
  go_wp2
  go_ret2
  refine ⟨_, rfl, ⟨w2.heap.size, w1.heap.size + 1, w1.heap.size, [], fun _ _ => False⟩, ?_⟩
  have e2 : (w2.alloc (.map #[] 0)).heap.size = w2.heap.size + 1 := by simp
  have z1 := Z1.out
  have z2 := Z2.out
  have q : ∀ o, ((w2.alloc (.map #[] 0)).alloc o).heap.size = w2.heap.size + 2 := by simp
  exact ⟨(HK.out.alloc _).alloc _, heap_new _ _ _ (by simp), rfl, (mapAt_new w2).of_block (Below.heap_alloc _ _ _ (by simp)), HOF.out.keep (S := fun _ => False) (((Keeps.refl _ _).alloc _).alloc _) (fun e => e) (fun e => e), by show w2.heap.size + 1 ≠ w2.heap.size; omega, by show w2.heap.size + 1 ≠ w1.heap.size; omega, by show w2.heap.size ≠ w1.heap.size + 1; omega, by show w2.heap.size ≠ w1.heap.size; omega, ⟨by show w.heap.size ≤ w2.heap.size + 1; omega, by show w.heap.size ≤ w2.heap.size; omega, by show w.heap.size ≤ w1.heap.size + 1; omega, by show w.heap.size ≤ w1.heap.size; omega⟩, fun i hi => absurd hi (Nat.not_lt_zero _), fun i k hi => absurd hi (Nat.not_lt_zero _), fun i j k hi => absurd hi (Nat.not_lt_zero _)⟩
end Go.Proofs.Ytklhlffdpojkoaa
