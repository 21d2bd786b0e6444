/-
  A member that beats, one that leaves.
-/
import Derived.Test.YtlmajhkhlmkeiaaGj
namespace Go.Proofs.Ytlmajhkhlmkeiaa
open Go.RowKit Go.Shelf Fx

/-- Behind a change of the members' row in its place. -/
theorem GrpAt.rowset {w w' : World} {F : Nat → Prop} {b : Nat} {g g' : GroupC} {v : Value} {L L' : List OneV} (h : GrpAt w F b g v L) (hk : Keeps (fun k => v.ownBlock = some k) w w') (hrow : w'.ownsRow 0 43 5 v L'.length (L'.flatMap oneEnc)) (hones : L'.map OneV.core = g'.ones) (hc : gCells g' v = gCells g v)
    (hs : ∀ x ∈ L', ∃ y ∈ L, x.tv = y.tv ∧ x.topics = y.topics ∧ x.pv = y.pv ∧ x.parts = y.parts) : GrpAt w' F b g' v L' :=
  ⟨by rw [hc]; exact (hk.block b (block_lt h.blk) (fun e => (h.own b e).2 rfl)).trans h.blk, hrow, h.fb, fun k e => Nat.lt_of_lt_of_le (h.lt k e) hk.size, h.own, hones, fun x hx => by
    obtain ⟨y, hy, e1, e2, e3, e4⟩ := hs x hx
    rw [e1, e2, e3, e4]
    exact ⟨(h.out y hy).1.keep still_str hk (fun k _ e => e.2.2) (fun _ _ e => e), (h.out y hy).2.keep still_part hk (fun k _ e => e.2.2) (fun _ _ e => e)⟩⟩
def touchO (m t : Int) (o : OneC) : OneC := if o.member = m then { o with til := t } else o
def touchG (g : GroupC) (m t : Int) : GroupC := { g with ones := g.ones.map (touchO m t) }
/-- What is done to the one member of a number. -/
theorem modify_core {L : List OneV} (hr : RiseM L) {m : Int} {i : Nat} (hi : i < L.length) (e : L[i].member = m) (f : OneV → OneV) (f' : OneC → OneC) (hf : ∀ x, (f x).core = f' x.core) :
    (L.modify i f).map OneV.core = (L.map OneV.core).map fun o => if o.member = m then f' o else o := by
  apply List.ext_getElem
  · simp
  · intro k h1 h2
    have hk : k < L.length := by simpa using h1
    simp only [List.getElem_map, List.getElem_modify]
    by_cases e2 : i = k
    · subst e2
      rw [if_pos rfl, hf]
      rw [if_pos (show L[i].core.member = m from e)]
    · rw [if_neg e2, if_neg]
      intro e3
      have e3 : L[k].member = m := e3
      rcases Nat.lt_or_ge i k with h | h
      · have := hr.rise i k hi hk h; omega
      · have := hr.rise k i hk hi (by omega); omega
theorem GrpAt.touch {w : World} {F : Nat → Prop} {b r cap : Nat} {g : GroupC} {L : List OneV} (h : GrpAt w F b g (.slice (some ⟨r, 0, none⟩) L.length cap) L) (hr : RiseM L) {m : Int} {i : Nat} (hi : i < L.length) (e : L[i].member = m) (t : Int) :
    GrpAt (w.setCell ⟨r, i * 5 + 2, none⟩ (.int .i64 t)) F b (touchG g m t) (.slice (some ⟨r, 0, none⟩) L.length cap) (L.modify i fun x => { x with til := t }) := by
  have h1 := (h.row.stored (i * 5 + 2) (.int .i64 t)).1
  rw [flat_set' oneEnc 5 oneEnc_len (fun x => { x with til := t }) 2 (.int .i64 t) (by omega) (fun _ => rfl) L i hi] at h1
  refine h.rowset ((Keeps.refl _ w).setC _ _ (fun _ => rfl)) (by rw [List.length_modify]; exact h1) ?_ rfl fun x hx => ?_
  · rw [modify_core hr hi e _ (fun o => { o with til := t }) (fun _ => rfl), h.ones]
    rfl
  · obtain ⟨k, hk, rfl⟩ := List.mem_iff_getElem.1 hx
    have hk' : k < L.length := by simpa using hk
    refine ⟨L[k], List.getElem_mem hk', ?_⟩
    rw [List.getElem_modify]
    split <;> exact ⟨rfl, rfl, rfl, rfl⟩
def beatE (g : GroupC) (m gn now : Int) : Int := if timeOk now then (if knownE g m gn = 0 then (if g.phase = 3 then 0 else 13) else knownE g m gn) else 1
def beatG (g : GroupC) (m gn now : Int) : GroupC := if timeOk now then (if knownE g m gn = 0 then touchG g m (now + g.session) else g) else g
set_option maxRecDepth 100000 in
set_option maxHeartbeats 2000000 in
theorem beat_any (w : World) (F : Nat → Prop) (b : Nat) (g : GroupC) (m gn now : Int) (h : Grp w F b g) (hw : WfG g) (hm : -9223372036854775808 ≤ m ∧ m ≤ 9223372036854775807) :
    Calls Try.prog 15 #[.pointer (some ⟨b, 0, none⟩), .int .i64 m, .int .i64 gn, .int .i64 now] w fun e w' => e = .returned (.int .i64 (beatE g m gn now)) ∧ GrpPost w F b (beatG g m gn now) w' := by
  obtain ⟨v, L, h⟩ := h
  have HT := Lib.hid (isTime_any now w)
  have HK := Lib.hid (fun (wx : World) (hk : K0 w wx) => known_any wx F b g v L m gn (h.keep hk fun _ _ e => e) hw hm)
  have HR := Lib.hid (h.rise hw)
  have HS := Lib.hid hw.ses
  have HH := Lib.hid h
  clear h hw hm
  cases ht : timeOk now with
  | false =>
    have HE : Hid (beatE g m gn now = 1) := by show _ = _; unfold beatE; rw [if_neg (by rw [ht]; simp)]
    have HG : Hid (beatG g m gn now = g) := by show _ = _; unfold beatG; rw [if_neg (by rw [ht]; simp)]
    rw [ht] at HT
    clear ht
    go_enter Try.func15, Try.ntmps15
    go_wp2_with fail
    refine HT.out.mono ?_
    rintro e w1 ⟨rfl, hk⟩
    go_wp2
    go_ret
    rw [HE.out, HG.out]
    exact ⟨rfl, F, ⟨v, L, HH.out.keep hk fun _ _ e => e⟩, fun k e => .inl e, hk.mono fun _ _ e => e.elim⟩
  | true =>
    have hn := time_yes ht
    have HTT := Lib.hid ht
    rw [ht] at HT
    clear ht
    go_enter Try.func15, Try.ntmps15
    go_wp2_with fail
    refine HT.out.mono ?_
    rintro e w1 ⟨rfl, hk1⟩
    have HK1 := Lib.hid hk1
    go_wp2_with fail
    refine (HK.out _ hk1).mono ?_
    rintro e w2 ⟨hk2, p, rfl, hp⟩
    have HK2 := Lib.hid (K0.tr hk1 hk2)
    have HP := Lib.hid hp
    clear hk1 hk2 hp
    by_cases h0 : knownE g m gn = 0
    · obtain ⟨i, hi, r, cap, e1, rfl, rfl⟩ := HP.out h0
      have hg2 := HH.out.keep HK2.out fun _ _ e => e
      have HT2 := Lib.hid (hg2.touch HR.out hi e1 (now + g.session))
      have cs : w2.cell? ⟨b, 0, none⟩ = some (.int .i64 g.session) := block_cell hg2.blk 0
      have cp : w2.cell? ⟨b, 2, none⟩ = some (.int .i64 g.phase) := block_cell hg2.blk 2
      obtain ⟨_, _, ct, _, _⟩ := hg2.cell rfl i hi
      have cf := hg2.row.frozenAt (i * 5 + 2)
      have hb2 := block_lt hg2.blk
      have hr2 := own_lt hg2.row rfl
      have hrb : r ≠ b := (hg2.own r rfl).2
      have hbr : b ≠ r := fun e => hrb e.symm
      have hs := HS.out
      have HKF : Hid (Keeps F w (w2.setCell ⟨r, i * 5 + 2, none⟩ (.int .i64 (now + g.session)))) := (HK2.out.mono fun _ _ e => e.elim).setC _ _ (fun _ => (hg2.own r rfl).1)
      have HG : Hid (beatG g m gn now = touchG g m (now + g.session)) := by show _ = _; unfold beatG; rw [if_pos HTT.out, if_pos h0]
      have HE : Hid (beatE g m gn now = if g.phase = 3 then 0 else 13) := by show _ = _; unfold beatE; rw [if_pos HTT.out, if_pos h0]
      rw [h0]
      clear hg2 e1 h0 HP
      generalize L[i].til = tl at ct
      generalize hss : g.session = ss at cs hs HKF HG HT2
      generalize g.phase = ph at cp HE
      clear hss
      by_cases h3 : ph = 3
      · subst h3
        have HE3 : Hid (beatE g m gn now = 0) := by show _ = _; rw [HE.out, if_pos rfl]
        go_wp2
        go_ret
        rw [HE3.out, HG.out]
        exact ⟨rfl, F, ⟨_, _, HT2.out⟩, fun k e => .inl e, HKF.out⟩
      · have h3' : (ph != 3) = true := by simpa using h3
        have HE3 : Hid (beatE g m gn now = 13) := by show _ = _; rw [HE.out, if_neg h3]
        clear h3
        go_wp2
        go_ret
        rw [HE3.out, HG.out]
        exact ⟨rfl, F, ⟨_, _, HT2.out⟩, fun k e => .inl e, HKF.out⟩
    · have HE : Hid (beatE g m gn now = knownE g m gn) := by show _ = _; unfold beatE; rw [if_pos HTT.out, if_neg h0]
      have HG : Hid (beatG g m gn now = g) := by show _ = _; unfold beatG; rw [if_pos HTT.out, if_neg h0]
      have h0' : (knownE g m gn != 0) = true := by simpa using h0
      clear h0 HP
      generalize knownE g m gn = ke at HE h0'
      go_wp2
      go_ret
      rw [HE.out, HG.out]
      exact ⟨rfl, F, ⟨v, L, HH.out.keep HK2.out fun _ _ e => e⟩, fun k e => .inl e, HK2.out.mono fun _ _ e => e.elim⟩
def leaveE (g : GroupC) (m now : Int) : Int := if timeOk now then (if hasM g m then 0 else 11) else 1
def leaveG (g : GroupC) (m now : Int) : GroupC := if timeOk now then (if hasM g m then dropG g now (fun o => o.member == m) else g) else g
set_option maxRecDepth 100000 in
set_option maxHeartbeats 2000000 in
theorem leave_any (w : World) (F : Nat → Prop) (b : Nat) (g : GroupC) (m now : Int) (h : Grp w F b g) (hw : WfG g) (hm : -9223372036854775808 ≤ m ∧ m ≤ 9223372036854775807) :
    Calls Try.prog 16 #[.pointer (some ⟨b, 0, none⟩), .int .i64 m, .int .i64 now] w fun e w' => e = .returned (.int .i64 (leaveE g m now)) ∧ GrpPost w F b (leaveG g m now) w' := by
  obtain ⟨v, L, h⟩ := h
  have hlen : L.length ≤ 20 := by rw [← h.glen]; exact hw.len
  have HT := Lib.hid (isTime_any now)
  have HFI := Lib.hid (fun (wx : World) (hk : K0 w wx) => find_any wx F b g v L m (h.keep hk fun _ _ e => e) (h.rise hw) hm (by omega))
  have HD := Lib.hid (fun (wx : World) (hk : K0 w wx) (hn : 0 ≤ now ∧ now ≤ 1099511627776) (hc : wx.cell? ⟨w.heap.size, 0, none⟩ = some (.int .i64 m)) => drop_any wx F b g v L now 34 #[.pointer (some ⟨w.heap.size, 0, none⟩)] (fun x => x.member == m) (fun o => o.member == m) (h.keep hk fun _ _ e => e) (by omega) hn ⟨by have := hw.reb; omega, hw.reb.2⟩ hw.gen enters_leave
    (fun w1 hk1 => tests_leave (hk1.cell' hc (fun e => by have := (h.row.lt _ e).2; exact Nat.lt_irrefl _ this))) (fun _ => rfl))
  have HH := Lib.hid h
  clear h hw hm
  cases ht : timeOk now with
  | false =>
    have HE : Hid (leaveE g m now = 1) := by show _ = _; unfold leaveE; rw [if_neg (by rw [ht]; simp)]
    have HG : Hid (leaveG g m now = g) := by show _ = _; unfold leaveG; rw [if_neg (by rw [ht]; simp)]
    rw [ht] at HT
    clear ht
    go_enter Try.func16, Try.ntmps16
    go_wp2_with fail
    refine (HT.out _).mono ?_
    rintro e w1 ⟨rfl, hk⟩
    have HK := Lib.hid (((Keeps.refl (fun _ => False) w).alloc (.cells #[.int .i64 m] 3)).trans hk fun _ _ e => e)
    clear hk
    go_wp2
    go_ret
    rw [HE.out, HG.out]
    exact ⟨rfl, F, ⟨v, L, HH.out.keep HK.out fun _ _ e => e⟩, fun k e => .inl e, HK.out.mono fun _ _ e => e.elim⟩
  | true =>
    have hn := time_yes ht
    have HTT := Lib.hid ht
    rw [ht] at HT
    clear ht
    go_enter Try.func16, Try.ntmps16
    go_wp2_with fail
    refine (HT.out _).mono ?_
    rintro e w1 ⟨rfl, hk⟩
    have hc1 : w1.cell? ⟨w.heap.size, 0, none⟩ = some (.int .i64 m) := hk.cell' (block_cell (heap_new w (.cells #[.int .i64 m] 3) _ rfl) 0) (fun e => e)
    have HK := Lib.hid (((Keeps.refl (fun _ => False) w).alloc (.cells #[.int .i64 m] 3)).trans hk fun _ _ e => e)
    have hs1 := cell_block1 hc1
    clear hk
    go_wp2_with fail
    refine (HFI.out _ HK.out).mono ?_
    rintro e w2 ⟨hk2, ⟨i, hi, r, cap, e1, e2, rfl⟩ | ⟨e1, rfl⟩⟩
    · have HS := Lib.hid (HH.out.has hi e1)
      have hc2 := hk2.cell' hc1 (fun e => e)
      have HK2 := Lib.hid (K0.tr HK.out hk2)
      have HE : Hid (leaveE g m now = 0) := by show _ = _; unfold leaveE; rw [if_pos HTT.out, if_pos HS.out]
      have HG : Hid (leaveG g m now = dropG g now (fun o => o.member == m)) := by show _ = _; unfold leaveG; rw [if_pos HTT.out, if_pos HS.out]
      clear e1 e2 hk2 hc1 hs1
      have HC2 := Lib.hid hc2
      go_wp2_with fail
      refine (HD.out _ HK2.out hn HC2.out).mono ?_
      rintro e w3 ⟨rfl, hq⟩
      have HQ := Lib.hid (GrpPost.trans (fun k e => .inl e) (HK2.out.mono fun _ _ e => e.elim) hq)
      clear hq
      go_wp2
      go_ret
      rw [HE.out, HG.out]
      exact ⟨rfl, HQ.out⟩
    · have HS := Lib.hid (HH.out.hasnt e1)
      have HK2 := Lib.hid (K0.tr HK.out hk2)
      have HE : Hid (leaveE g m now = 11) := by show _ = _; unfold leaveE; rw [if_pos HTT.out, if_neg (by rw [HS.out]; simp)]
      have HG : Hid (leaveG g m now = g) := by show _ = _; unfold leaveG; rw [if_pos HTT.out, if_neg (by rw [HS.out]; simp)]
      clear e1 hk2 hc1
      go_wp2
      go_ret
      rw [HE.out, HG.out]
      exact ⟨rfl, F, ⟨v, L, HH.out.keep HK2.out fun _ _ e => e⟩, fun k e => .inl e, HK2.out.mono fun _ _ e => e.elim⟩
end Go.Proofs.Ytlmajhkhlmkeiaa
