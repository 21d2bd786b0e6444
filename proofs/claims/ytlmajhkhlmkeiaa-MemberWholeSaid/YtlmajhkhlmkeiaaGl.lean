/-
  A member joins: what it comes to.
-/
import Derived.Test.YtlmajhkhlmkeiaaGk
import Derived.Deep.RegionHeld3
namespace Go.Proofs.Ytlmajhkhlmkeiaa
open Go.RowKit Go.Shelf Fx

def nextM (g : GroupC) (m : Int) : Int := if m = -1 then g.next else m
def addG (g : GroupC) (m : Int) : GroupC := if m = -1 then { g with next := g.next + 1, ones := g.ones ++ [⟨g.next, [], 0, false, []⟩] } else g
def startG (g : GroupC) (now : Int) : GroupC := if g.phase = 1 then g else anewG g now
def setO (m : Int) (topics : List ByteArray) (t : Int) (o : OneC) : OneC := if o.member = m then { o with topics := topics, joined := true, til := t } else o
def setG (g : GroupC) (m : Int) (topics : List ByteArray) (t : Int) : GroupC := { g with ones := g.ones.map (setO m topics t) }
def finG (g : GroupC) (now : Int) : GroupC := if g.ones.all (·.joined) then closeG g now else g
def joinG (g : GroupC) (m : Int) (topics : List ByteArray) (now : Int) : GroupC := finG (setG (startG (addG g m) now) (nextM g m) topics (now + g.session)) now
def joinBad (m : Int) (topics : List ByteArray) (now : Int) : Bool := !timeOk now || decide (m < -1) || !(chk [⟨0, topics⟩] [] == 0)
def joinE (g : GroupC) (m : Int) (topics : List ByteArray) (now : Int) : Int :=
  if joinBad m topics now then 1 else if !(m == -1) && !hasM g m then 11 else if m == -1 && decide (20 ≤ g.ones.length) then 5 else 0
theorem anewG_len (g : GroupC) (now : Int) : (anewG g now).ones.length = g.ones.length := by
  unfold anewG
  split
  · rfl
  · simp
theorem anewG_member (g : GroupC) (now : Int) (i : Nat) (hi : i < (anewG g now).ones.length) : (anewG g now).ones[i].member = (g.ones[i]'(by rw [← anewG_len g now]; exact hi)).member := by
  unfold anewG at hi ⊢
  split
  · rfl
  · simp [freeO]
theorem WfG.same {g g' : GroupC} (h : WfG g) (hl : g'.ones.length = g.ones.length) (hm : ∀ i (hi : i < g'.ones.length), g'.ones[i].member = (g.ones[i]'(by omega)).member) (h1 : g'.session = g.session) (h2 : g'.rebalance = g.rebalance) (h3 : g'.next = g.next) (h4 : 0 ≤ g'.gen ∧ g'.gen ≤ 1152921504606846976) : WfG g' :=
  ⟨fun i j hi hj hij => by rw [hm i hi, hm j hj]; exact h.rise i j _ _ hij, fun i hi => by rw [hm i hi, h3]; exact h.wf i _, by rw [hl]; exact h.len, by rw [h1]; exact h.ses, by rw [h2]; exact h.reb, by rw [h3]; exact h.next, h4⟩
theorem anewG_head (g : GroupC) (now : Int) : (anewG g now).session = g.session ∧ (anewG g now).rebalance = g.rebalance ∧ (anewG g now).next = g.next ∧ (anewG g now).gen = g.gen := by
  unfold anewG
  split <;> exact ⟨rfl, rfl, rfl, rfl⟩
theorem WfG.anew {g : GroupC} (h : WfG g) (now : Int) : WfG (anewG g now) :=
  h.same (anewG_len g now) (anewG_member g now) (anewG_head g now).1 (anewG_head g now).2.1 (anewG_head g now).2.2.1 (by rw [(anewG_head g now).2.2.2]; exact h.gen)
theorem WfG.start {g : GroupC} (h : WfG g) (now : Int) : WfG (startG g now) := by
  unfold startG
  split
  · exact h
  · exact h.anew now
theorem WfG.add {g : GroupC} (h : WfG g) (m : Int) (hl : m = -1 → g.ones.length < 20) (hn : g.next + 1 ≤ 1152921504606846976) : WfG (addG g m) := by
  unfold addG
  split
  · rename_i hm
    have h20 := hl hm
    have hx := h.next
    refine ⟨fun i j hi hj hij => ?_, fun i hi => ?_, by simp; omega, h.ses, h.reb, ⟨by show 0 ≤ g.next + 1; omega, hn⟩, h.gen⟩
    · have hi' : i < g.ones.length := by simp at hi hj; omega
      have e1 : (g.ones ++ [(⟨g.next, [], 0, false, []⟩ : OneC)])[i]'(by simp; omega) = g.ones[i] := List.getElem_append_left hi'
      by_cases hj' : j < g.ones.length
      · have e2 : (g.ones ++ [(⟨g.next, [], 0, false, []⟩ : OneC)])[j]'(by simp; omega) = g.ones[j] := List.getElem_append_left hj'
        show ((g.ones ++ [(⟨g.next, [], 0, false, []⟩ : OneC)])[i]'_).member < ((g.ones ++ [(⟨g.next, [], 0, false, []⟩ : OneC)])[j]'_).member
        rw [e1, e2]
        exact h.rise i j hi' hj' hij
      · have e3 : j = g.ones.length := by simp at hj; omega
        subst e3
        have e2 : (g.ones ++ [(⟨g.next, [], 0, false, []⟩ : OneC)])[g.ones.length]'(by simp) = ⟨g.next, [], 0, false, []⟩ := by simp
        show ((g.ones ++ [(⟨g.next, [], 0, false, []⟩ : OneC)])[i]'_).member < ((g.ones ++ [(⟨g.next, [], 0, false, []⟩ : OneC)])[g.ones.length]'_).member
        rw [e1, e2]
        exact (h.wf i hi').2
    · show 0 ≤ ((g.ones ++ [(⟨g.next, [], 0, false, []⟩ : OneC)])[i]'_).member ∧ ((g.ones ++ [(⟨g.next, [], 0, false, []⟩ : OneC)])[i]'_).member < g.next + 1
      by_cases hi' : i < g.ones.length
      · rw [List.getElem_append_left hi']
        have := h.wf i hi'
        omega
      · rw [List.getElem_append_right (by omega)]
        simp
        omega
  · exact h
theorem has_start {g : GroupC} {m now : Int} (h : hasM g m = true) : hasM (startG g now) m = true := by
  unfold startG
  split
  · exact h
  · unfold hasM at h ⊢
    rw [List.any_eq_true] at h ⊢
    obtain ⟨x, hx, hm⟩ := h
    obtain ⟨i, hi, rfl⟩ := List.mem_iff_getElem.1 hx
    have hi' : i < (anewG g now).ones.length := by rw [anewG_len]; exact hi
    exact ⟨_, List.getElem_mem hi', by rw [anewG_member]; exact hm⟩
theorem has_add {g : GroupC} {m : Int} (h : m = -1 ∨ hasM g m = true) : hasM (addG g m) (nextM g m) = true := by
  unfold addG nextM
  by_cases e : m = -1
  · rw [if_pos e, if_pos e]
    simp [hasM]
  · rw [if_neg e, if_neg e]
    exact h.resolve_left e
/-- A member of no topics is put behind the others. -/
theorem GrpAt.add {w w1 : World} {F : Nat → Prop} {b g1 cap1 : Nat} {g : GroupC} {v : Value} {L : List OneV} {o : Obj} (h : GrpAt w F b g v L)
    (hA : App1 ((w.setCell ⟨b, 4, none⟩ (.int .i64 (g.next + 1))).alloc o) 0 43 5 v L.length (L.flatMap oneEnc ++ [.int .i64 g.next, .slice none 0 0, .int .i64 0, .bool false, .slice none 0 0]) g1 cap1 w1) :
    GrpPost w F b (addG g (-1)) (w1.setCell ⟨b, 6, none⟩ (.slice (some ⟨g1, 0, none⟩) (L.length + 1) cap1)) := by
  have hbl := block_lt h.blk
  have hvb : ∀ k, v.ownBlock = some k → k ≠ b := fun k e => (h.own k e).2
  have hk1 : Keeps (fun k => k = b ∨ v.ownBlock = some k) w w1 := (((Keeps.refl (fun k => k = b ∨ v.ownBlock = some k) w).setC 4 (.int .i64 (g.next + 1)) (fun _ => .inl rfl)).alloc o).grown hA.grown (fun k e _ => .inr e)
  have hb1 : w1.heap[b]? = some (.cells (gCells { g with next := g.next + 1 } v) 63 (0, 0)) := by
    rw [hA.grown.block b (by simp; omega) (fun e => hvb b e.symm rfl)]
    exact block_alloc (setCell_block h.blk 4 _) o
  have hk2 := hk1.setC 6 (.slice (some ⟨g1, 0, none⟩) (L.length + 1) cap1) (b := b) (fun _ => .inl rfl)
  have hg1b : g1 ≠ b := by
    rcases hA.at_ with e | e
    · exact hvb g1 e
    · simp at e; omega
  have hrow := own_keep ((Keeps.refl (fun k => k = b) w1).setC 6 (.slice (some ⟨g1, 0, none⟩) (L.length + 1) cap1) (b := b) (fun _ => rfl)) hA.own (fun k e => by simp [Value.ownBlock] at e; omega)
  have hst := h.step (g' := addG g (-1)) (v' := .slice (some ⟨g1, 0, none⟩) (L.length + 1) cap1) (L' := L ++ [⟨g.next, .slice none 0 0, 0, false, .slice none 0 0, [], []⟩]) hk2 (fun k e => e) (by
      have := setCell_block hb1 6 (.slice (some ⟨g1, 0, none⟩) (L.length + 1) cap1)
      unfold addG
      rw [if_pos rfl]
      exact this) (by
      rw [List.length_append, List.flatMap_append]
      exact hrow) (fun k e => by
      have e1 : g1 = k := by simpa [Value.ownBlock] using e
      subst e1
      rcases hA.at_ with e2 | e2
      · exact .inl e2
      · right; simp at e2; omega) (by
      unfold addG
      rw [if_pos rfl, List.map_append, h.ones]
      rfl) (fun x hx => by
      rcases List.mem_append.1 hx with hx | hx
      · exact .inl ⟨x, hx, rfl, rfl⟩
      · rw [List.mem_singleton] at hx
        subst hx
        exact .inr (Out.nil _ _ _ _)) (fun x hx => by
      rcases List.mem_append.1 hx with hx | hx
      · exact .inl ⟨x, hx, rfl, rfl⟩
      · rw [List.mem_singleton] at hx
        subst hx
        exact .inr (Out.nil _ _ _ _))
  exact ⟨_, ⟨_, _, hst⟩, fun k e => e.elim .inl fun e => .inr e.1, hk2.mono fun k _ e => e.elim (fun e => e ▸ h.fb) fun e => (h.own k e).1⟩
/-- One member's topics are set, behind a copy of them. -/
theorem GrpAt.setOne {w w1 : World} {F : Nat → Prop} {b r cap : Nat} {g : GroupC} {L : List OneV} (h : GrpAt w F b g (.slice (some ⟨r, 0, none⟩) L.length cap) L) (hr : RiseM L) {m : Int} {i : Nat} (hi : i < L.length) (e : L[i].member = m) {tv : Value} {topics : List ByteArray} {t : Int}
    (hk : K0 w w1) (ht : Out 1 rStr w1 (fun k => w.heap.size ≤ k) tv topics) :
    GrpPost w F b (setG g m topics t) (((w1.setCell ⟨r, i * 5 + 1, none⟩ tv).setCell ⟨r, i * 5 + 3, none⟩ (.bool true)).setCell ⟨r, i * 5 + 2, none⟩ (.int .i64 t)) := by
  have hrl : r < w.heap.size := own_lt h.row rfl
  have hbl := block_lt h.blk
  have h0 := own_keep hk h.row (fun _ _ e => e)
  have h1 := (((h0.stored (i * 5 + 1) tv).1.stored (i * 5 + 3) (.bool true)).1.stored (i * 5 + 2) (.int .i64 t)).1
  rw [flat_set' oneEnc 5 oneEnc_len (fun x => { x with tv := tv, topics := topics }) 1 tv (by omega) (fun _ => rfl) L i hi,
    flat_set' oneEnc 5 oneEnc_len (fun x => { x with joined := true }) 3 (.bool true) (by omega) (fun _ => rfl) _ i (by simpa using hi),
    flat_set' oneEnc 5 oneEnc_len (fun x => { x with til := t }) 2 (.int .i64 t) (by omega) (fun _ => rfl) _ i (by simpa using hi), List.modify_modify_eq, List.modify_modify_eq] at h1
  have hks : Keeps (fun k => k = r) w1 (((w1.setCell ⟨r, i * 5 + 1, none⟩ tv).setCell ⟨r, i * 5 + 3, none⟩ (.bool true)).setCell ⟨r, i * 5 + 2, none⟩ (.int .i64 t)) :=
    (((Keeps.refl (fun k => k = r) w1).setC _ _ (fun _ => rfl)).setC _ _ (fun _ => rfl)).setC _ _ (fun _ => rfl)
  have hk2 : Keeps (fun k => (Value.slice (some ⟨r, 0, none⟩) L.length cap).ownBlock = some k) w (((w1.setCell ⟨r, i * 5 + 1, none⟩ tv).setCell ⟨r, i * 5 + 3, none⟩ (.bool true)).setCell ⟨r, i * 5 + 2, none⟩ (.int .i64 t)) :=
    (hk.mono fun _ _ e => e.elim).trans hks fun k _ e => by subst e; rfl
  have ht2 : Out 1 rStr (((w1.setCell ⟨r, i * 5 + 1, none⟩ tv).setCell ⟨r, i * 5 + 3, none⟩ (.bool true)).setCell ⟨r, i * 5 + 2, none⟩ (.int .i64 t)) (fun k => w.heap.size ≤ k ∧ k ≠ b ∧ (Value.slice (some ⟨r, 0, none⟩) L.length cap).ownBlock ≠ some k) tv topics :=
    ht.keep still_str hks (fun k _ e1 e2 => by
      have e1 : w.heap.size ≤ k := e1
      have e2 : k = r := e2
      omega) (fun k _ e1 => by
      have e1 : w.heap.size ≤ k := e1
      refine ⟨e1, by omega, fun e2 => ?_⟩
      have : r = k := by simpa [Value.ownBlock] using e2
      omega)
  have hst := h.step (g' := setG g m topics t) (v' := .slice (some ⟨r, 0, none⟩) L.length cap) (L' := L.modify i fun x => { x with tv := tv, topics := topics, joined := true, til := t }) (hk2.mono (S1 := fun k => k = b ∨ (Value.slice (some ⟨r, 0, none⟩) L.length cap).ownBlock = some k) fun _ _ e => .inr e) (fun k e => e)
    ((hk2.block b hbl (fun e => (h.own b e).2 rfl)).trans h.blk) (by rw [List.length_modify]; exact h1) (fun k e => .inl e) (by
      rw [modify_core hr hi e _ (fun o => { o with topics := topics, joined := true, til := t }) (fun _ => rfl), h.ones]
      rfl) (fun x hx => by
      obtain ⟨k, hkk, rfl⟩ := List.mem_iff_getElem.1 hx
      have hk' : k < L.length := by simpa using hkk
      rw [List.getElem_modify]
      split
      · exact .inr ht2
      · exact .inl ⟨L[k], List.getElem_mem hk', rfl, rfl⟩) (fun x hx => by
      obtain ⟨k, hkk, rfl⟩ := List.mem_iff_getElem.1 hx
      have hk' : k < L.length := by simpa using hkk
      refine .inl ⟨L[k], List.getElem_mem hk', ?_⟩
      rw [List.getElem_modify]
      split <;> exact ⟨rfl, rfl⟩)
  exact ⟨_, ⟨_, _, hst⟩, fun k e => e.elim .inl fun e => .inr e.1, hk2.mono fun k _ e => (h.own k e).1⟩
end Go.Proofs.Ytlmajhkhlmkeiaa
