/-
  What stays of a group whatever is done with it; the tick.
-/
import Derived.Test.YtlmajhkhlmkeiaaGo
namespace Go.Proofs.Ytlmajhkhlmkeiaa
open Go.RowKit Go.Shelf Fx

def MemLt (a b : OneC) : Prop := a.member < b.member
theorem WfG.pair {g : GroupC} (h : WfG g) : g.ones.Pairwise MemLt := List.pairwise_iff_getElem.2 fun i j hi hj hij => h.rise i j hi hj hij
theorem WfG.mem {g : GroupC} (h : WfG g) : ∀ o ∈ g.ones, 0 ≤ o.member ∧ o.member < g.next := fun o ho => by
  obtain ⟨i, hi, rfl⟩ := List.mem_iff_getElem.1 ho
  exact h.wf i hi
theorem WfG.of {g g' : GroupC} (h : WfG g) (hp : g'.ones.Pairwise MemLt) (hm : ∀ o ∈ g'.ones, 0 ≤ o.member ∧ o.member < g.next) (hl : g'.ones.length ≤ 20) (h1 : g'.session = g.session) (h2 : g'.rebalance = g.rebalance) (h3 : g'.next = g.next) (h4 : 0 ≤ g'.gen ∧ g'.gen ≤ 1152921504606846976) : WfG g' :=
  ⟨fun i j hi hj hij => List.pairwise_iff_getElem.1 hp i j hi hj hij, fun i hi => by rw [h3]; exact hm _ (List.getElem_mem hi), hl, by rw [h1]; exact h.ses, by rw [h2]; exact h.reb, by rw [h3]; exact h.next, h4⟩
theorem WfG.fil {g : GroupC} (h : WfG g) (q : OneC → Bool) : WfG (filG g q) :=
  h.of (h.pair.filter _) (fun o ho => h.mem o (List.mem_filter.1 ho).1) (Nat.le_trans (List.length_filter_le _ _) h.len) rfl rfl rfl h.gen
theorem WfG.enter {g : GroupC} (h : WfG g) (p t : Int) : WfG (enterG g p t) := ⟨h.rise, h.wf, h.len, h.ses, h.reb, h.next, h.gen⟩
theorem WfG.close {g : GroupC} (h : WfG g) (now : Int) (hg : g.gen + 1 ≤ 1152921504606846976) : WfG (closeG g now) := by
  unfold closeG
  have h1 := h.fil fun o => !o.joined
  split
  · exact h1.enter 0 0
  · have h2 : WfG { filG g (fun o => !o.joined) with gen := g.gen + 1 } := ⟨h1.rise, h1.wf, h1.len, h1.ses, h1.reb, h1.next, ⟨by have := h.gen; show 0 ≤ g.gen + 1; omega, hg⟩⟩
    exact h2.enter _ _
theorem closeG_head (g : GroupC) (now : Int) : (closeG g now).session = g.session ∧ (closeG g now).rebalance = g.rebalance ∧ (closeG g now).next = g.next ∧ (g.gen ≤ (closeG g now).gen ∧ (closeG g now).gen ≤ g.gen + 1) := by
  unfold closeG
  split
  · exact ⟨rfl, rfl, rfl, by show g.gen ≤ g.gen; omega, by show g.gen ≤ g.gen + 1; omega⟩
  · exact ⟨rfl, rfl, rfl, by show g.gen ≤ g.gen + 1; omega, by show g.gen + 1 ≤ g.gen + 1; omega⟩
theorem WfG.drop {g : GroupC} (h : WfG g) (now : Int) (q : OneC → Bool) (hg : g.gen + 1 ≤ 1152921504606846976) : WfG (dropG g now q) := by
  unfold dropG
  have h1 := h.fil q
  split
  · exact h1
  · split
    · exact h1.anew now
    · split
      · exact h1.close now hg
      · exact h1
theorem dropG_head (g : GroupC) (now : Int) (q : OneC → Bool) : (dropG g now q).session = g.session ∧ (dropG g now q).rebalance = g.rebalance ∧ (dropG g now q).next = g.next ∧ (g.gen ≤ (dropG g now q).gen ∧ (dropG g now q).gen ≤ g.gen + 1) := by
  unfold dropG
  split
  · exact ⟨rfl, rfl, rfl, by show g.gen ≤ g.gen; omega, by show g.gen ≤ g.gen + 1; omega⟩
  · split
    · obtain ⟨a1, a2, a3, a4⟩ := anewG_head (filG g q) now
      exact ⟨a1, a2, a3, by rw [a4]; show g.gen ≤ g.gen; omega, by rw [a4]; show g.gen ≤ g.gen + 1; omega⟩
    · split
      · exact closeG_head (filG g q) now
      · exact ⟨rfl, rfl, rfl, by show g.gen ≤ g.gen; omega, by show g.gen ≤ g.gen + 1; omega⟩
/-- A group without members is in phase 0. -/
def EmpG (g : GroupC) : Prop := g.ones.length = 0 → g.phase = 0
theorem EmpG.new (s r : Int) : EmpG (newG s r) := fun _ => rfl
theorem EmpG.anew (g : GroupC) (now : Int) : EmpG (anewG g now) := fun h => by
  rw [anewG_len] at h
  unfold anewG
  rw [if_pos h]
  rfl
theorem EmpG.close (g : GroupC) (now : Int) : EmpG (closeG g now) := by
  unfold closeG
  split
  · exact fun _ => rfl
  · rename_i h
    exact fun h2 => absurd h2 h
theorem EmpG.drop {g : GroupC} (h : EmpG g) (now : Int) (q : OneC → Bool) : EmpG (dropG g now q) := by
  unfold dropG
  split
  · rename_i h1
    exact fun h2 => h (by rw [← h1]; exact h2)
  · split
    · exact EmpG.anew _ _
    · rename_i h1
      split
      · exact EmpG.close _ _
      · exact fun h2 => absurd h2 (by omega)
/-- Nobody has too much. -/
def BndG (g : GroupC) : Prop := ∀ o ∈ g.ones, o.topics.length ≤ 1000 ∧ o.parts.length ≤ 100000
theorem BndG.fil {g : GroupC} (h : BndG g) (q : OneC → Bool) : BndG (filG g q) := fun o ho => h o (List.mem_filter.1 ho).1
theorem BndG.anew {g : GroupC} (h : BndG g) (now : Int) : BndG (anewG g now) := by
  unfold anewG
  split
  · exact h
  · intro o ho
    obtain ⟨x, hx, rfl⟩ := List.mem_map.1 ho
    exact ⟨(h x hx).1, Nat.zero_le _⟩
theorem BndG.close {g : GroupC} (h : BndG g) (now : Int) : BndG (closeG g now) := by
  unfold closeG
  split
  · exact h.fil _
  · exact h.fil _
theorem BndG.drop {g : GroupC} (h : BndG g) (now : Int) (q : OneC → Bool) : BndG (dropG g now q) := by
  unfold dropG
  split
  · exact h.fil _
  · split
    · exact (h.fil q).anew now
    · split
      · exact (h.fil q).close now
      · exact h.fil _
theorem BndG.new (s r : Int) : BndG (newG s r) := fun o ho => by cases ho
theorem BndG.join {g : GroupC} (h : BndG g) (m : Int) (topics : List ByteArray) (now : Int) (ht : topics.length ≤ 1000) : BndG (joinG g m topics now) := by
  have h1 : BndG (addG g m) := by
    unfold addG
    split
    · intro o ho
      rcases List.mem_append.1 ho with ho | ho
      · exact h o ho
      · rw [List.mem_singleton] at ho
        subst ho
        exact ⟨Nat.zero_le _, Nat.zero_le _⟩
    · exact h
  have h2 : BndG (startG (addG g m) now) := by
    unfold startG
    split
    · exact h1
    · exact h1.anew now
  have h3 : BndG (setG (startG (addG g m) now) (nextM g m) topics (now + g.session)) := by
    intro o ho
    obtain ⟨x, hx, rfl⟩ := List.mem_map.1 ho
    unfold setO
    split
    · exact ⟨ht, (h2 x hx).2⟩
    · exact h2 x hx
  unfold joinG finG
  split
  · exact h3.close now
  · exact h3
theorem has_len {g : GroupC} {m : Int} (h : hasM g m = true) : g.ones.length ≠ 0 := fun e => by
  have : g.ones = [] := List.eq_nil_of_length_eq_zero e
  unfold hasM at h
  rw [this] at h
  cases h
theorem setG_len (g : GroupC) (m : Int) (topics : List ByteArray) (t : Int) : (setG g m topics t).ones.length = g.ones.length := by simp [setG]
theorem WfG.set {g : GroupC} (h : WfG g) (m : Int) (topics : List ByteArray) (t : Int) : WfG (setG g m topics t) :=
  h.same (setG_len _ _ _ _) (fun i hi => by simp only [setG, List.getElem_map, setO]; split <;> rfl) rfl rfl rfl h.gen
/-- What joins leaves of a group. -/
theorem join_keeps {g : GroupC} {m now : Int} (topics : List ByteArray) (hw : WfG g) (hm : -9223372036854775808 ≤ m ∧ m ≤ 9223372036854775807) (hn : g.next + 1 ≤ 1152921504606846976) (hg : g.gen + 1 ≤ 1152921504606846976) (he : joinE g m topics now = 0) :
    WfG (joinG g m topics now) ∧ EmpG (joinG g m topics now) ∧ g.gen ≤ (joinG g m topics now).gen ∧ (joinG g m topics now).gen ≤ g.gen + 1 ∧ g.next ≤ (joinG g m topics now).next ∧ (joinG g m topics now).next ≤ g.next + 1 ∧ (joinG g m topics now).session = g.session ∧ (joinG g m topics now).rebalance = g.rebalance := by
  unfold joinE at he
  split at he
  · cases he
  · split at he
    · cases he
    · rename_i h2
      split at he
      · cases he
      · rename_i h3
        have hl : m = -1 → g.ones.length < 20 := fun e => by
          subst e
          simpa using h3
        have hh : hasM (addG g m) (nextM g m) = true := has_add (by
          by_cases e : m = -1
          · exact .inl e
          · right
            have e2 : (m == -1) = false := by simpa using e
            rw [e2] at h2
            simpa using h2)
        obtain ⟨_, w1, w2, w3, w4⟩ := tail_pre hw hl hn hh hm (now := now)
        have hgen : (startG (addG g m) now).gen = g.gen := by
          unfold startG
          have : (addG g m).gen = g.gen := by unfold addG; split <;> rfl
          split
          · exact this
          · rw [(anewG_head _ _).2.2.2, this]
        have hreb : (startG (addG g m) now).rebalance = g.rebalance := by
          unfold startG
          have : (addG g m).rebalance = g.rebalance := by unfold addG; split <;> rfl
          split
          · exact this
          · rw [(anewG_head _ _).2.1, this]
        have hnx : (startG (addG g m) now).next = (addG g m).next := by
          unfold startG
          split
          · rfl
          · rw [(anewG_head _ _).2.2.1]
        have hnx2 : g.next ≤ (addG g m).next ∧ (addG g m).next ≤ g.next + 1 := by
          unfold addG
          split
          · exact ⟨by show g.next ≤ g.next + 1; omega, by show g.next + 1 ≤ g.next + 1; omega⟩
          · omega
        have w5 := w2.set (nextM g m) topics (now + g.session)
        unfold joinG finG
        split
        · have hc := closeG_head (setG (startG (addG g m) now) (nextM g m) topics (now + g.session)) now
          have e1 : (setG (startG (addG g m) now) (nextM g m) topics (now + g.session)).gen = g.gen := hgen
          have e2 : (setG (startG (addG g m) now) (nextM g m) topics (now + g.session)).next = (addG g m).next := hnx
          exact ⟨w5.close now (by rw [e1]; exact hg), EmpG.close _ _, by omega, by omega, by rw [hc.2.2.1, e2]; exact hnx2.1, by rw [hc.2.2.1, e2]; exact hnx2.2, hc.1.trans w4, hc.2.1.trans hreb⟩
        · refine ⟨w5, fun h => ?_, ?_, ?_, ?_, ?_, w4, hreb⟩
          · rw [setG_len] at h
            exact absurd h (has_len w3)
          · show g.gen ≤ (startG (addG g m) now).gen; omega
          · show (startG (addG g m) now).gen ≤ g.gen + 1; omega
          · show g.next ≤ (startG (addG g m) now).next; omega
          · show (startG (addG g m) now).next ≤ g.next + 1; omega
def leaderOf (g : GroupC) : Int := match g.ones with
  | o :: _ => o.member
  | [] => 0
def tickG (g : GroupC) (now : Int) : GroupC :=
  if timeOk now then
    if now < (dropG g now fun o => decide (o.til ≤ now)).til then dropG g now fun o => decide (o.til ≤ now)
    else if (dropG g now fun o => decide (o.til ≤ now)).phase = 1 then closeG (dropG g now fun o => decide (o.til ≤ now)) now
    else if (dropG g now fun o => decide (o.til ≤ now)).phase = 2 then dropG (dropG g now fun o => decide (o.til ≤ now)) now fun o => o.member == leaderOf (dropG g now fun o => decide (o.til ≤ now))
    else dropG g now fun o => decide (o.til ≤ now)
  else g
theorem tick_keeps {g : GroupC} (now : Int) (hw : WfG g) (he : EmpG g) (hb : BndG g) (hg : g.gen + 2 ≤ 1152921504606846976) :
    WfG (tickG g now) ∧ EmpG (tickG g now) ∧ BndG (tickG g now) ∧ g.gen ≤ (tickG g now).gen ∧ (tickG g now).gen ≤ g.gen + 2 ∧ (tickG g now).next = g.next ∧ (tickG g now).session = g.session ∧ (tickG g now).rebalance = g.rebalance := by
  unfold tickG
  have h1 := hw.drop now (fun o => decide (o.til ≤ now)) (by omega)
  have h2 := he.drop now (fun o => decide (o.til ≤ now))
  have h3 := hb.drop now (fun o => decide (o.til ≤ now))
  have h4 := dropG_head g now (fun o => decide (o.til ≤ now))
  generalize (dropG g now fun o => decide (o.til ≤ now)) = g1 at *
  split
  · split
    · exact ⟨h1, h2, h3, by omega, by omega, h4.2.2.1, h4.1, h4.2.1⟩
    · split
      · have h5 := closeG_head g1 now
        exact ⟨h1.close now (by omega), EmpG.close _ _, h3.close now, by omega, by omega, h5.2.2.1.trans h4.2.2.1, h5.1.trans h4.1, h5.2.1.trans h4.2.1⟩
      · split
        · have h5 := dropG_head g1 now (fun o => o.member == leaderOf g1)
          exact ⟨h1.drop now _ (by omega), h2.drop now _, h3.drop now _, by omega, by omega, h5.2.2.1.trans h4.2.2.1, h5.1.trans h4.1, h5.2.1.trans h4.2.1⟩
        · exact ⟨h1, h2, h3, by omega, by omega, h4.2.2.1, h4.1, h4.2.1⟩
  · exact ⟨hw, he, hb, by omega, by omega, rfl, rfl, rfl⟩
end Go.Proofs.Ytlmajhkhlmkeiaa
