/-
  A group that a call has made and goes on with: each method, told once more for the laws.
-/
import Derived.Test.YtlmajhkhlmkeiaaGt
namespace Go.Proofs.Ytlmajhkhlmkeiaa
open Go.RowKit Go.Shelf Fx

/-- A group at block b, all of it made since w0; nothing else was changed. -/
def St (w0 w : World) (b : Nat) (g : GroupC) : Prop := ∃ F, Grp w F b g ∧ (∀ k, F k → w0.heap.size ≤ k) ∧ K0 w0 w
theorem St.k0 {w0 w : World} {b : Nat} {g : GroupC} (h : St w0 w b g) : K0 w0 w := by obtain ⟨_, _, _, h⟩ := h; exact h
theorem St.keep {w0 w w' : World} {b : Nat} {g : GroupC} (h : St w0 w b g) (hk : K0 w w') : St w0 w' b g := by
  obtain ⟨F, h1, h2, h3⟩ := h
  exact ⟨F, h1.keep hk fun _ _ e => e, h2, K0.tr h3 hk⟩
theorem St.step {w0 w w' : World} {F : Nat → Prop} {b : Nat} {g' : GroupC} (hF : ∀ k, F k → w0.heap.size ≤ k) (hk : K0 w0 w) (h : GrpPost w F b g' w') : St w0 w' b g' := by
  obtain ⟨F', h1, h2, h3⟩ := h
  exact ⟨F', h1, fun k e => (h2 k e).elim (hF k) fun e => Nat.le_trans hk.size e, hk.trans h3 fun k hk' e => by have := hF k e; omega⟩
theorem Grp.ltF {w : World} {F : Nat → Prop} {b : Nat} {g : GroupC} (h : Grp w F b g) : ∀ k, F k → k < w.heap.size := by obtain ⟨_, _, h⟩ := h; exact h.lt
theorem out_base {α : Type} {n : Nat} {R : Rdr α} (hR : Still R) {w0 w : World} {F : Nat → Prop} {tv : Value} {l : List α} (h : Out n R w0 (fun _ => True) tv l) (hF : ∀ k, F k → w0.heap.size ≤ k) (hk : K0 w0 w) : Out n R w (fun k => ¬ F k) tv l :=
  h.keep hR hk (fun _ _ _ e => e) (fun k hlt _ e => by have := hF k e; omega)
theorem out_str {w : World} {B : Nat} {s : ByteArray} (h : w.heap[B]? = some (.cells #[.string s] 9)) (hs : s.size ≤ maxLen) {G : Nat → Prop} (hG : G B) : Out 1 rStr w G (.slice (some ⟨B, 0, none⟩) 1 1) [s] := by
  refine ⟨_, 1, rfl, ⟨Nat.le_refl _, by unfold maxLen; omega, fun _ => ⟨B, 0, rfl, fun i hi => ?_⟩⟩, fun x e _ => by cases e; exact ⟨block_lt h, hG⟩⟩
  obtain rfl : i = 0 := by simpa using hi
  refine ⟨[.string s], rfl, fun j hj => ?_, rfl, hs⟩
  obtain rfl : j = 0 := by omega
  exact block_cell h 0
theorem out_top {w : World} {B : Nat} {s : ByteArray} {p : Int} (h : w.heap[B]? = some (.cells #[.string s, .int .i64 p] 59)) (hp : (Lit.int .i64 p).wf = true) {G : Nat → Prop} (hG : G B) : Out 2 rTop w G (.slice (some ⟨B, 0, none⟩) 1 1) [⟨s, p⟩] := by
  refine ⟨_, 1, rfl, ⟨Nat.le_refl _, by unfold maxLen; omega, fun _ => ⟨B, 0, rfl, fun i hi => ?_⟩⟩, fun x e _ => by cases e; exact ⟨block_lt h, hG⟩⟩
  obtain rfl : i = 0 := by simpa using hi
  refine ⟨[.string s, .int .i64 p], rfl, fun j hj => ?_, rfl, hp⟩
  match j, hj with
  | 0, _ => exact block_cell h 0
  | 1, _ => exact block_cell h 1
/-- A group with room for n more steps. -/
structure Ok (n : Nat) (g : GroupC) : Prop where
  wf : WfG g
  emp : EmpG g
  bnd : BndG g
  gen : g.gen + n ≤ 1152921504606846976
  next : g.next + n ≤ 1152921504606846976
theorem Ok.new {s r : Int} (h1 : 1 ≤ s ∧ s ≤ 100000) (h2 : 1 ≤ r ∧ r ≤ 100000) : Ok 1000 (newG s r) := ⟨WfG.new h1 h2, EmpG.new s r, BndG.new s r, by show (0 : Int) + 1000 ≤ _; omega, by show (0 : Int) + 1000 ≤ _; omega⟩
theorem Ok.le {n m : Nat} {g : GroupC} (h : Ok n g) (hm : m ≤ n) : Ok m g := ⟨h.wf, h.emp, h.bnd, by have := h.gen; omega, by have := h.next; omega⟩
theorem Ok.join {n : Nat} {g : GroupC} {m now : Int} {topics : List ByteArray} (h : Ok (n + 1) g) (hm : -9223372036854775808 ≤ m ∧ m ≤ 9223372036854775807) (ht : topics.length ≤ 1000) (he : joinE g m topics now = 0) : Ok n (joinG g m topics now) := by
  have h1 := h.gen
  have h2 := h.next
  obtain ⟨a1, a2, a3, a4, a5, a6, _⟩ := join_keeps topics h.wf hm (by omega) (by omega) he
  exact ⟨a1, a2, h.bnd.join m topics now ht, by omega, by omega⟩
theorem Ok.tick {n : Nat} {g : GroupC} (now : Int) (h : Ok (n + 2) g) : Ok n (tickG g now) := by
  have h1 := h.gen
  have h2 := h.next
  obtain ⟨a1, a2, a3, a4, a5, a6, _⟩ := tick_keeps now h.wf h.emp h.bnd (by omega)
  exact ⟨a1, a2, a3, by omega, by omega⟩
theorem Ok.touch {n : Nat} {g : GroupC} (h : Ok n g) (m t : Int) : Ok n (touchG g m t) :=
  ⟨h.wf.touch m t, fun e => h.emp (by simpa [touchG] using e), fun o ho => by
    obtain ⟨x, hx, rfl⟩ := List.mem_map.1 ho
    unfold touchO
    split <;> exact h.bnd x hx, h.gen, h.next⟩
theorem Ok.beat {n : Nat} {g : GroupC} (h : Ok n g) (m gn now : Int) : Ok n (beatG g m gn now) := by
  unfold beatG
  split
  · split
    · exact h.touch _ _
    · exact h
  · exact h
theorem Ok.leave {n : Nat} {g : GroupC} (h : Ok (n + 1) g) (m now : Int) : Ok n (leaveG g m now) := by
  unfold leaveG
  have h1 := h.gen
  have h2 := h.next
  split
  · split
    · have hd := dropG_head g now (fun o => o.member == m)
      exact ⟨h.wf.drop now _ (by omega), h.emp.drop now _, h.bnd.drop now _, by omega, by rw [hd.2.2.1]; omega⟩
    · exact h.le (by omega)
  · exact h.le (by omega)
theorem Ok.share {n : Nat} {g : GroupC} (h : Ok n g) {round : Bool} {subs : List SubC} {tops : List TopC} (hc : chk subs tops = 0) (hne : g.ones.length ≠ 0) : Ok n (shareG g (dealL round subs tops)) := by
  refine ⟨h.wf.share _, fun e => absurd (by simpa [shareG, enterG] using e) hne, fun o ho => ?_, h.gen, h.next⟩
  obtain ⟨i, hi, rfl⟩ := List.mem_iff_getElem.1 ho
  have hi' : i < g.ones.length := by simpa [shareG, enterG] using hi
  have e : (shareG g (dealL round subs tops)).ones[i] = partO (dealL round subs tops) i g.ones[i] := by simp [shareG, enterG]
  rw [e]
  refine ⟨(h.bnd _ (List.getElem_mem hi')).1, ?_⟩
  show ((dealL round subs tops).getD i ⟨0, []⟩).parts.length ≤ 100000
  by_cases hid : i < (dealL round subs tops).length
  · rw [List.getD, List.getElem?_eq_getElem hid]
    have := (deal_len hc).2 i hid
    simp only [Option.getD_some]
    omega
  · rw [List.getD, List.getElem?_eq_none (by omega)]
    exact Nat.zero_le _
theorem known_len {g : GroupC} {m gn : Int} (h : knownE g m gn = 0) : g.ones.length ≠ 0 := by
  unfold knownE at h
  split at h
  · rename_i h1
    exact has_len h1
  · cases h
theorem Ok.sync {n : Nat} {g : GroupC} (h : Ok n g) (m gn : Int) (tops : List TopC) (round : Bool) (now : Int) : Ok n (syncG g m gn tops round now) := by
  have ht : Ok n (syncTouch g m now) := h.touch _ _
  unfold syncG
  split
  · split
    · rename_i hk
      split
      · exact h
      · split
        · split
          · split
            · rename_i hc
              exact ht.share hc (by have := known_len hk; simpa [syncTouch, touchG] using this)
            · exact ht
          · exact ht
        · exact ht
    · exact h
  · exact h
section
variable {n : Nat} {w0 w : World} {b : Nat} {g : GroupC} {F : Nat → Prop}
theorem grp_join (m now : Int) (tv : Value) (topics : List ByteArray) (h : Grp w F b g) (hF : ∀ k, F k → w0.heap.size ≤ k) (hk : K0 w0 w) (ok : Ok (n + 1) g) (hm : -9223372036854775808 ≤ m ∧ m ≤ 9223372036854775807) (ht : Out 1 rStr w (fun k => ¬ F k) tv topics) :
    Calls Try.prog 11 #[.pointer (some ⟨b, 0, none⟩), .int .i64 m, tv, .int .i64 now] w fun e w' => e = .returned (.tuple #[.int .i64 (if joinE g m topics now = 0 then nextM g m else 0), .int .i64 (joinE g m topics now)]) ∧ St w0 w' b (if joinE g m topics now = 0 then joinG g m topics now else g) :=
  (join_any w F b g m now tv topics h ok.wf hm (by have := ok.next; omega) ht).mono fun e w' hq => ⟨hq.1, St.step hF hk hq.2⟩
theorem st_join (m now : Int) (tv : Value) (topics : List ByteArray) (h : St w0 w b g) (ok : Ok (n + 1) g) (hm : -9223372036854775808 ≤ m ∧ m ≤ 9223372036854775807) (ht : Out 1 rStr w0 (fun _ => True) tv topics) :
    Calls Try.prog 11 #[.pointer (some ⟨b, 0, none⟩), .int .i64 m, tv, .int .i64 now] w fun e w' => e = .returned (.tuple #[.int .i64 (if joinE g m topics now = 0 then nextM g m else 0), .int .i64 (joinE g m topics now)]) ∧ St w0 w' b (if joinE g m topics now = 0 then joinG g m topics now else g) := by
  obtain ⟨F, h1, h2, h3⟩ := h
  exact grp_join m now tv topics h1 h2 h3 ok hm (out_base still_str ht h2 h3)
/-- With one topic that was just laid. -/
theorem st_join1 (m now : Int) (s : ByteArray) (h : St w0 w b g) (ok : Ok (n + 1) g) (hm : -9223372036854775808 ≤ m ∧ m ≤ 9223372036854775807) (hs : s.size ≤ maxLen) :
    Calls Try.prog 11 #[.pointer (some ⟨b, 0, none⟩), .int .i64 m, .slice (some ⟨w.heap.size, 0, none⟩) 1 1, .int .i64 now] (w.alloc (.cells #[.string s] 9)) fun e w' => e = .returned (.tuple #[.int .i64 (if joinE g m [s] now = 0 then nextM g m else 0), .int .i64 (joinE g m [s] now)]) ∧ St w0 w' b (if joinE g m [s] now = 0 then joinG g m [s] now else g) := by
  obtain ⟨F, h1, h2, h3⟩ := h
  exact grp_join m now _ [s] (h1.keep ((Keeps.refl (fun _ => False) w).alloc _) fun _ _ e => e) h2 (h3.alloc _) ok hm (out_str (heap_new _ _ _ rfl) hs (fun e => Nat.lt_irrefl _ (h1.ltF _ e)))
theorem view_field0 (a b c d : Int) (x : Option Addr) (n k : Nat) (w : World) : (Instr.field 35 (.agg #[.int .i64 a, .int .i64 b, .int .i64 c, .int .i64 d, .slice x n k]) 0).run Try.prog w = .ok (.int .i64 a) w := by kernel_rfl
theorem view_field1 (a b c d : Int) (x : Option Addr) (n k : Nat) (w : World) : (Instr.field 35 (.agg #[.int .i64 a, .int .i64 b, .int .i64 c, .int .i64 d, .slice x n k]) 1).run Try.prog w = .ok (.int .i64 b) w := by kernel_rfl
/-- View's answer, its members' row a slice. -/
def SeenPost (w : World) (g : GroupC) (e : Ending) (w' : World) : Prop :=
  ∃ a c, e = .returned (.agg #[.int .i64 g.phase, .int .i64 g.gen, .int .i64 g.next, .int .i64 g.til, .slice a g.ones.length c]) ∧ ViewAt w' w.heap.size (.slice a g.ones.length c) g.ones ∧ K0 w w'
theorem ViewPost.seen {w w' : World} {g : GroupC} {e : Ending} (h : ViewPost w g e w') : SeenPost w g e w' := by
  obtain ⟨mv, rfl, h1, hk⟩ := h
  have h0 := h1
  obtain ⟨C, e1, h2, _⟩ := h1
  have hl : C.length = g.ones.length := by rw [← e1]; simp
  obtain ⟨a, c, rfl⟩ : ∃ a c, mv = .slice a g.ones.length c := by
    rw [← hl]
    rcases h2.2 with ⟨h3, h4⟩ | ⟨r, cap, cur, h3, _⟩
    · rw [h4]; exact ⟨_, _, h3⟩
    · exact ⟨_, _, h3⟩
  exact ⟨a, c, rfl, h0, hk⟩
theorem st_view (h : St w0 w b g) (ok : Ok n g) : Calls Try.prog 12 #[.pointer (some ⟨b, 0, none⟩)] w fun e w' => SeenPost w g e w' ∧ St w0 w' b g := by
  have h0 := h
  obtain ⟨F, h1, h2, h3⟩ := h
  exact (view_any w F b g h1 (by have := ok.wf.len; omega) ok.bnd).mono fun e w' hq => ⟨hq.seen, h0.keep (by obtain ⟨_, _, _, h⟩ := hq; exact h)⟩
theorem st_tick (now : Int) (h : St w0 w b g) (ok : Ok (n + 2) g) : Calls Try.prog 14 #[.pointer (some ⟨b, 0, none⟩), .int .i64 now] w fun e w' => e = .returned (.tuple #[]) ∧ St w0 w' b (tickG g now) := by
  obtain ⟨F, h1, h2, h3⟩ := h
  exact (tick_any w F b g now h1 ok.wf ok.emp (by have := ok.gen; omega)).mono fun e w' hq => ⟨hq.1, St.step h2 h3 hq.2⟩
theorem st_beat (m gn now : Int) (h : St w0 w b g) (ok : Ok n g) (hm : -9223372036854775808 ≤ m ∧ m ≤ 9223372036854775807) : Calls Try.prog 15 #[.pointer (some ⟨b, 0, none⟩), .int .i64 m, .int .i64 gn, .int .i64 now] w fun e w' => e = .returned (.int .i64 (beatE g m gn now)) ∧ St w0 w' b (beatG g m gn now) := by
  obtain ⟨F, h1, h2, h3⟩ := h
  exact (beat_any w F b g m gn now h1 ok.wf hm).mono fun e w' hq => ⟨hq.1, St.step h2 h3 hq.2⟩
theorem st_leave (m now : Int) (h : St w0 w b g) (ok : Ok (n + 1) g) (hm : -9223372036854775808 ≤ m ∧ m ≤ 9223372036854775807) : Calls Try.prog 16 #[.pointer (some ⟨b, 0, none⟩), .int .i64 m, .int .i64 now] w fun e w' => e = .returned (.int .i64 (leaveE g m now)) ∧ St w0 w' b (leaveG g m now) := by
  obtain ⟨F, h1, h2, h3⟩ := h
  exact (leave_any w F b g m now h1 ok.wf hm).mono fun e w' hq => ⟨hq.1, St.step h2 h3 hq.2⟩
theorem st_knows (m gn : Int) (h : St w0 w b g) (ok : Ok n g) (hm : -9223372036854775808 ≤ m ∧ m ≤ 9223372036854775807) : Calls Try.prog 17 #[.pointer (some ⟨b, 0, none⟩), .int .i64 m, .int .i64 gn] w fun e w' => e = .returned (.int .i64 (knowsE g m gn)) ∧ St w0 w' b g := by
  have h0 := h
  obtain ⟨F, h1, h2, h3⟩ := h
  exact (knows_any w F b g m gn h1 ok.wf hm).mono fun e w' hq => ⟨hq.1, h0.keep hq.2⟩
theorem st_new {w : World} (s r : Int) (h1 : 1 ≤ s ∧ s ≤ 100000) (h2 : 1 ≤ r ∧ r ≤ 100000) : Calls Try.prog 10 #[.int .i64 s, .int .i64 r] w fun e w' => e = .returned (.tuple #[.pointer (some ⟨w.heap.size, 0, none⟩), .int .i64 0]) ∧ St w w' w.heap.size (newG s r) :=
  (new_any s r w h1 h2).mono fun e w' hq => ⟨hq.1, _, hq.2.1, (fun k e => Nat.le_of_eq (Eq.symm e)), hq.2.2.1⟩
theorem grp_sync (m gn now : Int) (tv : Value) (tops : List TopC) (round : Bool) (h : Grp w F b g) (hF : ∀ k, F k → w0.heap.size ≤ k) (hk : K0 w0 w) (ok : Ok n g) (hm : -9223372036854775808 ≤ m ∧ m ≤ 9223372036854775807) (ht : Out 2 rTop w (fun k => ¬ F k) tv tops) :
    Calls Try.prog 13 #[.pointer (some ⟨b, 0, none⟩), .int .i64 m, .int .i64 gn, tv, .bool round, .int .i64 now] w fun e w' => ∃ pv, e = .returned (.tuple #[pv, .int .i64 (syncE g m gn tops now)]) ∧ St w0 w' b (syncG g m gn tops round now) ∧ (syncE g m gn tops now = 0 → ∃ a c, pv = .slice a (partsOf (syncG g m gn tops round now) m).length c) ∧ (¬ syncE g m gn tops now = 0 → pv = .slice none 0 0) := by
  refine (sync_any w F b g m gn now tv tops round h ok.wf ok.bnd hm ht).mono fun e w' hq => ?_
  obtain ⟨pv, F', h1, h2, h3, h4, h5, h6⟩ := hq
  exact ⟨pv, h1, St.step hF hk ⟨F', h2, h3, h4⟩, fun e => by obtain ⟨a, c, e1, _⟩ := h5 e; exact ⟨a, c, e1⟩, h6⟩
theorem st_sync (m gn now : Int) (tv : Value) (tops : List TopC) (round : Bool) (h : St w0 w b g) (ok : Ok n g) (hm : -9223372036854775808 ≤ m ∧ m ≤ 9223372036854775807) (ht : Out 2 rTop w0 (fun _ => True) tv tops) :
    Calls Try.prog 13 #[.pointer (some ⟨b, 0, none⟩), .int .i64 m, .int .i64 gn, tv, .bool round, .int .i64 now] w fun e w' => ∃ pv, e = .returned (.tuple #[pv, .int .i64 (syncE g m gn tops now)]) ∧ St w0 w' b (syncG g m gn tops round now) ∧ (syncE g m gn tops now = 0 → ∃ a c, pv = .slice a (partsOf (syncG g m gn tops round now) m).length c) ∧ (¬ syncE g m gn tops now = 0 → pv = .slice none 0 0) := by
  obtain ⟨F, h1, h2, h3⟩ := h
  exact grp_sync m gn now tv tops round h1 h2 h3 ok hm (out_base still_top ht h2 h3)
theorem st_sync1 (m gn now : Int) (s : ByteArray) (p : Int) (round : Bool) (h : St w0 w b g) (ok : Ok n g) (hm : -9223372036854775808 ≤ m ∧ m ≤ 9223372036854775807) (hp : (Lit.int .i64 p).wf = true) :
    Calls Try.prog 13 #[.pointer (some ⟨b, 0, none⟩), .int .i64 m, .int .i64 gn, .slice (some ⟨w.heap.size, 0, none⟩) 1 1, .bool round, .int .i64 now] (w.alloc (.cells #[.string s, .int .i64 p] 59)) fun e w' => ∃ pv, e = .returned (.tuple #[pv, .int .i64 (syncE g m gn [⟨s, p⟩] now)]) ∧ St w0 w' b (syncG g m gn [⟨s, p⟩] round now) ∧ (syncE g m gn [⟨s, p⟩] now = 0 → ∃ a c, pv = .slice a (partsOf (syncG g m gn [⟨s, p⟩] round now) m).length c) ∧ (¬ syncE g m gn [⟨s, p⟩] now = 0 → pv = .slice none 0 0) := by
  obtain ⟨F, h1, h2, h3⟩ := h
  exact grp_sync m gn now _ _ round (h1.keep ((Keeps.refl (fun _ => False) w).alloc _) fun _ _ e => e) h2 (h3.alloc _) ok hm (out_top (heap_new _ _ _ rfl) hp (fun e => Nat.lt_irrefl _ (h1.ltF _ e)))
end
end Go.Proofs.Ytlmajhkhlmkeiaa
