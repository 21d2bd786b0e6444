/-
  A group that a call has made and goes on with: each method, told once more for the laws.
-/
import Derived.Test.YtklhlffdpojkoaaGreatJ12
import Derived.Test.YtklhlffdpojkoaaGreatJ20
import Derived.Test.YtklhlffdpojkoaaGreatJ03
import Derived.Test.YtklhlffdpojkoaaGreatJ07
namespace Go.Proofs.YtklhlffdpojkoaaGreat
open Go.RowKit Go.Shelf Fx

/-- A group at block b, all of it made since w0; nothing else was changed. -/
def St (w0 w : World) (b : Nat) (g : GroupC) : Prop := ∃ F, Grp w F b g ∧ (∀ k, F k → w0.heap.size ≤ k) ∧ K0 w0 w
theorem St.k0 {w0 w : World} {b : Nat} {g : GroupC} (h : St w0 w b g) : K0 w0 w := by obtain ⟨_, _, _, h⟩ := h; exact h
theorem St.keep {w0 w w' : World} {b : Nat} {g : GroupC} (h : St w0 w b g) (hk : K0 w w') : St w0 w' b g := by
  obtain ⟨F, h1, h2, h3⟩ := h
  exact ⟨F, h1.keep hk fun _ _ e => e, h2, K0.tr h3 hk⟩
theorem St.step {w0 w w' : World} {F : Nat → Prop} {b : Nat} {g' : GroupC} (hF : ∀ k, F k → w0.heap.size ≤ k) (hk : K0 w0 w) (h : GrpPost w F b g' w') : St w0 w' b g' := by
  obtain ⟨F', h1, h2, h3⟩ := h
  exact ⟨F', h1, fun k e => (h2 k e).elim (hF k) fun e => Nat.le_trans hk.size e, hk.trans h3 fun k hk' e => by have := hF k e; omega⟩
theorem Grp.ltF {w : World} {F : Nat → Prop} {b : Nat} {g : GroupC} (h : Grp w F b g) : ∀ k, F k → k < w.heap.size := by obtain ⟨_, _, h⟩ := h; exact h.lt
theorem out_base {α : Type} {n : Nat} {R : Rdr α} (hR : Still R) {w0 w : World} {F : Nat → Prop} {tv : Value} {l : List α} (h : Out n R w0 (fun _ => True) tv l) (hF : ∀ k, F k → w0.heap.size ≤ k) (hk : K0 w0 w) : Out n R w (fun k => ¬ F k) tv l :=
  h.keep hR hk (fun _ _ _ e => e) (fun k hlt _ e => by have := hF k e; omega)
theorem out_str {w : World} {B : Nat} {s : ByteArray} (h : w.heap[B]? = some (.cells #[.string s] 9)) (hs : s.size ≤ maxLen) {G : Nat → Prop} (hG : G B) : Out 1 rStr w G (.slice (some ⟨B, 0, none⟩) 1 1) [s] := by
  refine ⟨_, 1, rfl, ⟨Nat.le_refl _, by unfold maxLen; omega, fun _ => ⟨B, 0, rfl, fun i hi => ?_⟩⟩, fun x e _ => by cases e; exact ⟨block_lt h, hG⟩⟩
  obtain rfl : i = 0 := by simpa using hi
  refine ⟨[.string s], rfl, fun j hj => ?_, rfl, hs⟩
  obtain rfl : j = 0 := by omega
  exact block_cell h 0
theorem out_top {w : World} {B : Nat} {s : ByteArray} {p : Int} (h : w.heap[B]? = some (.cells #[.string s, .int .i64 p] 152)) (hp : (Lit.int .i64 p).wf = true) {G : Nat → Prop} (hG : G B) : Out 2 rTop w G (.slice (some ⟨B, 0, none⟩) 1 1) [⟨s, p⟩] := by
  refine ⟨_, 1, rfl, ⟨Nat.le_refl _, by unfold maxLen; omega, fun _ => ⟨B, 0, rfl, fun i hi => ?_⟩⟩, fun x e _ => by cases e; exact ⟨block_lt h, hG⟩⟩
  obtain rfl : i = 0 := by simpa using hi
  refine ⟨[.string s, .int .i64 p], rfl, fun j hj => ?_, rfl, hp⟩
  match j, hj with
  | 0, _ => exact block_cell h 0
  | 1, _ => exact block_cell h 1
/-- A group with room for n more steps. -/
structure Ok (n : Nat) (g : GroupC) : Prop where
  wf : WfG g
  emp : EmpG g
  bnd : BndG g
  gen : g.gen + n ≤ 1152921504606846976
  next : g.next + n ≤ 1152921504606846976
theorem Ok.new {s r : Int} (h1 : 1 ≤ s ∧ s ≤ 100000) (h2 : 1 ≤ r ∧ r ≤ 100000) : Ok 1000 (newG s r) := ⟨WfG.new h1 h2, EmpG.new s r, BndG.new s r, by show (0 : Int) + 1000 ≤ _; omega, by show (0 : Int) + 1000 ≤ _; omega⟩
theorem Ok.le {n m : Nat} {g : GroupC} (h : Ok n g) (hm : m ≤ n) : Ok m g := ⟨h.wf, h.emp, h.bnd, by have := h.gen; omega, by have := h.next; omega⟩
theorem Ok.join {n : Nat} {g : GroupC} {m now : Int} {topics : List ByteArray} (h : Ok (n + 1) g) (hm : -9223372036854775808 ≤ m ∧ m ≤ 9223372036854775807) (ht : topics.length ≤ 1000) (he : joinE g m topics now = 0) : Ok n (joinG g m topics now) := by
  have h1 := h.gen
  have h2 := h.next
  obtain ⟨a1, a2, a3, a4, a5, a6, _⟩ := join_keeps topics h.wf hm (by omega) (by omega) he
  exact ⟨a1, a2, h.bnd.join m topics now ht, by omega, by omega⟩
theorem Ok.tick {n : Nat} {g : GroupC} (now : Int) (h : Ok (n + 2) g) : Ok n (tickG g now) := by
  have h1 := h.gen
  have h2 := h.next
  obtain ⟨a1, a2, a3, a4, a5, a6, _⟩ := tick_keeps now h.wf h.emp h.bnd (by omega)
  exact ⟨a1, a2, a3, by omega, by omega⟩
theorem Ok.touch {n : Nat} {g : GroupC} (h : Ok n g) (m t : Int) : Ok n (touchG g m t) :=
  ⟨h.wf.touch m t, fun e => h.emp (by simpa [touchG] using e), fun o ho => by
    obtain ⟨x, hx, rfl⟩ := List.mem_map.1 ho
    unfold touchO
    split <;> exact h.bnd x hx, h.gen, h.next⟩
theorem Ok.beat {n : Nat} {g : GroupC} (h : Ok n g) (m gn now : Int) : Ok n (beatG g m gn now) := by
  unfold beatG
  split
  · split
    · exact h.touch _ _
    · exact h
  · exact h
theorem Ok.leave {n : Nat} {g : GroupC} (h : Ok (n + 1) g) (m now : Int) : Ok n (leaveG g m now) := by
  unfold leaveG
  have h1 := h.gen
  have h2 := h.next
  split
  · split
    · have hd := dropG_head g now (fun o => o.member == m)
      exact ⟨h.wf.drop now _ (by omega), h.emp.drop now _, h.bnd.drop now _, by omega, by rw [hd.2.2.1]; omega⟩
    · exact h.le (by omega)
  · exact h.le (by omega)
theorem Ok.share {n : Nat} {g : GroupC} (h : Ok n g) {round : Bool} {subs : List SubC} {tops : List TopC} (hc : chk subs tops = 0) (hne : g.ones.length ≠ 0) : Ok n (shareG g (dealL round subs tops)) := by
  refine ⟨h.wf.share _, fun e => absurd (by simpa [shareG, enterG] using e) hne, fun o ho => ?_, h.gen, h.next⟩
  obtain ⟨i, hi, rfl⟩ := List.mem_iff_getElem.1 ho
  have hi' : i < g.ones.length := by simpa [shareG, enterG] using hi
  have e : (shareG g (dealL round subs tops)).ones[i] = partO (dealL round subs tops) i g.ones[i] := by simp [shareG, enterG]
  rw [e]
  refine ⟨(h.bnd _ (List.getElem_mem hi')).1, ?_⟩
  show ((dealL round subs tops).getD i ⟨0, []⟩).parts.length ≤ 100000
  by_cases hid : i < (dealL round subs tops).length
  · rw [List.getD, List.getElem?_eq_getElem hid]
    have := (deal_len hc).2 i hid
    simp only [Option.getD_some]
    omega
  · rw [List.getD, List.getElem?_eq_none (by omega)]
    exact Nat.zero_le _
theorem known_len {g : GroupC} {m gn : Int} (h : knownE g m gn = 0) : g.ones.length ≠ 0 := by
  unfold knownE at h
  split at h
  · rename_i h1
    exact has_len h1
  · cases h
theorem Ok.sync {n : Nat} {g : GroupC} (h : Ok n g) (m gn : Int) (tops : List TopC) (round : Bool) (now : Int) : Ok n (syncG g m gn tops round now) := by
  have ht : Ok n (syncTouch g m now) := h.touch _ _
  unfold syncG
  split
  · split
    · rename_i hk
      split
      · exact h
      · split
        · split
          · split
            · rename_i hc
              exact ht.share hc (by have := known_len hk; simpa [syncTouch, touchG] using this)
            · exact ht
          · exact ht
        · exact ht
    · exact h
  · exact h
section
variable {n : Nat} {w0 w : World} {b : Nat} {g : GroupC} {F : Nat → Prop}
theorem grp_join (m now : Int) (tv : Value) (topics : List ByteArray) (h : Grp w F b g) (hF : ∀ k, F k → w0.heap.size ≤ k) (hk : K0 w0 w) (ok : Ok (n + 1) g) (hm : -9223372036854775808 ≤ m ∧ m ≤ 9223372036854775807) (ht : Out 1 rStr w (fun k => ¬ F k) tv topics) :
    Calls Tryz.prog 39 #[.pointer (some ⟨b, 0, none⟩), .int .i64 m, tv, .int .i64 now] w fun e w' => e = .returned (.tuple #[.int .i64 (if joinE g m topics now = 0 then nextM g m else 0), .int .i64 (joinE g m topics now)]) ∧ St w0 w' b (if joinE g m topics now = 0 then joinG g m topics now else g) :=
  (join_any w F b g m now tv topics h ok.wf hm (by have := ok.next; omega) ht).mono fun e w' hq => ⟨hq.1, St.step hF hk hq.2⟩
theorem st_join (m now : Int) (tv : Value) (topics : List ByteArray) (h : St w0 w b g) (ok : Ok (n + 1) g) (hm : -9223372036854775808 ≤ m ∧ m ≤ 9223372036854775807) (ht : Out 1 rStr w0 (fun _ => True) tv topics) :
    Calls Tryz.prog 39 #[.pointer (some ⟨b, 0, none⟩), .int .i64 m, tv, .int .i64 now] w fun e w' => e = .returned (.tuple #[.int .i64 (if joinE g m topics now = 0 then nextM g m else 0), .int .i64 (joinE g m topics now)]) ∧ St w0 w' b (if joinE g m topics now = 0 then joinG g m topics now else g) := by
  obtain ⟨F, h1, h2, h3⟩ := h
  exact grp_join m now tv topics h1 h2 h3 ok hm (out_base still_str ht h2 h3)
/-- With one topic that was just laid. -/
theorem st_join1 (m now : Int) (s : ByteArray) (h : St w0 w b g) (ok : Ok (n + 1) g) (hm : -9223372036854775808 ≤ m ∧ m ≤ 9223372036854775807) (hs : s.size ≤ maxLen) :
    Calls Tryz.prog 39 #[.pointer (some ⟨b, 0, none⟩), .int .i64 m, .slice (some ⟨w.heap.size, 0, none⟩) 1 1, .int .i64 now] (w.alloc (.cells #[.string s] 9)) fun e w' => e = .returned (.tuple #[.int .i64 (if joinE g m [s] now = 0 then nextM g m else 0), .int .i64 (joinE g m [s] now)]) ∧ St w0 w' b (if joinE g m [s] now = 0 then joinG g m [s] now else g) := by
  obtain ⟨F, h1, h2, h3⟩ := h
  exact grp_join m now _ [s] (h1.keep ((Keeps.refl (fun _ => False) w).alloc _) fun _ _ e => e) h2 (h3.alloc _) ok hm (out_str (heap_new _ _ _ rfl) hs (fun e => Nat.lt_irrefl _ (h1.ltF _ e)))
theorem view_field0 (a b c d : Int) (x : Option Addr) (n k : Nat) (w : World) : (Instr.field 57 (.agg #[.int .i64 a, .int .i64 b, .int .i64 c, .int .i64 d, .slice x n k]) 0).run Tryz.prog w = .ok (.int .i64 a) w := by kernel_rfl
theorem view_field1 (a b c d : Int) (x : Option Addr) (n k : Nat) (w : World) : (Instr.field 57 (.agg #[.int .i64 a, .int .i64 b, .int .i64 c, .int .i64 d, .slice x n k]) 1).run Tryz.prog w = .ok (.int .i64 b) w := by kernel_rfl
/-- View's answer, its members' row a slice. -/
def SeenPost (w : World) (g : GroupC) (e : Ending) (w' : World) : Prop :=
  ∃ a c, e = .returned (.agg #[.int .i64 g.phase, .int .i64 g.gen, .int .i64 g.next, .int .i64 g.til, .slice a g.ones.length c]) ∧ ViewAt w' w.heap.size (.slice a g.ones.length c) g.ones ∧ K0 w w'
theorem ViewPost.seen {w w' : World} {g : GroupC} {e : Ending} (h : ViewPost w g e w') : SeenPost w g e w' := by
  obtain ⟨mv, rfl, h1, hk⟩ := h
  have h0 := h1
  obtain ⟨C, e1, h2, _⟩ := h1
  have hl : C.length = g.ones.length := by rw [← e1]; simp
  obtain ⟨a, c, rfl⟩ : ∃ a c, mv = .slice a g.ones.length c := by
    rw [← hl]
    rcases h2.2 with ⟨h3, h4⟩ | ⟨r, cap, cur, h3, _⟩
    · rw [h4]; exact ⟨_, _, h3⟩
    · exact ⟨_, _, h3⟩
  exact ⟨a, c, rfl, h0, hk⟩
theorem st_view (h : St w0 w b g) (ok : Ok n g) : Calls Tryz.prog 40 #[.pointer (some ⟨b, 0, none⟩)] w fun e w' => SeenPost w g e w' ∧ St w0 w' b g := by
  have h0 := h
  obtain ⟨F, h1, h2, h3⟩ := h
  exact (view_any w F b g h1 (by have := ok.wf.len; omega) ok.bnd).mono fun e w' hq => ⟨hq.seen, h0.keep (by obtain ⟨_, _, _, h⟩ := hq; exact h)⟩
theorem st_tick (now : Int) (h : St w0 w b g) (ok : Ok (n + 2) g) : Calls Tryz.prog 45 #[.pointer (some ⟨b, 0, none⟩), .int .i64 now] w fun e w' => e = .returned (.tuple #[]) ∧ St w0 w' b (tickG g now) := by
  obtain ⟨F, h1, h2, h3⟩ := h
  exact (tick_any w F b g now h1 ok.wf ok.emp (by have := ok.gen; omega)).mono fun e w' hq => ⟨hq.1, St.step h2 h3 hq.2⟩
theorem st_beat (m gn now : Int) (h : St w0 w b g) (ok : Ok n g) (hm : -9223372036854775808 ≤ m ∧ m ≤ 9223372036854775807) : Calls Tryz.prog 46 #[.pointer (some ⟨b, 0, none⟩), .int .i64 m, .int .i64 gn, .int .i64 now] w fun e w' => e = .returned (.int .i64 (beatE g m gn now)) ∧ St w0 w' b (beatG g m gn now) := by
  obtain ⟨F, h1, h2, h3⟩ := h
  exact (beat_any w F b g m gn now h1 ok.wf hm).mono fun e w' hq => ⟨hq.1, St.step h2 h3 hq.2⟩
theorem st_leave (m now : Int) (h : St w0 w b g) (ok : Ok (n + 1) g) (hm : -9223372036854775808 ≤ m ∧ m ≤ 9223372036854775807) : Calls Tryz.prog 47 #[.pointer (some ⟨b, 0, none⟩), .int .i64 m, .int .i64 now] w fun e w' => e = .returned (.int .i64 (leaveE g m now)) ∧ St w0 w' b (leaveG g m now) := by
  obtain ⟨F, h1, h2, h3⟩ := h
  exact (leave_any w F b g m now h1 ok.wf hm).mono fun e w' hq => ⟨hq.1, St.step h2 h3 hq.2⟩
theorem st_knows (m gn : Int) (h : St w0 w b g) (ok : Ok n g) (hm : -9223372036854775808 ≤ m ∧ m ≤ 9223372036854775807) : Calls Tryz.prog 48 #[.pointer (some ⟨b, 0, none⟩), .int .i64 m, .int .i64 gn] w fun e w' => e = .returned (.int .i64 (knowsE g m gn)) ∧ St w0 w' b g := by
  have h0 := h
  obtain ⟨F, h1, h2, h3⟩ := h
  exact (knows_any w F b g m gn h1 ok.wf hm).mono fun e w' hq => ⟨hq.1, h0.keep hq.2⟩
theorem st_new {w : World} (s r : Int) (h1 : 1 ≤ s ∧ s ≤ 100000) (h2 : 1 ≤ r ∧ r ≤ 100000) : Calls Tryz.prog 23 #[.int .i64 s, .int .i64 r] w fun e w' => e = .returned (.tuple #[.pointer (some ⟨w.heap.size, 0, none⟩), .int .i64 0]) ∧ St w w' w.heap.size (newG s r) :=
  (new_any s r w h1 h2).mono fun _e _w' hq => ⟨hq.1, _, hq.2.1, (fun _k e => Nat.le_of_eq (Eq.symm e)), hq.2.2.1⟩
theorem grp_sync (m gn now : Int) (tv : Value) (tops : List TopC) (round : Bool) (h : Grp w F b g) (hF : ∀ k, F k → w0.heap.size ≤ k) (hk : K0 w0 w) (ok : Ok n g) (hm : -9223372036854775808 ≤ m ∧ m ≤ 9223372036854775807) (ht : Out 2 rTop w (fun k => ¬ F k) tv tops) :
    Calls Tryz.prog 42 #[.pointer (some ⟨b, 0, none⟩), .int .i64 m, .int .i64 gn, tv, .bool round, .int .i64 now] w fun e w' => ∃ pv, e = .returned (.tuple #[pv, .int .i64 (syncE g m gn tops now)]) ∧ St w0 w' b (syncG g m gn tops round now) ∧ (syncE g m gn tops now = 0 → ∃ a c, pv = .slice a (partsOf (syncG g m gn tops round now) m).length c) ∧ (¬ syncE g m gn tops now = 0 → pv = .slice none 0 0) := by
  refine (sync_any w F b g m gn now tv tops round h ok.wf ok.bnd hm ht).mono fun e w' hq => ?_
  obtain ⟨pv, F', h1, h2, h3, h4, h5, h6⟩ := hq
  exact ⟨pv, h1, St.step hF hk ⟨F', h2, h3, h4⟩, fun e => by obtain ⟨a, c, e1, _⟩ := h5 e; exact ⟨a, c, e1⟩, h6⟩
theorem st_sync (m gn now : Int) (tv : Value) (tops : List TopC) (round : Bool) (h : St w0 w b g) (ok : Ok n g) (hm : -9223372036854775808 ≤ m ∧ m ≤ 9223372036854775807) (ht : Out 2 rTop w0 (fun _ => True) tv tops) :
    Calls Tryz.prog 42 #[.pointer (some ⟨b, 0, none⟩), .int .i64 m, .int .i64 gn, tv, .bool round, .int .i64 now] w fun e w' => ∃ pv, e = .returned (.tuple #[pv, .int .i64 (syncE g m gn tops now)]) ∧ St w0 w' b (syncG g m gn tops round now) ∧ (syncE g m gn tops now = 0 → ∃ a c, pv = .slice a (partsOf (syncG g m gn tops round now) m).length c) ∧ (¬ syncE g m gn tops now = 0 → pv = .slice none 0 0) := by
  obtain ⟨F, h1, h2, h3⟩ := h
  exact grp_sync m gn now tv tops round h1 h2 h3 ok hm (out_base still_top ht h2 h3)
theorem st_sync1 (m gn now : Int) (s : ByteArray) (p : Int) (round : Bool) (h : St w0 w b g) (ok : Ok n g) (hm : -9223372036854775808 ≤ m ∧ m ≤ 9223372036854775807) (hp : (Lit.int .i64 p).wf = true) :
    Calls Tryz.prog 42 #[.pointer (some ⟨b, 0, none⟩), .int .i64 m, .int .i64 gn, .slice (some ⟨w.heap.size, 0, none⟩) 1 1, .bool round, .int .i64 now] (w.alloc (.cells #[.string s, .int .i64 p] 152)) fun e w' => ∃ pv, e = .returned (.tuple #[pv, .int .i64 (syncE g m gn [⟨s, p⟩] now)]) ∧ St w0 w' b (syncG g m gn [⟨s, p⟩] round now) ∧ (syncE g m gn [⟨s, p⟩] now = 0 → ∃ a c, pv = .slice a (partsOf (syncG g m gn [⟨s, p⟩] round now) m).length c) ∧ (¬ syncE g m gn [⟨s, p⟩] now = 0 → pv = .slice none 0 0) := by
  obtain ⟨F, h1, h2, h3⟩ := h
  exact grp_sync m gn now _ _ round (h1.keep ((Keeps.refl (fun _ => False) w).alloc _) fun _ _ e => e) h2 (h3.alloc _) ok hm (out_top (heap_new _ _ _ rfl) hp (fun e => Nat.lt_irrefl _ (h1.ltF _ e)))
end
end Go.Proofs.YtklhlffdpojkoaaGreat

/-
  SameParts at any two lists; a group of the program and one of the reference side by side.
-/
namespace Go.Proofs.YtklhlffdpojkoaaGreat
open Go.RowKit Go.Shelf Fx

set_option maxRecDepth 100000 in
set_option maxHeartbeats 2000000 in
theorem sameParts_any (w : World) (a1 a2 : Option Addr) (c1 c2 : Nat) (l1 l2 : List PartC) (h1 : SlAt 2 rPart w a1 c1 l1) (h2 : SlAt 2 rPart w a2 c2 l2) :
    Calls Tryz.prog 28 #[.slice a1 l1.length c1, .slice a2 l2.length c2] w fun e w' => ∃ x, e = .returned (.bool x) ∧ ∃ n, w' = w.drewN n := by
  have hm := h1.len
  have hm2 := h2.len
  have H1 := Lib.hid h1
  have H2 := Lib.hid h2
  clear h1 h2
  by_cases hll : l1.length = l2.length
  · rw [← hll] at hm2 ⊢
    have HLL := Lib.hid hll
    clear hll
    have hne : ((l1.length : Int) != l1.length) = false := by simp
    go_enter Tryz.func28, Tryz.ntmps28
    go_wp2
    go_loopw [5] (fun i wr => ∃ k : Nat, i = .int .i64 k ∧ k ≤ l1.length ∧ ∃ n, wr = w.drewN n) (fun i _ => l1.length - (intOf i).toNat)
    case atStart => exact ⟨0, rfl, by omega, 0, rfl⟩
    case round =>
      obtain ⟨k, rfl, hk, n, rfl⟩ := hrel
      by_cases hlt : k < l1.length
      · have hlt2 : k < l2.length := by rw [← HLL.out]; exact hlt
        obtain ⟨b1, off1, rfl, r1⟩ := H1.out.row hlt
        obtain ⟨b2, off2, rfl, r2⟩ := H2.out.row hlt2
        obtain ⟨x0, x1, hb1⟩ := part_cells r1 (Below.refl _ _) k hlt
        obtain ⟨y0, y1, hb2⟩ := part_cells r2 (Below.refl _ _) k hlt2
        clear r1 r2
        have i0 : (0 : Int) ≤ k := by omega
        have i1 : (k : Int) < l1.length := by omega
        have q3 := h41c
        generalize l1[k].topic = s1 at x0
        generalize l1[k].index = n1 at x1
        generalize l2[k].topic = s2 at y0
        generalize l2[k].index = n2 at y1
        have q1 := fun w9 : World => neq41 s1 s2 n1 n2 w9
        generalize (!(s1.toList == s2.toList && n1 == n2)) = bv at q1
        have HHLT := Lib.hid hlt
        clear hlt2
        cases bv with
        | false =>
          go_wp2_with fail
          go_quiet (fail)
          go_wp2
          go_roundw
          case rel => exact ⟨k + 1, by go_num, HHLT.out, n + _, rfl⟩
          case measure => have := HHLT.out; simp [intOf]; omega
        | true =>
          go_wp2_with fail
          go_quiet (fail)
          go_wp2
          go_ret
          exact ⟨_, rfl, _, World.drewN_drewN _ _ _⟩
      · clear hk
        go_wp2
        go_ret
        exact ⟨_, rfl, n, rfl⟩
  · have hne : ((l1.length : Int) != l2.length) = true := by simp; omega
    clear hll
    go_enter Tryz.func28, Tryz.ntmps28
    go_wp2
    go_ret
    exact ⟨_, rfl, 0, rfl⟩
theorem same_out {w : World} {G1 G2 : Nat → Prop} {v1 v2 : Value} {l1 l2 : List PartC} (h1 : Out 2 rPart w G1 v1 l1) (h2 : Out 2 rPart w G2 v2 l2) :
    Calls Tryz.prog 28 #[v1, v2] w fun e w' => ∃ x, e = .returned (.bool x) ∧ K0 w w' := by
  obtain ⟨a1, c1, rfl, s1, _⟩ := h1
  obtain ⟨a2, c2, rfl, s2, _⟩ := h2
  refine (sameParts_any w a1 a2 c1 c2 l1 l2 s1 s2).mono fun e w' hq => ?_
  obtain ⟨x, rfl, n, rfl⟩ := hq
  exact ⟨x, rfl, (Keeps.refl _ _).drewN _⟩
/-- A group of the program and one of the reference, apart, made since w0 or out of E; all else is as it was. -/
def Pair (E : Nat → Prop) (w0 w : World) (b1 b2 : Nat) (g1 g2 : GroupC) : Prop :=
  ∃ F1 F2, Grp w F1 b1 g1 ∧ RGrp w F2 b2 g2 ∧ (∀ k, F1 k → ¬ F2 k) ∧ (∀ k, F1 k ∨ F2 k → E k ∨ w0.heap.size ≤ k) ∧ Keeps E w0 w
theorem RGrp.ltF {w : World} {F : Nat → Prop} {b : Nat} {g : GroupC} (h : RGrp w F b g) : ∀ k, F k → k < w.heap.size := by obtain ⟨_, _, h⟩ := h; exact h.lt
section
variable {E : Nat → Prop} {w0 w w' : World} {b1 b2 : Nat} {g1 g2 g' : GroupC} {F1 F2 : Nat → Prop}
theorem Pair.keeps (h : Pair E w0 w b1 b2 g1 g2) : Keeps E w0 w := by obtain ⟨_, _, _, _, _, _, h⟩ := h; exact h
theorem Pair.keep (h : Pair E w0 w b1 b2 g1 g2) (hk : K0 w w') : Pair E w0 w' b1 b2 g1 g2 := by
  obtain ⟨F1, F2, a1, a2, a3, a4, a5⟩ := h
  exact ⟨F1, F2, a1.keep hk fun _ _ e => e, a2.keep hk fun _ _ e => e, a3, a4, a5.trans hk fun _ _ e => e.elim⟩
theorem Pair.left (_h1 : Grp w F1 b1 g1) (h2 : RGrp w F2 b2 g2) (h3 : ∀ k, F1 k → ¬ F2 k) (h4 : ∀ k, F1 k ∨ F2 k → E k ∨ w0.heap.size ≤ k) (h5 : Keeps E w0 w) (hq : GrpPost w F1 b1 g' w') : Pair E w0 w' b1 b2 g' g2 := by
  obtain ⟨F', q1, q2, q3⟩ := hq
  refine ⟨F', F2, q1, h2.keep q3 fun k e e2 => h3 k e2 e, fun k e e2 => ?_, fun k e => ?_, h5.trans q3 fun k hk e => (h4 k (.inl e)).elim id fun e => by omega⟩
  · rcases q2 k e with e3 | e3
    · exact h3 k e3 e2
    · have := h2.ltF k e2; omega
  · rcases e with e | e
    · rcases q2 k e with e | e
      · exact h4 k (.inl e)
      · exact .inr (Nat.le_trans h5.size e)
    · exact h4 k (.inr e)
theorem Pair.right (h1 : Grp w F1 b1 g1) (_h2 : RGrp w F2 b2 g2) (h3 : ∀ k, F1 k → ¬ F2 k) (h4 : ∀ k, F1 k ∨ F2 k → E k ∨ w0.heap.size ≤ k) (h5 : Keeps E w0 w) (hq : RGrpPost w F2 b2 g' w') : Pair E w0 w' b1 b2 g1 g' := by
  obtain ⟨F', q1, q2, q3⟩ := hq
  refine ⟨F1, F', h1.keep q3 fun k e e2 => h3 k e e2, q1, fun k e e2 => ?_, fun k e => ?_, h5.trans q3 fun k hk e => (h4 k (.inr e)).elim id fun e => by omega⟩
  · rcases q2 k e2 with e3 | e3
    · exact h3 k e e3
    · have := h1.ltF k e; omega
  · rcases e with e | e
    · exact h4 k (.inl e)
    · rcases q2 k e with e | e
      · exact h4 k (.inr e)
      · exact .inr (Nat.le_trans h5.size e)
/-- From here on: whatever the two have now may turn. -/
theorem Pair.base (h : Pair E w0 w b1 b2 g1 g2) : ∃ E', (∀ k, E' k → k < w.heap.size) ∧ (∀ k, E' k → E k ∨ w0.heap.size ≤ k) ∧ ∀ w1, K0 w w1 → Pair E' w1 w1 b1 b2 g1 g2 := by
  obtain ⟨F1, F2, a1, a2, a3, a4, a5⟩ := h
  refine ⟨fun k => F1 k ∨ F2 k, fun k e => e.elim (a1.ltF k) (a2.ltF k), a4, fun w1 hk => ⟨F1, F2, a1.keep hk fun _ _ e => e, a2.keep hk fun _ _ e => e, a3, fun k e => .inl e, Keeps.refl _ _⟩⟩
theorem Pair.back {E' : Nat → Prop} {w1 w2 : World} {g3 g4 : GroupC} (h : Keeps E w0 w) (hk : K0 w w1) (hE : ∀ k, E' k → E k ∨ w0.heap.size ≤ k) (h2 : Pair E' w1 w2 b1 b2 g3 g4) : Pair E w0 w2 b1 b2 g3 g4 := by
  obtain ⟨F1, F2, a1, a2, a3, a4, a5⟩ := h2
  have h01 : Keeps E w0 w1 := h.trans hk fun _ _ e => e.elim
  refine ⟨F1, F2, a1, a2, a3, fun k e => (a4 k e).elim (hE k) fun e => .inr (Nat.le_trans h01.size e), h01.trans a5 fun k hk' e => (hE k e).elim id fun e => by omega⟩
end
end Go.Proofs.YtklhlffdpojkoaaGreat

/-
  A coordinator as an object: its own block, the map of its groups, each group by itself, the offsets' table. All of it made since w0.
-/
namespace Go.Proofs.YtklhlffdpojkoaaGreat
open Go.RowKit Go.Shelf Fx

structure CoordC where
  s : Int
  r : Int
  gs : List (ByteArray × GroupC)
  off : OffC
/-- Where all of it lies: the groups' map, the table, the offsets' map, the groups' blocks, what each of them takes. -/
structure CLay where
  gb : Nat
  tb : Nat
  ob : Nat
  L : List (ByteArray × (Nat × GroupC))
  fp : Nat → Nat → Prop
def gptr (p : Nat × GroupC) : Value := .pointer (some ⟨p.1, 0, none⟩)
def gcore (L : List (ByteArray × (Nat × GroupC))) : List (ByteArray × GroupC) := L.map fun p => (p.1, p.2.2)
theorem aget_core (L : List (ByteArray × (Nat × GroupC))) (s : ByteArray) : aget (gcore L) s = (aget L s).map (·.2) := by
  induction L with
  | nil => rfl
  | cons p L ih =>
    obtain ⟨k, x⟩ := p
    simp only [gcore, List.map_cons, aget] at ih ⊢
    by_cases h : k = s
    · simp [h]
    · simp only [h, if_false]; exact ih
theorem aput_core (L : List (ByteArray × (Nat × GroupC))) (s : ByteArray) (x : Nat × GroupC) : aput (gcore L) s x.2 = gcore (aput L s x) := by
  induction L with
  | nil => rfl
  | cons p L ih =>
    obtain ⟨k, u⟩ := p
    simp only [gcore, List.map_cons, aput] at ih ⊢
    by_cases h : k = s
    · simp [h]
    · simp only [h, if_false, List.map_cons]; rw [ih]
theorem aput_ptr {L : List (ByteArray × (Nat × GroupC))} {s : ByteArray} {b : Nat} {g : GroupC} (h : aget L s = some (b, g)) (g' : GroupC) : avals gptr (aput L s (b, g')) = avals gptr L := by
  induction L with
  | nil => simp [aget] at h
  | cons p L ih =>
    obtain ⟨k, u⟩ := p
    simp only [aget] at h
    by_cases hk : k = s
    · rw [if_pos hk] at h
      cases h
      simp [avals, aput, hk, gptr]
    · rw [if_neg hk] at h
      have := ih h
      simp only [avals, aput, if_neg hk, List.map_cons] at this ⊢
      rw [this]
structure CAt (w0 w : World) (cb : Nat) (C : CoordC) (Y : CLay) : Prop where
  k0 : K0 w0 w
  blk : w.heap[cb]? = some (.cells #[.int .i64 C.s, .int .i64 C.r, .map (some Y.gb), .pointer (some ⟨Y.tb, 0, none⟩)] 69 (0, 0))
  core : gcore Y.L = C.gs
  map : MapAt .string w Y.gb (avals gptr Y.L)
  off : OffAt w Y.tb Y.ob C.off
  ne1 : cb ≠ Y.gb
  ne2 : cb ≠ Y.ob
  ne3 : Y.gb ≠ Y.tb
  ne4 : Y.gb ≠ Y.ob
  new : w0.heap.size ≤ cb ∧ w0.heap.size ≤ Y.gb ∧ w0.heap.size ≤ Y.tb ∧ w0.heap.size ≤ Y.ob
  grp : ∀ i (hi : i < Y.L.length), Grp w (Y.fp i) Y.L[i].2.1 Y.L[i].2.2
  fpn : ∀ i k, i < Y.L.length → Y.fp i k → w0.heap.size ≤ k ∧ k ≠ cb ∧ k ≠ Y.gb ∧ k ≠ Y.tb ∧ k ≠ Y.ob
  apart : ∀ i j k, i < Y.L.length → j < Y.L.length → i ≠ j → Y.fp i k → ¬ Y.fp j k
def CSt (w0 w : World) (cb : Nat) (C : CoordC) : Prop := ∃ Y, CAt w0 w cb C Y
section
variable {w0 w w' : World} {cb : Nat} {C : CoordC} {Y : CLay}
theorem CAt.keep (h : CAt w0 w cb C Y) (hk : K0 w w') : CAt w0 w' cb C Y where
  k0 := K0.tr h.k0 hk
  blk := (hk.block cb (block_lt h.blk) (fun e => e)).trans h.blk
  core := h.core
  map := h.map.keep hk (fun e => e)
  off := h.off.keep hk (fun e => e) (fun e => e)
  ne1 := h.ne1
  ne2 := h.ne2
  ne3 := h.ne3
  ne4 := h.ne4
  new := h.new
  grp := fun i hi => (h.grp i hi).keep hk (fun _ _ e => e)
  fpn := h.fpn
  apart := h.apart
/-- Of what it takes nothing has turned. -/
theorem CAt.keepS (h : CAt w0 w cb C Y) {S : Nat → Prop} (hk : Keeps S w w') (hS : ∀ k, S k → w0.heap.size ≤ k ∧ k ≠ cb ∧ k ≠ Y.gb ∧ k ≠ Y.tb ∧ k ≠ Y.ob ∧ ∀ i, i < Y.L.length → ¬ Y.fp i k) : CAt w0 w' cb C Y where
  k0 := h.k0.trans hk (fun k hk e => absurd (hS k e).1 (by omega))
  blk := (hk.block cb (block_lt h.blk) (fun e => (hS _ e).2.1 rfl)).trans h.blk
  core := h.core
  map := h.map.keep hk (fun e => (hS _ e).2.2.1 rfl)
  off := h.off.keep hk (fun e => (hS _ e).2.2.2.1 rfl) (fun e => (hS _ e).2.2.2.2.1 rfl)
  ne1 := h.ne1
  ne2 := h.ne2
  ne3 := h.ne3
  ne4 := h.ne4
  new := h.new
  grp := fun i hi => (h.grp i hi).keep hk (fun k e1 e2 => (hS k e2).2.2.2.2.2 i hi e1)
  fpn := h.fpn
  apart := h.apart
theorem CSt.keep (h : CSt w0 w cb C) (hk : K0 w w') : CSt w0 w' cb C := by
  obtain ⟨Y, h⟩ := h
  exact ⟨Y, h.keep hk⟩
theorem CSt.k0 (h : CSt w0 w cb C) : K0 w0 w := by
  obtain ⟨Y, h⟩ := h
  exact h.k0
/-- Where a name is. -/
theorem CAt.at (h : CAt w0 w cb C Y) {s : ByteArray} {b : Nat} {g : GroupC} (e : aget Y.L s = some (b, g)) : ∃ i, ∃ hi : i < Y.L.length, Y.L[i] = (s, (b, g)) ∧ i = Y.L.findIdx (fun p => p.1 = s) ∧ Grp w (Y.fp i) b g := by
  have hi := findIdx_lt e
  have h2 := get_findIdx e
  rw [List.getElem?_eq_getElem hi] at h2
  have h3 : Y.L[Y.L.findIdx fun p => p.1 = s] = (s, (b, g)) := Option.some.inj h2
  refine ⟨_, hi, h3, rfl, ?_⟩
  have := h.grp _ hi
  rw [h3] at this
  exact this
/-- One group has turned. -/
theorem CAt.turn (h : CAt w0 w cb C Y) {s : ByteArray} {b : Nat} {g g' : GroupC} (e : aget Y.L s = some (b, g)) (hp : GrpPost w (Y.fp (Y.L.findIdx fun p => p.1 = s)) b g' w') :
    ∃ Y', CAt w0 w' cb ⟨C.s, C.r, aput C.gs s g', C.off⟩ Y' ∧ (Y'.gb = Y.gb ∧ Y'.tb = Y.tb ∧ Y'.ob = Y.ob ∧ Y'.L = aput Y.L s (b, g')) ∧ ∀ i k, i < Y'.L.length → Y'.fp i k → (i < Y.L.length ∧ Y.fp i k) ∨ w.heap.size ≤ k := by
  obtain ⟨i, hi, h3, hix, hg⟩ := h.at e
  rw [← hix] at hp
  obtain ⟨F', p1, p2, p3⟩ := hp
  have hlt : ∀ k, Y.fp i k → k < w.heap.size := hg.ltF
  have hS : ∀ k, Y.fp i k → w0.heap.size ≤ k ∧ k ≠ cb ∧ k ≠ Y.gb ∧ k ≠ Y.tb ∧ k ≠ Y.ob := fun k => h.fpn i k hi
  have hcb : cb < w.heap.size := block_lt h.blk
  have hL : aput Y.L s (b, g') = Y.L.modify i fun p => (p.1, (b, g')) := by rw [hix]; exact aput_mod e
  have hlen : (aput Y.L s (b, g')).length = Y.L.length := by rw [hL]; simp
  refine ⟨⟨Y.gb, Y.tb, Y.ob, aput Y.L s (b, g'), fun j => if j = i then F' else Y.fp j⟩, ?_, ⟨rfl, rfl, rfl, rfl⟩, fun j k hj hk => ?_⟩
  rotate_left
  · have hj' : j < Y.L.length := by rw [← hlen]; exact hj
    have hk2 : (if j = i then F' else Y.fp j) k := hk
    by_cases hij : j = i
    · rw [if_pos hij] at hk2
      exact (p2 k hk2).elim (fun e => .inl ⟨hj', by rw [hij]; exact e⟩) .inr
    · rw [if_neg hij] at hk2
      exact .inl ⟨hj', hk2⟩
  refine ⟨h.k0.trans p3 (fun k hk e => absurd (hS k e).1 (by omega)), (p3.block cb hcb (fun e => (hS cb e).2.1 rfl)).trans h.blk, ?_, ?_, ?_, h.ne1, h.ne2, h.ne3, h.ne4, h.new, ?_, ?_, ?_⟩
  · show gcore (aput Y.L s (b, g')) = aput C.gs s g'
    rw [← aput_core, h.core]
  · show MapAt .string w' Y.gb (avals gptr (aput Y.L s (b, g')))
    rw [aput_ptr e]
    exact h.map.keep p3 (fun e => (hS _ e).2.2.1 rfl)
  · exact h.off.keep p3 (fun e => (hS _ e).2.2.2.1 rfl) (fun e => (hS _ e).2.2.2.2 rfl)
  · intro j hj
    have hj' : j < Y.L.length := by rw [← hlen]; exact hj
    show Grp w' (if j = i then F' else Y.fp j) (aput Y.L s (b, g'))[j].2.1 (aput Y.L s (b, g'))[j].2.2
    by_cases hij : j = i
    · subst hij
      rw [if_pos rfl]
      have : (aput Y.L s (b, g'))[j] = (s, (b, g')) := by
        simp only [hL, List.getElem_modify_eq]
        rw [h3]
      rw [this]
      exact p1
    · rw [if_neg hij]
      have : (aput Y.L s (b, g'))[j] = Y.L[j] := by
        simp only [hL]
        simp [Ne.symm hij]
      rw [this]
      exact (h.grp j hj').keep p3 (fun k e1 e2 => h.apart j i k hj' hi hij e1 e2)
  · intro j k hj hk
    have hj' : j < Y.L.length := by rw [← hlen]; exact hj
    have hk : (if j = i then F' else Y.fp j) k := hk
    by_cases hij : j = i
    · rw [if_pos hij] at hk
      rcases p2 k hk with e1 | e1
      · exact hS k e1
      · have h5 := h.k0.size
        have h6 := h.map.lt
        have h7 := block_lt h.off.blk
        have h8 := h.off.map.lt
        exact ⟨by omega, by omega, by show k ≠ Y.gb; omega, by show k ≠ Y.tb; omega, by show k ≠ Y.ob; omega⟩
    · rw [if_neg hij] at hk
      exact h.fpn j k hj' hk
  · intro j l k hj hl hjl e1 e2
    have hj' : j < Y.L.length := by rw [← hlen]; exact hj
    have hl' : l < Y.L.length := by rw [← hlen]; exact hl
    have e1 : (if j = i then F' else Y.fp j) k := e1
    have e2 : (if l = i then F' else Y.fp l) k := e2
    by_cases hij : j = i
    · rw [if_pos hij] at e1
      rw [if_neg (by omega)] at e2
      have hkl := (h.grp l hl').ltF k e2
      exact h.apart i l k hi hl' (by omega) ((p2 k e1).resolve_right (by omega)) e2
    · rw [if_neg hij] at e1
      by_cases hil : l = i
      · rw [if_pos hil] at e2
        have hkl := (h.grp j hj').ltF k e1
        exact h.apart i j k hi hj' (by omega) ((p2 k e2).resolve_right (by omega)) e1
      · rw [if_neg hil] at e2
        exact h.apart j l k hj' hl' hjl e1 e2
/-- One group more: made since, and put into the map. -/
theorem CAt.more (h : CAt w0 w cb C Y) {w1 : World} {s : ByteArray} {b : Nat} {g' : GroupC} {F : Nat → Prop} (e : aget Y.L s = none) (hk : K0 w w1) (hg : Grp w1 F b g') (hF : ∀ k, F k → w.heap.size ≤ k)
    {o : Obj} (hm : MapAt .string (setObjAt w1 Y.gb o) Y.gb (aput (avals gptr Y.L) s (gptr (b, g')))) :
    ∃ Y', CAt w0 (setObjAt w1 Y.gb o) cb ⟨C.s, C.r, aput C.gs s g', C.off⟩ Y' ∧ (Y'.gb = Y.gb ∧ Y'.tb = Y.tb ∧ Y'.ob = Y.ob ∧ Y'.L = aput Y.L s (b, g')) ∧ ∀ i k, i < Y'.L.length → Y'.fp i k → (i < Y.L.length ∧ Y.fp i k) ∨ w.heap.size ≤ k := by
  have hcb : cb < w.heap.size := block_lt h.blk
  have h5 := h.k0.size
  have h6 := h.map.lt
  have h7 := block_lt h.off.blk
  have h8 := h.off.map.lt
  have hp : Keeps (fun k => k = Y.gb) w (setObjAt w1 Y.gb o) := Keeps.setObj (S := fun k => k = Y.gb) (hk.mono (fun _ _ e => absurd e id)) (fun _ => rfl) _
  have hp1 : Keeps (fun k => k = Y.gb) w1 (setObjAt w1 Y.gb o) := Keeps.setObj (S := fun k => k = Y.gb) (Keeps.refl _ _) (fun _ => rfl) _
  have hL : aput Y.L s (b, g') = Y.L ++ [(s, (b, g'))] := aput_new e
  have hF1 : ∀ k, F k → ¬ k = Y.gb := fun k e1 e2 => by have := hF k e1; omega
  have hlen : (aput Y.L s (b, g')).length = Y.L.length + 1 := by rw [hL]; simp
  refine ⟨⟨Y.gb, Y.tb, Y.ob, aput Y.L s (b, g'), fun j => if j = Y.L.length then F else Y.fp j⟩, ?_, ⟨rfl, rfl, rfl, rfl⟩, fun j k hj hk => ?_⟩
  rotate_left
  · have hj : j < Y.L.length + 1 := by rw [← hlen]; exact hj
    have hk : (if j = Y.L.length then F else Y.fp j) k := hk
    by_cases hij : j = Y.L.length
    · rw [if_pos hij] at hk
      exact .inr (hF k hk)
    · rw [if_neg hij] at hk
      exact .inl ⟨by omega, hk⟩
  refine ⟨h.k0.trans hp (fun k hk e => by have := h.new.2.1; omega), (hp.block cb hcb h.ne1).trans h.blk, ?_, ?_, h.off.keep hp (fun e => h.ne3 e.symm) (fun e => h.ne4 e.symm), h.ne1, h.ne2, h.ne3, h.ne4, h.new, ?_, ?_, ?_⟩
  · show gcore (aput Y.L s (b, g')) = aput C.gs s g'
    rw [← aput_core, h.core]
  · show MapAt .string _ Y.gb (avals gptr (aput Y.L s (b, g')))
    rw [← aput_avals]
    exact hm
  · intro j hj
    show Grp _ (if j = Y.L.length then F else Y.fp j) (aput Y.L s (b, g'))[j].2.1 (aput Y.L s (b, g'))[j].2.2
    have hj : j < Y.L.length + 1 := by rw [← hlen]; exact hj
    by_cases hij : j = Y.L.length
    · subst hij
      rw [if_pos rfl]
      have : (aput Y.L s (b, g'))[Y.L.length]'(by omega) = (s, (b, g')) := by simp [hL]
      rw [this]
      exact hg.keep hp1 hF1
    · rw [if_neg hij]
      have hj' : j < Y.L.length := by omega
      have : (aput Y.L s (b, g'))[j]'(by omega) = Y.L[j] := by
        simp only [hL]
        rw [List.getElem_append_left hj']
      rw [this]
      exact (h.grp j hj').keep hp (fun k e1 e2 => (h.fpn j k hj' e1).2.2.1 e2)
  · intro j k hj hk
    have hj : j < Y.L.length + 1 := by rw [← hlen]; exact hj
    have hk : (if j = Y.L.length then F else Y.fp j) k := hk
    by_cases hij : j = Y.L.length
    · rw [if_pos hij] at hk
      have := hF k hk
      exact ⟨by omega, by omega, by show k ≠ Y.gb; omega, by show k ≠ Y.tb; omega, by show k ≠ Y.ob; omega⟩
    · rw [if_neg hij] at hk
      exact h.fpn j k (by omega) hk
  · intro j l k hj hl hjl e1 e2
    have hj : j < Y.L.length + 1 := by rw [← hlen]; exact hj
    have hl : l < Y.L.length + 1 := by rw [← hlen]; exact hl
    have e1 : (if j = Y.L.length then F else Y.fp j) k := e1
    have e2 : (if l = Y.L.length then F else Y.fp l) k := e2
    by_cases hij : j = Y.L.length
    · rw [if_pos hij] at e1
      rw [if_neg (by omega)] at e2
      have := (h.grp l (by omega)).ltF k e2
      have := hF k e1
      omega
    · rw [if_neg hij] at e1
      by_cases hil : l = Y.L.length
      · rw [if_pos hil] at e2
        have := (h.grp j (by omega)).ltF k e1
        have := hF k e2
        omega
      · rw [if_neg hil] at e2
        exact h.apart j l k (by omega) (by omega) hjl e1 e2
/-- The map's block has been laid anew with the same in it. -/
theorem CAt.reput (h : CAt w0 w cb C Y) {o : Obj} (hm : MapAt .string (setObjAt w Y.gb o) Y.gb (avals gptr Y.L)) : CAt w0 (setObjAt w Y.gb o) cb C Y := by
  have hp : Keeps (fun k => k = Y.gb) w (setObjAt w Y.gb o) := Keeps.setObj (S := fun k => k = Y.gb) (Keeps.refl _ _) (fun _ => rfl) _
  exact ⟨h.k0.trans hp (fun k hk e => by have := h.new.2.1; omega), (hp.block cb (block_lt h.blk) h.ne1).trans h.blk, h.core, hm, h.off.keep hp (fun e => h.ne3 e.symm) (fun e => h.ne4 e.symm), h.ne1, h.ne2, h.ne3, h.ne4, h.new,
    fun i hi => (h.grp i hi).keep hp (fun k e1 e2 => (h.fpn i k hi e1).2.2.1 e2), h.fpn, h.apart⟩
/-- The offsets' table has turned. -/
theorem CAt.offs (h : CAt w0 w cb C Y) {off' : OffC} (ho : OffAt w' Y.tb Y.ob off') (hp : Keeps (fun k => k = Y.ob) w w') : CAt w0 w' cb ⟨C.s, C.r, C.gs, off'⟩ Y :=
  ⟨h.k0.trans hp (fun k hk e => by have := h.new.2.2.2; omega), (hp.block cb (block_lt h.blk) h.ne2).trans h.blk, h.core, h.map.keep hp h.ne4, ho, h.ne1, h.ne2, h.ne3, h.ne4, h.new,
    fun i hi => (h.grp i hi).keep hp (fun k e1 e2 => (h.fpn i k hi e1).2.2.2.2 e2), h.fpn, h.apart⟩
end
end Go.Proofs.YtklhlffdpojkoaaGreat

/-
  The document's coordinator: an object in memory; Find.
-/
namespace Go.Proofs.YtklhlffdpojkoaaGreat
open Go.RowKit Go.Shelf Fx

abbrev NameP := ByteArray × (Nat × GroupC)
def encN (p : NameP) : List Value := [.string p.1, .pointer (some ⟨p.2.1, 0, none⟩)]
theorem encN_len (p : NameP) : (encN p).length = 2 := rfl
theorem encN_one (p : NameP) : ∀ u ∈ encN p, u.oneCell' = true := fun u hu => by
  simp only [encN, List.mem_cons, List.not_mem_nil, or_false] at hu
  rcases hu with rfl | rfl <;> rfl
/-- Where all of it lies: the table of offsets, the groups' blocks, what the table and each of the groups takes. -/
structure RLay where
  tb : Nat
  L : List NameP
  ft : Nat → Prop
  fp : Nat → Nat → Prop
structure RCAt (w : World) (F : Nat → Prop) (cb : Nat) (C : CoordC) (Y : RLay) (v : Value) : Prop where
  blk : w.heap[cb]? = some (.cells #[.int .i64 C.s, .int .i64 C.r, v, .pointer (some ⟨Y.tb, 0, none⟩)] 76 (0, 0))
  row : w.ownsRow 0 88 2 v Y.L.length (Y.L.flatMap encN)
  core : gcore Y.L = C.gs
  tab : ROst w Y.ft Y.tb C.off
  grp : ∀ i (hi : i < Y.L.length), RGrp w (Y.fp i) Y.L[i].2.1 Y.L[i].2.2
  fcb : F cb
  lt : ∀ k, F k → k < w.heap.size
  own : ∀ k, v.ownBlock = some k → F k ∧ k ≠ cb ∧ ¬ Y.ft k ∧ ∀ i, i < Y.L.length → ¬ Y.fp i k
  ftn : ∀ k, Y.ft k → F k ∧ k ≠ cb ∧ ∀ i, i < Y.L.length → ¬ Y.fp i k
  fpn : ∀ i k, i < Y.L.length → Y.fp i k → F k ∧ k ≠ cb
  apart : ∀ i j k, i < Y.L.length → j < Y.L.length → i ≠ j → Y.fp i k → ¬ Y.fp j k
def RCst (w : World) (F : Nat → Prop) (cb : Nat) (C : CoordC) : Prop := ∃ Y v, RCAt w F cb C Y v
def RCpost (w : World) (F : Nat → Prop) (cb : Nat) (C' : CoordC) (w' : World) : Prop := ∃ F', RCst w' F' cb C' ∧ (∀ k, F' k → F k ∨ w.heap.size ≤ k) ∧ Keeps F w w'
section
variable {w w' : World} {F S : Nat → Prop} {cb : Nat} {C : CoordC} {Y : RLay} {v : Value}
theorem RCAt.keep (h : RCAt w F cb C Y v) (hk : Keeps S w w') (hS : ∀ k, F k → ¬ S k) : RCAt w' F cb C Y v where
  blk := (hk.block cb (block_lt h.blk) (hS cb h.fcb)).trans h.blk
  row := y_row_keep hk h.row (fun k e => hS k (h.own k e).1)
  core := h.core
  tab := h.tab.keep hk (fun k e => hS k (h.ftn k e).1)
  grp := fun i hi => (h.grp i hi).keep hk (fun k e => hS k (h.fpn i k hi e).1)
  fcb := h.fcb
  lt := fun k e => Nat.lt_of_lt_of_le (h.lt k e) hk.size
  own := h.own
  ftn := h.ftn
  fpn := h.fpn
  apart := h.apart
theorem RCst.keep (h : RCst w F cb C) (hk : Keeps S w w') (hS : ∀ k, F k → ¬ S k) : RCst w' F cb C := by
  obtain ⟨Y, v, h⟩ := h
  exact ⟨Y, v, h.keep hk hS⟩
theorem RCpost.same (h : RCst w F cb C) (hk : K0 w w') : RCpost w F cb C w' := ⟨F, h.keep hk (fun _ _ e => e), fun _k e => .inl e, hk.mono fun _ _ e => e.elim⟩
theorem RCAt.cell (h : RCAt w F cb C Y v) {r cap : Nat} (hv : v = .slice (some ⟨r, 0, none⟩) Y.L.length cap) (i : Nat) (hi : i < Y.L.length) :
    w.cell? ⟨r, i * 2, none⟩ = some (.string Y.L[i].1) ∧ w.cell? ⟨r, i * 2 + 1, none⟩ = some (.pointer (some ⟨Y.L[i].2.1, 0, none⟩)) := by
  subst hv
  have hc : ∀ j, j < 2 → w.cell? ⟨r, i * 2 + j, none⟩ = (encN Y.L[i])[j]? := fun j hj => by
    rw [h.row.cellAt (i * 2 + j) (by omega)]
    exact flatMap_get encN 2 encN_len Y.L i j hi hj
  exact ⟨hc 0 (by omega), hc 1 (by omega)⟩
theorem RCAt.form (h : RCAt w F cb C Y v) : (Y.L = [] ∧ v = .slice none 0 0) ∨ ∃ r cap, v = .slice (some ⟨r, 0, none⟩) Y.L.length cap ∧ r ≠ cb ∧ r < w.heap.size ∧ Y.L.length ≤ cap ∧ F r ∧ cap ≤ 9223372036854775807 := by
  rcases h.row.2 with ⟨h1, h2⟩ | ⟨r, cap, cur, h1, _, hg, hc, hm, _⟩
  · exact .inl ⟨List.eq_nil_of_length_eq_zero h2, h1⟩
  · have h3 := h.own r (by rw [h1]; rfl)
    exact .inr ⟨r, cap, h1, h3.2.1, block_lt hg, hc, h3.1, by unfold maxLen at hm; omega⟩
end
theorem aget_first {α : Type} {L : List (ByteArray × α)} {s : ByteArray} : ∀ {k : Nat} (hk : k < L.length), (∀ j (hj : j < L.length), j < k → L[j].1 ≠ s) → L[k].1 = s → aget L s = some L[k].2 := by
  induction L with
  | nil => intro k hk; exact absurd hk (Nat.not_lt_zero _)
  | cons p L ih =>
    intro k hk hn he
    obtain ⟨q, x⟩ := p
    cases k with
    | zero =>
      have he : q = s := he
      simp only [aget, if_pos he, List.getElem_cons_zero]
    | succ k =>
      have h0 : q ≠ s := hn 0 (Nat.succ_pos _) (Nat.succ_pos _)
      simp only [aget, if_neg h0]
      exact ih (by simpa using hk) (fun j hj hjk => hn (j + 1) (by simpa using hj) (by omega)) he
theorem aget_nowhere {α : Type} {L : List (ByteArray × α)} {s : ByteArray} (h : ∀ i (hi : i < L.length), L[i].1 ≠ s) : aget L s = none := by
  refine aget_out fun hm => ?_
  obtain ⟨p, hp, e⟩ := List.mem_map.1 hm
  obtain ⟨i, hi, rfl⟩ := List.mem_iff_getElem.1 hp
  exact h i hi e
def ptrOf (o : Option (Nat × GroupC)) : Value := match o with
  | some p => .pointer (some ⟨p.1, 0, none⟩)
  | none => .pointer none
set_option maxRecDepth 100000 in
set_option maxHeartbeats 4000000 in
theorem rcfind_any {w : World} {F : Nat → Prop} {cb : Nat} {C : CoordC} {Y : RLay} {v : Value} (s : ByteArray) (h : RCAt w F cb C Y v) :
    Calls Tryz.prog 25 #[.pointer (some ⟨cb, 0, none⟩), .string s] w fun e w' => e = .returned (ptrOf (aget Y.L s)) ∧ K0 w w' := by
  have hb := block_lt h.blk
  have hx : w.cell? ⟨cb, 2, none⟩ = some v := block_cell h.blk 2
  have HH := Lib.hid h
  rcases h.form with ⟨hnil, rfl⟩ | ⟨r, cap, rfl, hrb, hrl, hcap, hFr, hcm⟩
  · have HN : Hid (aget Y.L s = none) := by show _ = _; rw [hnil]; rfl
    rw [HN.out]
    clear h hnil
    go_enter Tryz.func25, Tryz.ntmps25
    go_wp2
    refine wp_loop_once ?_
    go_wp2
    go_ret
    exact ⟨rfl, Keeps.refl _ _⟩
  · clear h
    go_enter Tryz.func25, Tryz.ntmps25
    go_wp2
    go_loopw [5] (fun i wr => ∃ k : Nat, i = .int .i64 k ∧ k ≤ Y.L.length ∧ (∀ j (hj : j < Y.L.length), j < k → Y.L[j].1 ≠ s) ∧ K0 w wr) (fun i _ => Y.L.length - (intOf i).toNat)
    case atStart => exact ⟨0, rfl, by omega, fun _ _ h => absurd h (Nat.not_lt_zero _), Keeps.refl _ _⟩
    case round =>
      obtain ⟨k, rfl, hk, hq, hkr⟩ := hrel
      have HQ := Lib.hid hq
      have HKR := Lib.hid hkr
      have h1 := HH.out.keep hkr (fun _ _ e => e)
      have x1 : wr.cell? ⟨cb, 2, none⟩ = some (.slice (some ⟨r, 0, none⟩) Y.L.length cap) := block_cell h1.blk 2
      have xb := block_lt h1.blk
      have i0 : (0 : Int) ≤ k := by omega
      clear hq
      by_cases hlt : k < Y.L.length
      · obtain ⟨c0, c1⟩ := h1.cell rfl k hlt
        have i1 : (k : Int) < Y.L.length := by omega
        have HLT := Lib.hid hlt
        clear h1 hkr
        by_cases e0 : Y.L[k].1 = s
        · have e0' : (Y.L[k].1.toList == s.toList) = true := by rw [e0]; exact beq_self_eq_true _
          have HG : Hid (aget Y.L s = some Y.L[k].2) := aget_first hlt HQ.out e0
          generalize Y.L[k].2 = y at *
          obtain ⟨yb, yg⟩ := y
          generalize Y.L[k].1 = xg at *
          clear e0
          go_wp2
          go_ret
          exact ⟨by rw [HG.out]; rfl, HKR.out⟩
        · have e0' : (Y.L[k].1.toList == s.toList) = false := str_ne e0
          have HE := Lib.hid e0
          generalize hxg : Y.L[k].1 = xg at c0 e0'
          clear e0 hxg
          go_wp2
          go_roundw
          case rel => exact ⟨k + 1, by go_num, HLT.out, fun j hj h2 => (Nat.lt_succ_iff_lt_or_eq.1 h2).elim (HQ.out j hj) fun e => by subst e; exact HE.out, HKR.out⟩
          case measure => have := HLT.out; simp [intOf]; omega
      · have HN : Hid (aget Y.L s = none) := aget_nowhere (fun i hi => HQ.out i hi (by omega))
        have i1 : ¬ (k : Int) < Y.L.length := by omega
        clear h1 hkr
        go_wp2
        go_ret
        exact ⟨by rw [HN.out]; rfl, HKR.out⟩
end Go.Proofs.YtklhlffdpojkoaaGreat

/-
  The document's coordinator: one group turned, the offsets turned; Beat and Leave.
-/
namespace Go.Proofs.YtklhlffdpojkoaaGreat
open Go.RowKit Go.Shelf Fx

theorem aput_encN {L : List NameP} {s : ByteArray} {b : Nat} {g : GroupC} (h : aget L s = some (b, g)) (g' : GroupC) : (aput L s (b, g')).flatMap encN = L.flatMap encN := by
  induction L with
  | nil => simp [aget] at h
  | cons p L ih =>
    obtain ⟨k, u⟩ := p
    simp only [aget] at h
    by_cases hk : k = s
    · rw [if_pos hk] at h
      cases h
      simp [aput, hk, encN]
    · rw [if_neg hk] at h
      have := ih h
      simp only [aput, if_neg hk, List.flatMap_cons, this]
section
variable {w w' : World} {F : Nat → Prop} {cb : Nat} {C : CoordC} {Y : RLay} {v : Value}
theorem RCAt.at (h : RCAt w F cb C Y v) {s : ByteArray} {b : Nat} {g : GroupC} (e : aget Y.L s = some (b, g)) : ∃ i, ∃ hi : i < Y.L.length, Y.L[i] = (s, (b, g)) ∧ i = Y.L.findIdx (fun p => p.1 = s) ∧ RGrp w (Y.fp i) b g := by
  have hi := findIdx_lt e
  have h2 := get_findIdx e
  rw [List.getElem?_eq_getElem hi] at h2
  have h3 : Y.L[Y.L.findIdx fun p => p.1 = s] = (s, (b, g)) := Option.some.inj h2
  refine ⟨_, hi, h3, rfl, ?_⟩
  have := h.grp _ hi
  rw [h3] at this
  exact this
/-- One group has turned. -/
theorem RCAt.turn (h : RCAt w F cb C Y v) {s : ByteArray} {b : Nat} {g g' : GroupC} (e : aget Y.L s = some (b, g)) (hp : RGrpPost w (Y.fp (Y.L.findIdx fun p => p.1 = s)) b g' w') :
    RCpost w F cb ⟨C.s, C.r, aput C.gs s g', C.off⟩ w' := by
  obtain ⟨i, hi, h3, hix, hg⟩ := h.at e
  rw [← hix] at hp
  obtain ⟨F', p1, p2, p3⟩ := hp
  have hlt : ∀ k, Y.fp i k → k < w.heap.size := fun k e => h.lt k (h.fpn i k hi e).1
  have hcb : cb < w.heap.size := block_lt h.blk
  have hL : aput Y.L s (b, g') = Y.L.modify i fun p => (p.1, (b, g')) := by rw [hix]; exact aput_mod e
  have hlen : (aput Y.L s (b, g')).length = Y.L.length := by rw [hL]; simp
  have hF'lt : ∀ k, F' k → k < w'.heap.size := fun k e => by obtain ⟨_, _, q⟩ := p1; exact q.lt k e
  refine ⟨fun k => F k ∨ (w.heap.size ≤ k ∧ k < w'.heap.size), ⟨⟨Y.tb, aput Y.L s (b, g'), Y.ft, fun j => if j = i then F' else Y.fp j⟩, v, ?_⟩, fun k e => e.imp id (fun e => e.1), p3.mono (fun k _ e => (h.fpn i k hi e).1)⟩
  have hold : ∀ j k, j < Y.L.length → (if j = i then F' else Y.fp j) k → Y.fp j k ∨ (w.heap.size ≤ k ∧ k < w'.heap.size) := fun j k hj hk => by
    by_cases hij : j = i
    · rw [if_pos hij] at hk
      rw [hij]
      exact (p2 k hk).imp id (fun e => ⟨e, hF'lt k hk⟩)
    · rw [if_neg hij] at hk
      exact .inl hk
  refine ⟨(p3.block cb hcb (fun e => (h.fpn i cb hi e).2 rfl)).trans h.blk, ?_, ?_, h.tab.keep p3 (fun k e1 e2 => (h.ftn k e1).2.2 i hi e2), ?_, .inl h.fcb, ?_, ?_, ?_, ?_, ?_⟩
  · show w'.ownsRow 0 _ 2 v (aput Y.L s (b, g')).length ((aput Y.L s (b, g')).flatMap encN)
    rw [hlen, aput_encN e]
    exact y_row_keep p3 h.row (fun k e1 e2 => (h.own k e1).2.2.2 i hi e2)
  · show gcore (aput Y.L s (b, g')) = aput C.gs s g'
    rw [← aput_core, h.core]
  · intro j hj
    have hj' : j < Y.L.length := by rw [← hlen]; exact hj
    show RGrp w' (if j = i then F' else Y.fp j) (aput Y.L s (b, g'))[j].2.1 (aput Y.L s (b, g'))[j].2.2
    by_cases hij : j = i
    · subst hij
      rw [if_pos rfl]
      have : (aput Y.L s (b, g'))[j] = (s, (b, g')) := by
        simp only [hL, List.getElem_modify_eq]
        rw [h3]
      rw [this]
      exact p1
    · rw [if_neg hij]
      have : (aput Y.L s (b, g'))[j] = Y.L[j] := by
        simp only [hL]
        simp [Ne.symm hij]
      rw [this]
      exact (h.grp j hj').keep p3 (fun k e1 e2 => h.apart j i k hj' hi hij e1 e2)
  · intro k e1
    exact e1.elim (fun e1 => Nat.lt_of_lt_of_le (h.lt k e1) p3.size) (fun e1 => e1.2)
  · intro k e1
    obtain ⟨q1, q2, q3, q4⟩ := h.own k e1
    refine ⟨.inl q1, q2, q3, fun j hj e2 => ?_⟩
    have hj' : j < Y.L.length := by rw [← hlen]; exact hj
    rcases hold j k hj' e2 with e3 | e3
    · exact q4 j hj' e3
    · have := h.lt k q1; omega
  · intro k e1
    obtain ⟨q1, q2, q3⟩ := h.ftn k e1
    refine ⟨.inl q1, q2, fun j hj e2 => ?_⟩
    have hj' : j < Y.L.length := by rw [← hlen]; exact hj
    rcases hold j k hj' e2 with e3 | e3
    · exact q3 j hj' e3
    · have := h.lt k q1; omega
  · intro j k hj e1
    have hj' : j < Y.L.length := by rw [← hlen]; exact hj
    rcases hold j k hj' e1 with e3 | e3
    · exact ⟨.inl (h.fpn j k hj' e3).1, (h.fpn j k hj' e3).2⟩
    · exact ⟨.inr e3, by omega⟩
  · intro j l k hj hl hjl e1 e2
    have hj' : j < Y.L.length := by rw [← hlen]; exact hj
    have hl' : l < Y.L.length := by rw [← hlen]; exact hl
    have f1 : (if j = i then F' else Y.fp j) k := e1
    have f2 : (if l = i then F' else Y.fp l) k := e2
    by_cases hij : j = i
    · have hil : ¬ l = i := fun e => hjl (hij.trans e.symm)
      rw [if_neg hil] at f2
      rcases hold j k hj' e1 with e3 | e3
      · exact h.apart j l k hj' hl' hjl e3 f2
      · have := h.lt k (h.fpn l k hl' f2).1; omega
    · rw [if_neg hij] at f1
      rcases hold l k hl' e2 with e3 | e3
      · exact h.apart j l k hj' hl' hjl f1 e3
      · have := h.lt k (h.fpn j k hj' f1).1; omega
/-- The offsets have turned. -/
theorem RCAt.offs (h : RCAt w F cb C Y v) {R' : OffC} (hp : ROpost w Y.ft Y.tb R' w') : RCpost w F cb ⟨C.s, C.r, C.gs, R'⟩ w' := by
  obtain ⟨F', p1, p2, p3⟩ := hp
  have hcb : cb < w.heap.size := block_lt h.blk
  have hF'lt : ∀ k, F' k → k < w'.heap.size := p1.lt
  refine ⟨fun k => F k ∨ (w.heap.size ≤ k ∧ k < w'.heap.size), ⟨⟨Y.tb, Y.L, F', Y.fp⟩, v, ?_⟩, fun k e => e.imp id (fun e => e.1), p3.mono (fun k _ e => (h.ftn k e).1)⟩
  refine ⟨(p3.block cb hcb (fun e => (h.ftn cb e).2.1 rfl)).trans h.blk, y_row_keep p3 h.row (fun k e1 e2 => (h.own k e1).2.2.1 e2), h.core, p1, fun i hi => (h.grp i hi).keep p3 (fun k e1 e2 => (h.ftn k e2).2.2 i hi e1), .inl h.fcb, ?_, ?_, ?_, fun i k hi e => ⟨.inl (h.fpn i k hi e).1, (h.fpn i k hi e).2⟩, h.apart⟩
  · intro k e1
    exact e1.elim (fun e1 => Nat.lt_of_lt_of_le (h.lt k e1) p3.size) (fun e1 => e1.2)
  · intro k e1
    obtain ⟨q1, q2, q3, q4⟩ := h.own k e1
    refine ⟨.inl q1, q2, fun e2 => ?_, q4⟩
    rcases p2 k e2 with e3 | e3
    · exact q3 e3
    · have := h.lt k q1; omega
  · intro k e1
    rcases p2 k e1 with e3 | e3
    · exact ⟨.inl (h.ftn k e3).1, (h.ftn k e3).2⟩
    · exact ⟨.inr ⟨e3, hF'lt k e1⟩, by omega, fun i hi e2 => by have := h.lt k (h.fpn i k hi e2).1; omega⟩
theorem RCpost.trans {w1 w2 : World} {C' : CoordC} (hk : K0 w w1) (_hlt : ∀ k, F k → k < w.heap.size) (h : RCpost w1 F cb C' w2) : RCpost w F cb C' w2 := by
  obtain ⟨F2, h1, h2, h3⟩ := h
  exact ⟨F2, h1, fun k e => (h2 k e).imp id (fun e => Nat.le_trans hk.size e), (hk.mono (S1 := F) (fun _ _ e => e.elim)).trans h3 (fun _ _ e => e)⟩
theorem RCAt.agetL (h : RCAt w F cb C Y v) (s : ByteArray) : aget C.gs s = (aget Y.L s).map (·.2) := by rw [← h.core, aget_core]
def rcbeatE (C : CoordC) (s : ByteArray) (m gn now : Int) : Int := match aget C.gs s with
  | some g => rbeatE g m gn now
  | none => 11
def rcbeatC (C : CoordC) (s : ByteArray) (m gn now : Int) : CoordC := match aget C.gs s with
  | some g => ⟨C.s, C.r, aput C.gs s (beatG g m gn now), C.off⟩
  | none => C
set_option maxRecDepth 100000 in
set_option maxHeartbeats 4000000 in
theorem rcbeat_any (s : ByteArray) (m gn now : Int) (h : RCAt w F cb C Y v) (hw : ∀ g, aget C.gs s = some g → WfG g) :
    Calls Tryz.prog 29 #[.pointer (some ⟨cb, 0, none⟩), .string s, .int .i64 m, .int .i64 gn, .int .i64 now] w fun e w' => e = .returned (.int .i64 (rcbeatE C s m gn now)) ∧ RCpost w F cb (rcbeatC C s m gn now) w' := by
  have HFI := Lib.hid (rcfind_any s h)
  have HH := Lib.hid h
  have HA := Lib.hid (h.agetL s)
  have HW := Lib.hid hw
  clear h hw
  cases hf : aget Y.L s with
  | none =>
    rw [hf] at HFI HA
    have HP : Hid (∀ wx, K0 w wx → (Ending.returned (.int .i64 11) = .returned (.int .i64 (rcbeatE C s m gn now)) ∧ RCpost w F cb (rcbeatC C s m gn now) wx)) := fun wx hk => by
      unfold rcbeatE rcbeatC
      rw [HA.out]
      exact ⟨rfl, RCpost.same ⟨_, _, HH.out⟩ hk⟩
    clear hf
    go_enter Tryz.func29, Tryz.ntmps29
    go_wp2_with fail
    refine HFI.out.mono ?_
    rintro e w1 ⟨rfl, k1⟩
    dsimp only [ptrOf]
    have HK1 := Lib.hid k1
    clear k1
    go_wp2
    go_ret
    exact HP.out _ HK1.out
  | some p =>
    obtain ⟨b, g⟩ := p
    rw [hf] at HFI HA
    have hA : aget C.gs s = some g := HA.out
    have HB : Hid (∀ wx, K0 w wx → Calls Tryz.prog 53 #[.pointer (some ⟨b, 0, none⟩), .int .i64 m, .int .i64 gn, .int .i64 now] wx fun e w' => e = .returned (.int .i64 (rcbeatE C s m gn now)) ∧ RCpost w F cb (rcbeatC C s m gn now) w') := fun wx hk => by
      have h1 := HH.out.keep hk (fun _ _ e => e)
      obtain ⟨i, hi, _, hix, hg⟩ := h1.at hf
      refine (rbeat_any wx (Y.fp i) b g m gn now hg (HW.out g hA)).mono ?_
      rintro e w' ⟨rfl, hq⟩
      unfold rcbeatE rcbeatC
      rw [hA]
      exact ⟨rfl, RCpost.trans hk HH.out.lt (h1.turn hf (hix ▸ hq))⟩
    clear hf hA
    go_enter Tryz.func29, Tryz.ntmps29
    go_wp2_with fail
    refine HFI.out.mono ?_
    rintro e w1 ⟨rfl, k1⟩
    dsimp only [ptrOf]
    have HK1 := Lib.hid k1
    clear k1
    go_wp2_with fail
    refine (HB.out _ HK1.out).mono ?_
    rintro e w2 ⟨rfl, hq⟩
    have HQ := Lib.hid hq
    clear hq
    go_wp2
    go_ret
    exact ⟨rfl, HQ.out⟩
end
end Go.Proofs.YtklhlffdpojkoaaGreat
