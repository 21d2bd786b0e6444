/-
  A coordinator's Join.
-/
import Derived.Test.YtklhlffdpojkoaaCc
namespace Go.Proofs.Ytklhlffdpojkoaa
open Go.RowKit Go.Shelf Fx

theorem results_cell_row2 {P : Program} {fn : Func} {p u : Tmp} {ty : TypeId} (h : fn.results = #[.cell p ty, .tmp u]) (tmps : Array Value) (w : World) (g : Nat) (t : TypeId) (cs : Array Value) (fr : Nat × Nat) (d : TypeDesc)
    (hp : tmps.getD p undef = .pointer (some ⟨g, 0, none⟩)) (hg : w.heap[g]? = some (.cells cs t fr))
    (hu : P.underlying ty = some d) (hd : (match d with | .struct _ | .array _ _ => true | _ => false) = true) (hi : (P.info? ty).map (·.size) = some cs.size) :
    (results fn tmps).run P w = .ok (.tuple #[.agg cs, tmps.getD u undef]) w := by
  have hp' : tmps[p]?.getD undef = .pointer (some ⟨g, 0, none⟩) := by simpa using hp
  simp [results, h, hp', asAddr, run_loadVar_row w g t ty cs fr d hg hu hd hi]
theorem aput_same {κ α : Type} [DecidableEq κ] {L : List (κ × α)} {s : κ} {v : α} (h : aget L s = some v) : aput L s v = L := by
  induction L with
  | nil => simp [aget] at h
  | cons p L ih =>
    obtain ⟨k, u⟩ := p
    simp only [aget] at h
    by_cases hk : k = s
    · rw [if_pos hk] at h
      cases h
      simp [aput, hk]
    · rw [if_neg hk] at h
      simp [aput, hk, ih h]
theorem aget_aput_self {κ α : Type} [DecidableEq κ] (L : List (κ × α)) (s : κ) (v : α) : aget (aput L s v) s = some v := by
  induction L with
  | nil => simp [aget, aput]
  | cons p L ih =>
    obtain ⟨k, u⟩ := p
    by_cases hk : k = s
    · simp [aget, aput, hk]
    · simp [aget, aput, hk, ih]
theorem addG_len {g : GroupC} {m : Int} {topics : List ByteArray} {now : Int} (h : joinE g m topics now = 0) : (addG g m).ones.length ≠ 0 := by
  unfold joinE at h
  split at h
  · cases h
  · split at h
    · cases h
    · rename_i h2
      unfold addG
      split
      · simp
      · rename_i h3
        have : hasM g m = true := by
          cases hh : hasM g m
          · exact absurd (by simp [hh, h3]) h2
          · rfl
        exact has_len this
theorem joinG_len {g : GroupC} {m : Int} {topics : List ByteArray} {now : Int} (h : joinE g m topics now = 0) : (joinG g m topics now).ones.length ≠ 0 := by
  have h1 := addG_len h
  have h2 : (setG (startG (addG g m) now) (nextM g m) topics (now + g.session)).ones.length ≠ 0 := by
    rw [setG_len]
    unfold startG
    split
    · exact h1
    · rw [anewG_len]; exact h1
  unfold joinG finG
  split
  · rename_i h3
    unfold closeG filG
    have : ((setG (startG (addG g m) now) (nextM g m) topics (now + g.session)).ones.filter fun o => !!o.joined) = (setG (startG (addG g m) now) (nextM g m) topics (now + g.session)).ones := by
      rw [List.filter_eq_self]
      intro o ho
      have := List.all_eq_true.1 h3 o ho
      simpa using this
    dsimp only
    rw [this, if_neg h2]
    exact h2
  · exact h2
def cbase (C : CoordC) (s : ByteArray) : GroupC := (aget C.gs s).getD (newG C.s C.r)
def cjoinE (C : CoordC) (s : ByteArray) (m : Int) (topics : List ByteArray) (now : Int) : Int :=
  if s.size = 0 ∨ 100 < s.size then 1 else if (aget C.gs s).isSome = false ∧ 20 ≤ C.gs.length then 5 else joinE (cbase C s) m topics now
def cjoinG (C : CoordC) (s : ByteArray) (m : Int) (topics : List ByteArray) (now : Int) : GroupC := joinG (cbase C s) m topics now
def cjoinC (C : CoordC) (s : ByteArray) (m : Int) (topics : List ByteArray) (now : Int) : CoordC :=
  if cjoinE C s m topics now = 0 then ⟨C.s, C.r, aput C.gs s (cjoinG C s m topics now), C.off⟩ else C
def cjoinV (C : CoordC) (s : ByteArray) (m : Int) (topics : List ByteArray) (now : Int) : Value :=
  if cjoinE C s m topics now = 0 then .agg #[.int .i64 (nextM (cbase C s) m), .int .i64 (cjoinG C s m topics now).gen, .int .i64 (leaderOf (cjoinG C s m topics now))] else .agg #[.int .i64 0, .int .i64 0, .int .i64 0]
def CJoinPost (w0 : World) (cb : Nat) (C : CoordC) (s : ByteArray) (m : Int) (topics : List ByteArray) (now : Int) (e : Ending) (w' : World) : Prop :=
  e = .returned (.tuple #[cjoinV C s m topics now, .int .i64 (cjoinE C s m topics now)]) ∧ CSt w0 w' cb (cjoinC C s m topics now)
theorem CJoinPost.err {w0 w' : World} {cb : Nat} {C : CoordC} {s : ByteArray} {m : Int} {topics : List ByteArray} {now x : Int} (h : cjoinE C s m topics now = x) (hx : ¬ x = 0) (hq : CSt w0 w' cb C) : CJoinPost w0 cb C s m topics now (.returned (.tuple #[.agg #[.int .i64 0, .int .i64 0, .int .i64 0], .int .i64 x])) w' := by
  unfold CJoinPost cjoinV cjoinC
  rw [h, if_neg hx, if_neg hx]
  exact ⟨rfl, hq⟩
theorem CJoinPost.fine {w0 w' : World} {cb : Nat} {C : CoordC} {s : ByteArray} {m : Int} {topics : List ByteArray} {now : Int} (h : cjoinE C s m topics now = 0) (hq : CSt w0 w' cb ⟨C.s, C.r, aput C.gs s (cjoinG C s m topics now), C.off⟩) :
    CJoinPost w0 cb C s m topics now (.returned (.tuple #[.agg #[.int .i64 (nextM (cbase C s) m), .int .i64 (cjoinG C s m topics now).gen, .int .i64 (leaderOf (cjoinG C s m topics now))], .int .i64 0])) w' := by
  unfold CJoinPost cjoinV cjoinC
  rw [h, if_pos rfl, if_pos rfl]
  exact ⟨rfl, hq⟩
def firstM : List OneC → Int
  | o :: _ => o.member
  | [] => 0
/-- The first member of a view. -/
theorem view_first {w : World} {base : Nat} {a : Option Addr} {c : Nat} {ones : List OneC} (h : ViewAt w base (.slice a ones.length c) ones) (hne : ones.length ≠ 0) : ∃ r, a = some ⟨r, 0, none⟩ ∧ r < w.heap.size ∧ base ≤ r ∧ w.cell? ⟨r, 0, none⟩ = some (.int .i64 (firstM ones)) := by
  obtain ⟨C, h1, h2, _⟩ := h
  have hl : C.length = ones.length := by rw [← h1]; simp
  rw [← hl] at h2 hne
  rcases h2.2 with ⟨h3, h4⟩ | ⟨r, cap, cur, h3, _⟩
  · omega
  · have h5 := h2.lt r (by rw [h3]; rfl)
    simp only [Value.slice.injEq] at h3
    obtain ⟨rfl, _, _⟩ := h3
    refine ⟨r, rfl, h5.2, h5.1, ?_⟩
    have h6 := h2.cellAt 0 (by omega)
    rw [h6]
    cases C with
    | nil => exact absurd rfl hne
    | cons x C =>
      subst h1
      rfl
section
variable {w0 w : World} {cb : Nat} {C : CoordC} {Y : CLay}
set_option maxRecDepth 100000 in
set_option maxHeartbeats 4000000 in
theorem cjoin_name (s : ByteArray) (m now : Int) (a : Option Addr) (n c : Nat) (hs : s.size = 0 ∨ 100 < s.size) (w : World) :
    Calls Try.prog 8 #[.pointer (some ⟨cb, 0, none⟩), .string s, .int .i64 m, .slice a n c, .int .i64 now] w fun e w' => Same w e (.tuple #[.agg #[.int .i64 0, .int .i64 0, .int .i64 0], .int .i64 1]) w' := by
  have HB : Hid ((w.alloc (.cells #[.int .i64 0, .int .i64 0, .int .i64 0] 29)).heap[w.heap.size]? = some (.cells #[.int .i64 0, .int .i64 0, .int .i64 0] 29 (0, 0))) := heap_new _ _ _ rfl
  have HZ : Hid (((((w.alloc (.cells #[.int .i64 0, .int .i64 0, .int .i64 0] 29)).setCell ⟨w.heap.size, 0, none⟩ (.int .i64 0)).setCell ⟨w.heap.size, 1, none⟩ (.int .i64 0)).setCell ⟨w.heap.size, 2, none⟩ (.int .i64 0)).heap[w.heap.size]? = some (.cells #[.int .i64 0, .int .i64 0, .int .i64 0] 29 (0, 0))) := setCell_block (setCell_block (setCell_block HB.out 0 _) 1 _) 2 _
  by_cases h0 : s.size = 0
  · have h1 := bytes_empty h0
    clear h0 hs
    go_enter Try.func8, Try.ntmps8
    go_wp2
    (try simp only [Exit.inBlock, Exit.then])
    refine bodyPost_ret (results_cell_row2 rfl _ _ _ _ _ _ _ rfl HB.out Try.underlying29 rfl (by kernel_rfl)) rfl ?_
    exact ⟨rfl, (Keeps.refl _ _).alloc _⟩
  · have h1 := bytes_some h0
    have h2 : 100 < (s.size : Int) := by omega
    clear h0 hs
    go_enter Try.func8, Try.ntmps8
    go_wp2
    (try simp only [Exit.inBlock, Exit.then])
    refine bodyPost_ret (results_cell_row2 rfl _ _ _ _ _ _ _ rfl HB.out Try.underlying29 rfl (by kernel_rfl)) rfl ?_
    exact ⟨rfl, (Keeps.refl _ _).alloc _⟩
/-- What stands ahead of the walk. -/
theorem jw_facts (w : World) : (w.alloc (.cells #[.int .i64 0, .int .i64 0, .int .i64 0] 29)).heap[w.heap.size]? = some (.cells #[.int .i64 0, .int .i64 0, .int .i64 0] 29 (0, 0)) := heap_new _ _ _ rfl
set_option maxRecDepth 100000 in
set_option maxHeartbeats 4000000 in
theorem cjoin_full (h : CAt w0 w cb C Y) (s : ByteArray) (m now : Int) (a : Option Addr) (n c : Nat) (h1 : s.toList.isEmpty = false) (h2 : ¬ 100 < (s.size : Int)) (e : aget Y.L s = none) (hf : 20 ≤ C.gs.length) :
    Calls Try.prog 8 #[.pointer (some ⟨cb, 0, none⟩), .string s, .int .i64 m, .slice a n c, .int .i64 now] w fun e w' => Same w e (.tuple #[.agg #[.int .i64 0, .int .i64 0, .int .i64 0], .int .i64 5]) w' := by
  have HB := Lib.hid (jw_facts w)
  have HK := Lib.hid ((Keeps.refl (fun _ => False) w).alloc (.cells #[.int .i64 0, .int .i64 0, .int .i64 0] 29))
  generalize hwb : w.alloc (.cells #[.int .i64 0, .int .i64 0, .int .i64 0] 29) = wb at HB HK
  have hbl := block_lt h.blk
  have hm := Lib.hid (h.map.keep ((Keeps.refl (fun _ => False) w).alloc (.cells #[.int .i64 0, .int .i64 0, .int .i64 0] 29)) (fun e => e))
  have c2 : w.cell? ⟨cb, 2, none⟩ = some (.map (some Y.gb)) := block_cell h.blk 2
  have HV : Hid (aget (avals gptr Y.L) s = none) := by show _ = _; rw [aget_avals, e]; rfl
  have hl : 20 ≤ (avals gptr Y.L).length := by rw [avals_len]; have := congrArg List.length h.core; simp [gcore] at this; omega
  subst hwb
  clear h e hf
  go_enter Try.func8, Try.ntmps8
  go_wp2_with (first | (at_lookup; refine wpList_look (strKey Try.underlying9) rfl rfl Try.underlying51 zeroPtr rfl s rfl hm.out _ HV.out ?_) | (at_len; refine wpList_len rfl rfl Try.underlying51 rfl hm.out ?_))
  (try simp only [Exit.inBlock, Exit.then])
  refine bodyPost_ret (results_cell_row2 rfl _ _ _ _ _ _ _ rfl HB.out Try.underlying29 rfl (by kernel_rfl)) rfl ?_
  exact ⟨rfl, HK.out⟩
end
end Go.Proofs.Ytklhlffdpojkoaa
