/-
  A group is made; a member that is known; one that beats, one that leaves.
-/
import Derived.Test.YtlmajhkhlmkeiaaGi
namespace Go.Proofs.Ytlmajhkhlmkeiaa
open Go.RowKit Go.Shelf Fx

def timeOk (now : Int) : Bool := decide (0 ≤ now) && decide (now ≤ 1099511627776)
theorem time_yes {now : Int} (h : timeOk now = true) : 0 ≤ now ∧ now ≤ 1099511627776 := by simpa [timeOk] using h
set_option maxRecDepth 100000 in
set_option maxHeartbeats 1000000 in
theorem isTime_any (now : Int) (w : World) : Calls Try.prog 20 #[.int .i64 now] w fun e w' => Same w e (.bool (timeOk now)) w' := by
  by_cases h1 : 0 ≤ now
  · by_cases h2 : now ≤ 1099511627776
    · go_enter Try.func20, Try.ntmps20
      go_wp2
      go_ret
      exact ⟨by simp [timeOk, h1, h2], Keeps.refl _ _⟩
    · go_enter Try.func20, Try.ntmps20
      go_wp2
      go_ret
      exact ⟨by simp [timeOk, h1, h2], Keeps.refl _ _⟩
  · go_enter Try.func20, Try.ntmps20
    go_wp2
    go_ret
    exact ⟨by simp [timeOk]; omega, Keeps.refl _ _⟩
/-- What a group is, so that nothing of it overflows. -/
structure WfG (g : GroupC) : Prop where
  rise : ∀ i j (hi : i < g.ones.length) (hj : j < g.ones.length), i < j → g.ones[i].member < g.ones[j].member
  wf : ∀ i (hi : i < g.ones.length), 0 ≤ g.ones[i].member ∧ g.ones[i].member < g.next
  len : g.ones.length ≤ 20
  ses : 1 ≤ g.session ∧ g.session ≤ 100000
  reb : 1 ≤ g.rebalance ∧ g.rebalance ≤ 100000
  next : 0 ≤ g.next ∧ g.next ≤ 1152921504606846976
  gen : 0 ≤ g.gen ∧ g.gen ≤ 1152921504606846976
def newG (s r : Int) : GroupC := ⟨s, r, 0, 0, 0, 0, []⟩
theorem WfG.new {s r : Int} (h1 : 1 ≤ s ∧ s ≤ 100000) (h2 : 1 ≤ r ∧ r ≤ 100000) : WfG (newG s r) :=
  ⟨fun i j hi => absurd hi (Nat.not_lt_zero _), fun i hi => absurd hi (Nat.not_lt_zero _), Nat.zero_le _, h1, h2, ⟨Int.le_refl _, by show (0 : Int) ≤ _; omega⟩, ⟨Int.le_refl _, by show (0 : Int) ≤ _; omega⟩⟩
theorem GrpAt.rise {w : World} {F : Nat → Prop} {b : Nat} {g : GroupC} {v : Value} {L : List OneV} (h : GrpAt w F b g v L) (hw : WfG g) : RiseM L := by
  have hl := h.glen
  have hm : ∀ i (hi : i < L.length), g.ones[i]'(by omega) = L[i].core := fun i hi => by simp only [← h.ones, List.getElem_map]
  refine ⟨fun i j hi hj hij => ?_, fun i hi => ?_⟩
  · have := hw.rise i j (by omega) (by omega) hij
    rw [hm i hi, hm j hj] at this
    exact this
  · have := hw.wf i (by omega)
    rw [hm i hi] at this
    have h2 := hw.next.2
    exact ⟨this.1, by have := this.2; show L[i].core.member ≤ _; omega⟩
set_option maxRecDepth 100000 in
set_option maxHeartbeats 1000000 in
theorem new_any (s r : Int) (w : World) (h1 : 1 ≤ s ∧ s ≤ 100000) (h2 : 1 ≤ r ∧ r ≤ 100000) :
    Calls Try.prog 10 #[.int .i64 s, .int .i64 r] w fun e w' => e = .returned (.tuple #[.pointer (some ⟨w.heap.size, 0, none⟩), .int .i64 0]) ∧ Grp w' (fun k => k = w.heap.size) w.heap.size (newG s r) ∧ K0 w w' ∧ w'.heap.size = w.heap.size + 1 := by
  have q1 : ¬ s < 1 := by omega
  have q2 : ¬ 100000 < s := by omega
  have q3 : ¬ r < 1 := by omega
  have q4 : ¬ 100000 < r := by omega
  have HG : Hid (Grp (w.alloc (.cells (gCells (newG s r) (.slice none 0 0)) 63)) (fun k => k = w.heap.size) w.heap.size (newG s r)) :=
    ⟨_, [], heap_new _ _ _ rfl, World.ownsRow_nil _ _ _ _, rfl, (fun k e => by subst e; simp), (fun k e => by cases e), rfl, (fun x hx => by cases hx)⟩
  go_enter Try.func10, Try.ntmps10
  go_wp2
  go_ret2
  exact ⟨rfl, HG.out, (Keeps.refl _ _).alloc _, by simp⟩
def newBad (s r : Int) : Prop := s < 1 ∨ 100000 < s ∨ r < 1 ∨ 100000 < r
set_option maxRecDepth 100000 in
set_option maxHeartbeats 1000000 in
theorem new_bad (s r : Int) (w : World) (h : newBad s r) : Calls Try.prog 10 #[.int .i64 s, .int .i64 r] w fun e w' => Same w e (.tuple #[.pointer none, .int .i64 1]) w' := by
  unfold newBad at h
  by_cases q1 : s < 1
  · go_enter Try.func10, Try.ntmps10
    go_wp2
    go_ret2
    exact ⟨rfl, Keeps.refl _ _⟩
  · by_cases q2 : 100000 < s
    · go_enter Try.func10, Try.ntmps10
      go_wp2
      go_ret2
      exact ⟨rfl, Keeps.refl _ _⟩
    · by_cases q3 : r < 1
      · go_enter Try.func10, Try.ntmps10
        go_wp2
        go_ret2
        exact ⟨rfl, Keeps.refl _ _⟩
      · have q4 : 100000 < r := by omega
        go_enter Try.func10, Try.ntmps10
        go_wp2
        go_ret2
        exact ⟨rfl, Keeps.refl _ _⟩

def hasM (g : GroupC) (m : Int) : Bool := g.ones.any fun o => o.member == m
theorem GrpAt.has {w : World} {F : Nat → Prop} {b : Nat} {g : GroupC} {v : Value} {L : List OneV} (h : GrpAt w F b g v L) {m : Int} {i : Nat} (hi : i < L.length) (e : L[i].member = m) : hasM g m = true := by
  unfold hasM
  rw [← h.ones, List.any_map, List.any_eq_true]
  exact ⟨L[i], List.getElem_mem hi, by simp [OneV.core, e]⟩
theorem GrpAt.hasnt {w : World} {F : Nat → Prop} {b : Nat} {g : GroupC} {v : Value} {L : List OneV} (h : GrpAt w F b g v L) {m : Int} (e : ∀ i (h : i < L.length), L[i].member ≠ m) : hasM g m = false := by
  unfold hasM
  rw [← h.ones, List.any_map, List.any_eq_false]
  intro x hx
  obtain ⟨i, hi, rfl⟩ := List.mem_iff_getElem.1 hx
  simpa [OneV.core] using e i hi
/-- The error for a member and a generation. -/
def knownE (g : GroupC) (m gn : Int) : Int := if hasM g m then (if gn = g.gen then 0 else 10) else 11
def KnownPost (w : World) (g : GroupC) (v : Value) (L : List OneV) (m gn : Int) (e : Ending) (w' : World) : Prop :=
  K0 w w' ∧ ∃ p, e = .returned (.tuple #[.pointer p, .int .i64 (knownE g m gn)]) ∧ (knownE g m gn = 0 → ∃ (i : Nat) (hi : i < L.length) (r cap : Nat), L[i].member = m ∧ v = .slice (some ⟨r, 0, none⟩) L.length cap ∧ p = some ⟨r, i * 5, none⟩)
set_option maxRecDepth 100000 in
set_option maxHeartbeats 1000000 in
theorem known_any (w : World) (F : Nat → Prop) (b : Nat) (g : GroupC) (v : Value) (L : List OneV) (m gn : Int) (h : GrpAt w F b g v L) (hw : WfG g) (hm : -9223372036854775808 ≤ m ∧ m ≤ 9223372036854775807) :
    Calls Try.prog 29 #[.pointer (some ⟨b, 0, none⟩), .int .i64 m, .int .i64 gn] w fun e w' => KnownPost w g v L m gn e w' := by
  have hlen : L.length ≤ 20 := by rw [← h.glen]; exact hw.len
  have HF := Lib.hid (find_any w F b g v L m h (h.rise hw) hm (by omega))
  have HH := Lib.hid h
  have hx : w.cell? ⟨b, 3, none⟩ = some (.int .i64 g.gen) := block_cell h.blk 3
  have hb := block_lt h.blk
  clear h hw hm
  go_enter Try.func29, Try.ntmps29
  go_wp2_with fail
  refine HF.out.mono ?_
  rintro e w1 ⟨hk, ⟨i, hi, r, cap, e1, e2, rfl⟩ | ⟨e1, rfl⟩⟩
  · have hx1 := hk.cell' hx (fun e => e)
    have hb1 := Nat.lt_of_lt_of_le hb hk.size
    have HK := Lib.hid hk
    have HS := Lib.hid (HH.out.has hi e1)
    have HE1 := Lib.hid e1
    have HE2 := Lib.hid e2
    clear hk e1 e2
    by_cases hg : gn = g.gen
    · subst hg
      have h9 : (g.gen != g.gen) = false := by simp
      have HE : Hid (knownE g m g.gen = 0) := by show _ = _; unfold knownE; rw [if_pos HS.out, if_pos rfl]
      generalize hgg : g.gen = gg at hx1 h9 HE
      have HGG := Lib.hid hgg
      clear hgg
      go_wp2
      go_ret2
      refine ⟨HK.out, _, ?_, fun _ => ⟨i, hi, r, cap, HE1.out, HE2.out, rfl⟩⟩
      rw [HGG.out, HE.out]
      rfl
    · have HE : Hid (knownE g m gn = 10) := by show _ = _; unfold knownE; rw [if_pos HS.out, if_neg hg]
      have h9 : (gn != g.gen) = true := by simpa using hg
      clear hg
      generalize g.gen = gg at hx1 h9
      go_wp2
      go_ret2
      refine ⟨HK.out, none, ?_, fun e => ?_⟩
      · rw [HE.out]; rfl
      · rw [HE.out] at e; cases e
  · have HE : Hid (knownE g m gn = 11) := by show _ = _; unfold knownE; rw [if_neg (by rw [HH.out.hasnt e1]; simp)]
    have HK := Lib.hid hk
    clear e1 hk
    go_wp2
    go_ret2
    refine ⟨HK.out, none, ?_, fun e => ?_⟩
    · rw [HE.out]; rfl
    · rw [HE.out] at e; cases e
/-- What Knows answers. -/
def knowsE (g : GroupC) (m gn : Int) : Int := if knownE g m gn = 0 then (if g.phase = 1 then 13 else 0) else knownE g m gn
set_option maxRecDepth 100000 in
set_option maxHeartbeats 1000000 in
theorem knows_any (w : World) (F : Nat → Prop) (b : Nat) (g : GroupC) (m gn : Int) (h : Grp w F b g) (hw : WfG g) (hm : -9223372036854775808 ≤ m ∧ m ≤ 9223372036854775807) :
    Calls Try.prog 17 #[.pointer (some ⟨b, 0, none⟩), .int .i64 m, .int .i64 gn] w fun e w' => Same w e (.int .i64 (knowsE g m gn)) w' := by
  obtain ⟨v, L, h⟩ := h
  have HF := Lib.hid (known_any w F b g v L m gn h hw hm)
  have hx : w.cell? ⟨b, 2, none⟩ = some (.int .i64 g.phase) := block_cell h.blk 2
  have hb := block_lt h.blk
  have HQ : Hid (knowsE g m gn = if knownE g m gn = 0 then (if g.phase = 1 then 13 else 0) else knownE g m gn) := rfl
  clear h hw hm
  generalize knowsE g m gn = ke at HQ ⊢
  unfold KnownPost at HF
  generalize knownE g m gn = kn at HQ HF
  generalize g.phase = ph at hx HQ
  go_enter Try.func17, Try.ntmps17
  go_wp2_with fail
  refine HF.out.mono ?_
  rintro e w1 ⟨hk, p, rfl, _⟩
  have hx1 := hk.cell' hx (fun e => e)
  have hb1 := Nat.lt_of_lt_of_le hb hk.size
  have HK := Lib.hid hk
  clear hk
  by_cases h0 : kn = 0
  · subst h0
    by_cases h1 : ph = 1
    · subst h1
      have HR : Hid (ke = 13) := by show _ = _; rw [HQ.out]; rfl
      go_wp2
      go_ret
      exact ⟨by rw [HR.out]; rfl, HK.out⟩
    · have h1' : (ph == 1) = false := by simpa using h1
      have HR : Hid (ke = 0) := by show _ = _; rw [HQ.out, if_pos rfl, if_neg h1]
      clear h1
      go_wp2
      go_ret
      exact ⟨by rw [HR.out]; rfl, HK.out⟩
  · have h0' : (kn == 0) = false := by simpa using h0
    have HR : Hid (ke = kn) := by show _ = _; rw [HQ.out, if_neg h0]
    clear h0
    go_wp2
    go_ret
    exact ⟨by rw [HR.out]; rfl, HK.out⟩
end Go.Proofs.Ytlmajhkhlmkeiaa
