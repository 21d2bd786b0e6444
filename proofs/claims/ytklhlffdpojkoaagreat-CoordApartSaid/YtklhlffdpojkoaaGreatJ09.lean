/-
  A group lets members go of which something holds.
-/
import Derived.Test.YtklhlffdpojkoaaGreatJ08
import Derived.Deep.RegionHeld3
namespace Go.Proofs.YtklhlffdpojkoaaGreat
open Go.RowKit Go.Shelf Fx

def dropG (g : GroupC) (now : Int) (q : OneC → Bool) : GroupC :=
  if (filG g q).ones.length = g.ones.length then filG g q
  else if ¬ g.phase = 1 ∨ (filG g q).ones.length = 0 then anewG (filG g q) now
  else if (filG g q).ones.all (·.joined) then closeG (filG g q) now
  else filG g q
set_option maxRecDepth 100000 in
set_option maxHeartbeats 2000000 in
theorem drop_any (w : World) (F : Nat → Prop) (b : Nat) (g : GroupC) (v : Value) (L : List OneV) (now : Int) (c : Nat) (caps : Array Value) (p : OneV → Bool) (q : OneC → Bool) (h : GrpAt w F b g v L) (hl : L.length ≤ 1000) (hn : 0 ≤ now ∧ now ≤ 1099511627776) (hr : 0 ≤ g.rebalance ∧ g.rebalance ≤ 100000) (hg : 0 ≤ g.gen ∧ g.gen ≤ 1152921504606846976)
    (eg : ∀ args w, (callFunc c args).run Tryz.prog w = .ok (.enter c args) w) (hp : ∀ w1, Keeps (fun k => v.ownBlock = some k) w w1 → Tests c caps p w1) (hpq : ∀ x, p x = q x.core) :
    Calls Tryz.prog 76 #[.pointer (some ⟨b, 0, none⟩), .int .i64 now, .func (.func c) #[] caps] w fun e w' => e = .returned (.tuple #[]) ∧ GrpPost w F b (dropG g now q) w' := by
  have HD := Lib.hid (deleteFunc w v L c caps p h.row (h.rowV (by omega)) h.slices hl eg hp)
  have hx : w.cell? ⟨b, 6, none⟩ = some v := block_cell h.blk 6
  have hb := block_lt h.blk
  have HH := Lib.hid h
  have hfb := block_free h.blk 6
  have hvb : v.ownBlock ≠ some b := fun e => (h.own b e).2 rfl
  have hform0 : ∃ a cap, v = .slice a L.length cap := by
    rcases h.form with ⟨h1, h2⟩ | ⟨r, cap, h1, _⟩
    · rw [h1]; exact ⟨_, _, h2⟩
    · exact ⟨_, _, h1⟩
  obtain ⟨a0, cap0, rfl⟩ := hform0
  have HLN := Lib.hid h.glen
  have HPQ := Lib.hid hpq
  have HHR := Lib.hid hr
  have HHG := Lib.hid hg
  have HNW := Lib.hid hn
  clear h hp eg hpq hr hg hn
  generalize hll : L.length = ln at HD hx hl HLN hvb
  have HLL := Lib.hid hll
  clear hll
  go_enter Tryz.func76, Tryz.ntmps76
  go_wp2_with fail
  refine HD.out.mono ?_
  rintro e w1 ⟨v', rfl, hrow, hown, hk⟩
  have hGd := HH.out
  rw [HLL.out] at hGd
  obtain ⟨F', hG, hF', hkF⟩ := hGd.del (q := q) HPQ.out hrow hown hk
  clear hGd
  have hx1 := hk.cell' hx hvb
  have hf1 := (hk.frozen (p := ⟨b, 6, none⟩) hb hvb).trans hfb
  have hb1 := Nat.lt_of_lt_of_le hb hk.size
  have w2 : w1.cell? ⟨b, 2, none⟩ = some (.int .i64 g.phase) := hk.cell' (block_cell HH.out.blk 2) hvb
  have hform : ∃ a cap, v' = .slice a (L.filter fun x => !p x).length cap := by
    rcases hrow.2 with ⟨h1, h2⟩ | ⟨r, cap, cur, h1, _⟩
    · rw [h2]; exact ⟨_, _, h1⟩
    · exact ⟨_, _, h1⟩
  obtain ⟨a', cap', rfl⟩ := hform
  have hlen : (filG g q).ones.length = (L.filter fun x => !p x).length := hG.glen
  have HF' := Lib.hid hF'
  have hle : (L.filter fun x => !p x).length ≤ 1000 := Nat.le_trans (List.length_filter_le _ _) (by rw [HLL.out]; exact hl)
  clear hF' hrow hown hk hx
  generalize hLL : (L.filter fun x => !p x) = L' at hG hlen hle hkF ⊢
  clear hLL
  have HG := Lib.hid hG
  have HKF := Lib.hid hkF
  have HL := Lib.hid hlen
  have HFB := Lib.hid hG.fb
  have HPOST : Hid (∀ g2 wz, GrpPost (w1.setCell ⟨b, 6, none⟩ (.slice a' L'.length cap')) F' b g2 wz → GrpPost w F b g2 wz) := fun g2 wz hq => GrpPost.trans HF'.out HKF.out hq
  have HSELF : Hid (GrpPost w F b (filG g q) (w1.setCell ⟨b, 6, none⟩ (.slice a' L'.length cap'))) := ⟨F', ⟨_, _, HG.out⟩, HF'.out, HKF.out⟩
  have HA := Lib.hid (anew_any _ F' b (filG g q) _ L' now hG hle HNW.out HHR.out)
  have HC := Lib.hid (close_any _ F' b (filG g q) _ L' now hG hle HNW.out HHR.out HHG.out)
  have HM := Lib.hid (complete_any _ F' b (filG g q) _ L' hG hle)
  have HLE := Lib.hid hle
  clear hG hkF hlen
  generalize hnn : L'.length = n' at HA HC HM HPOST HSELF HL HG HKF hle ⊢
  have HNN := Lib.hid hnn
  clear hnn
  by_cases h1 : n' = ln
  · have HE : Hid (dropG g now q = filG g q) := if_pos (by rw [HL.out, HLN.out]; exact h1)
    subst h1
    go_wp2
    go_end0
    rw [HE.out]
    exact ⟨rfl, HSELF.out⟩
  · have HE1 : Hid (¬ (filG g q).ones.length = g.ones.length) := by rw [HL.out, HLN.out]; exact h1
    have h1' : ((n' : Int) == (ln : Int)) = false := beq_eq_false_iff_ne.2 (by omega)
    by_cases h2 : g.phase = 1
    · by_cases h3 : n' = 0
      · have HE : Hid (dropG g now q = anewG (filG g q) now) := by show _ = _; unfold dropG; rw [if_neg HE1.out, if_pos (.inr (HL.out.trans h3))]
        rw [h2] at w2
        subst h3
        go_wp2_with fail
        refine HA.out.mono ?_
        rintro e wz ⟨rfl, hq⟩
        (try go_wp2)
        go_end0
        rw [HE.out]
        exact ⟨rfl, HPOST.out _ _ hq⟩
      · have h3' : ((n' : Int) == 0) = false := beq_eq_false_iff_ne.2 (by omega)
        rw [h2] at w2
        cases h4 : (filG g q).ones.all (·.joined) with
        | true =>
          have HE : Hid (dropG g now q = closeG (filG g q) now) := by show _ = _; unfold dropG; rw [if_neg HE1.out, if_neg (by rw [HL.out]; omega), if_pos h4]
          rw [h4] at HM
          clear h4
          go_wp2_with fail
          refine HM.out.mono ?_
          rintro e wy ⟨rfl, hky⟩
          have HGY := HG.out.keep hky (fun _ _ e => e)
          have HC := Lib.hid (close_any _ F' b (filG g q) _ L' now HGY HLE.out HNW.out HHR.out HHG.out)
          have HPOST : Hid (∀ g2 wz, GrpPost wy F' b g2 wz → GrpPost w F b g2 wz) := fun g2 wz hq => HPOST.out _ _ (GrpPost.trans (fun k e => .inl e) (hky.mono fun _ _ e => e.elim) hq)
          clear HGY hky
          go_wp2_with fail
          refine HC.out.mono ?_
          rintro e wz ⟨rfl, hq⟩
          (try go_wp2)
          go_end0
          rw [HE.out]
          exact ⟨rfl, HPOST.out _ _ hq⟩
        | false =>
          have HE : Hid (dropG g now q = filG g q) := by show _ = _; unfold dropG; rw [if_neg HE1.out, if_neg (by rw [HL.out]; omega), if_neg (by rw [h4]; simp)]
          rw [h4] at HM
          clear h4
          go_wp2_with fail
          refine HM.out.mono ?_
          rintro e wy ⟨rfl, hky⟩
          have HSELF : Hid (GrpPost w F b (filG g q) wy) := ⟨F', ⟨_, _, HG.out.keep hky (fun _ _ e => e)⟩, HF'.out, HKF.out.trans hky fun _ _ e => e.elim⟩
          clear hky
          go_wp2
          go_end0
          rw [HE.out]
          exact ⟨rfl, HSELF.out⟩
    · have HE : Hid (dropG g now q = anewG (filG g q) now) := by show _ = _; unfold dropG; rw [if_neg HE1.out, if_pos (.inl h2)]
      have h2' : (g.phase != 1) = true := by simpa using h2
      generalize g.phase = ph at w2 h2'
      clear h2
      go_wp2_with fail
      refine HA.out.mono ?_
      rintro e wz ⟨rfl, hq⟩
      (try go_wp2)
      go_end0
      rw [HE.out]
      exact ⟨rfl, HPOST.out _ _ hq⟩
end Go.Proofs.YtklhlffdpojkoaaGreat

/-
  A group is made; a member that is known; one that beats, one that leaves.
-/
namespace Go.Proofs.YtklhlffdpojkoaaGreat
open Go.RowKit Go.Shelf Fx

def timeOk (now : Int) : Bool := decide (0 ≤ now) && decide (now ≤ 1099511627776)
theorem time_yes {now : Int} (h : timeOk now = true) : 0 ≤ now ∧ now ≤ 1099511627776 := by simpa [timeOk] using h
set_option maxRecDepth 100000 in
set_option maxHeartbeats 1000000 in
theorem isTime_any (now : Int) (w : World) : Calls Tryz.prog 62 #[.int .i64 now] w fun e w' => Same w e (.bool (timeOk now)) w' := by
  by_cases h1 : 0 ≤ now
  · by_cases h2 : now ≤ 1099511627776
    · go_enter Tryz.func62, Tryz.ntmps62
      go_wp2
      go_ret
      exact ⟨by simp [timeOk, h1, h2], Keeps.refl _ _⟩
    · go_enter Tryz.func62, Tryz.ntmps62
      go_wp2
      go_ret
      exact ⟨by simp [timeOk, h1, h2], Keeps.refl _ _⟩
  · go_enter Tryz.func62, Tryz.ntmps62
    go_wp2
    go_ret
    exact ⟨by simp [timeOk]; omega, Keeps.refl _ _⟩
/-- What a group is, so that nothing of it overflows. -/
structure WfG (g : GroupC) : Prop where
  rise : ∀ i j (hi : i < g.ones.length) (hj : j < g.ones.length), i < j → g.ones[i].member < g.ones[j].member
  wf : ∀ i (hi : i < g.ones.length), 0 ≤ g.ones[i].member ∧ g.ones[i].member < g.next
  len : g.ones.length ≤ 20
  ses : 1 ≤ g.session ∧ g.session ≤ 100000
  reb : 1 ≤ g.rebalance ∧ g.rebalance ≤ 100000
  next : 0 ≤ g.next ∧ g.next ≤ 1152921504606846976
  gen : 0 ≤ g.gen ∧ g.gen ≤ 1152921504606846976
def newG (s r : Int) : GroupC := ⟨s, r, 0, 0, 0, 0, []⟩
theorem WfG.new {s r : Int} (h1 : 1 ≤ s ∧ s ≤ 100000) (h2 : 1 ≤ r ∧ r ≤ 100000) : WfG (newG s r) :=
  ⟨fun i j hi => absurd hi (Nat.not_lt_zero _), fun i hi => absurd hi (Nat.not_lt_zero _), Nat.zero_le _, h1, h2, ⟨Int.le_refl _, by show (0 : Int) ≤ _; omega⟩, ⟨Int.le_refl _, by show (0 : Int) ≤ _; omega⟩⟩
theorem GrpAt.rise {w : World} {F : Nat → Prop} {b : Nat} {g : GroupC} {v : Value} {L : List OneV} (h : GrpAt w F b g v L) (hw : WfG g) : RiseM L := by
  have hl := h.glen
  have hm : ∀ i (hi : i < L.length), g.ones[i]'(by omega) = L[i].core := fun i hi => by simp only [← h.ones, List.getElem_map]
  refine ⟨fun i j hi hj hij => ?_, fun i hi => ?_⟩
  · have := hw.rise i j (by omega) (by omega) hij
    rw [hm i hi, hm j hj] at this
    exact this
  · have := hw.wf i (by omega)
    rw [hm i hi] at this
    have h2 := hw.next.2
    exact ⟨this.1, by have := this.2; show L[i].core.member ≤ _; omega⟩
set_option maxRecDepth 100000 in
set_option maxHeartbeats 1000000 in
theorem new_any (s r : Int) (w : World) (h1 : 1 ≤ s ∧ s ≤ 100000) (h2 : 1 ≤ r ∧ r ≤ 100000) :
    Calls Tryz.prog 23 #[.int .i64 s, .int .i64 r] w fun e w' => e = .returned (.tuple #[.pointer (some ⟨w.heap.size, 0, none⟩), .int .i64 0]) ∧ Grp w' (fun k => k = w.heap.size) w.heap.size (newG s r) ∧ K0 w w' ∧ w'.heap.size = w.heap.size + 1 := by
  have q1 : ¬ s < 1 := by omega
  have q2 : ¬ 100000 < s := by omega
  have q3 : ¬ r < 1 := by omega
  have q4 : ¬ 100000 < r := by omega
  have HG : Hid (Grp (w.alloc (.cells (gCells (newG s r) (.slice none 0 0)) 107)) (fun k => k = w.heap.size) w.heap.size (newG s r)) :=
    ⟨_, [], heap_new _ _ _ rfl, World.ownsRow_nil _ _ _ _, rfl, (fun k e => by subst e; simp), (fun k e => by cases e), rfl, (fun x hx => by cases hx)⟩
  go_enter Tryz.func23, Tryz.ntmps23
  go_wp2
  go_ret2
  exact ⟨rfl, HG.out, (Keeps.refl _ _).alloc _, by simp⟩
def newBad (s r : Int) : Prop := s < 1 ∨ 100000 < s ∨ r < 1 ∨ 100000 < r
set_option maxRecDepth 100000 in
set_option maxHeartbeats 1000000 in
theorem new_bad (s r : Int) (w : World) (h : newBad s r) : Calls Tryz.prog 23 #[.int .i64 s, .int .i64 r] w fun e w' => Same w e (.tuple #[.pointer none, .int .i64 1]) w' := by
  unfold newBad at h
  by_cases q1 : s < 1
  · go_enter Tryz.func23, Tryz.ntmps23
    go_wp2
    go_ret2
    exact ⟨rfl, Keeps.refl _ _⟩
  · by_cases q2 : 100000 < s
    · go_enter Tryz.func23, Tryz.ntmps23
      go_wp2
      go_ret2
      exact ⟨rfl, Keeps.refl _ _⟩
    · by_cases q3 : r < 1
      · go_enter Tryz.func23, Tryz.ntmps23
        go_wp2
        go_ret2
        exact ⟨rfl, Keeps.refl _ _⟩
      · have q4 : 100000 < r := by omega
        go_enter Tryz.func23, Tryz.ntmps23
        go_wp2
        go_ret2
        exact ⟨rfl, Keeps.refl _ _⟩

def hasM (g : GroupC) (m : Int) : Bool := g.ones.any fun o => o.member == m
theorem GrpAt.has {w : World} {F : Nat → Prop} {b : Nat} {g : GroupC} {v : Value} {L : List OneV} (h : GrpAt w F b g v L) {m : Int} {i : Nat} (hi : i < L.length) (e : L[i].member = m) : hasM g m = true := by
  unfold hasM
  rw [← h.ones, List.any_map, List.any_eq_true]
  exact ⟨L[i], List.getElem_mem hi, by simp [OneV.core, e]⟩
theorem GrpAt.hasnt {w : World} {F : Nat → Prop} {b : Nat} {g : GroupC} {v : Value} {L : List OneV} (h : GrpAt w F b g v L) {m : Int} (e : ∀ i (h : i < L.length), L[i].member ≠ m) : hasM g m = false := by
  unfold hasM
  rw [← h.ones, List.any_map, List.any_eq_false]
  intro x hx
  obtain ⟨i, hi, rfl⟩ := List.mem_iff_getElem.1 hx
  simpa [OneV.core] using e i hi
/-- The error for a member and a generation. -/
def knownE (g : GroupC) (m gn : Int) : Int := if hasM g m then (if gn = g.gen then 0 else 10) else 11
def KnownPost (w : World) (g : GroupC) (v : Value) (L : List OneV) (m gn : Int) (e : Ending) (w' : World) : Prop :=
  K0 w w' ∧ ∃ p, e = .returned (.tuple #[.pointer p, .int .i64 (knownE g m gn)]) ∧ (knownE g m gn = 0 → ∃ (i : Nat) (hi : i < L.length) (r cap : Nat), L[i].member = m ∧ v = .slice (some ⟨r, 0, none⟩) L.length cap ∧ p = some ⟨r, i * 5, none⟩)
set_option maxRecDepth 100000 in
set_option maxHeartbeats 1000000 in
theorem known_any (w : World) (F : Nat → Prop) (b : Nat) (g : GroupC) (v : Value) (L : List OneV) (m gn : Int) (h : GrpAt w F b g v L) (hw : WfG g) (hm : -9223372036854775808 ≤ m ∧ m ≤ 9223372036854775807) :
    Calls Tryz.prog 71 #[.pointer (some ⟨b, 0, none⟩), .int .i64 m, .int .i64 gn] w fun e w' => KnownPost w g v L m gn e w' := by
  have hlen : L.length ≤ 20 := by rw [← h.glen]; exact hw.len
  have HF := Lib.hid (find_any w F b g v L m h (h.rise hw) hm (by omega))
  have HH := Lib.hid h
  have hx : w.cell? ⟨b, 3, none⟩ = some (.int .i64 g.gen) := block_cell h.blk 3
  have hb := block_lt h.blk
  clear h hw hm
  go_enter Tryz.func71, Tryz.ntmps71
  go_wp2_with fail
  refine HF.out.mono ?_
  rintro e w1 ⟨hk, ⟨i, hi, r, cap, e1, e2, rfl⟩ | ⟨e1, rfl⟩⟩
  · have hx1 := hk.cell' hx (fun e => e)
    have hb1 := Nat.lt_of_lt_of_le hb hk.size
    have HK := Lib.hid hk
    have HS := Lib.hid (HH.out.has hi e1)
    have HE1 := Lib.hid e1
    have HE2 := Lib.hid e2
    clear hk e1 e2
    by_cases hg : gn = g.gen
    · subst hg
      have h9 : (g.gen != g.gen) = false := by simp
      have HE : Hid (knownE g m g.gen = 0) := by show _ = _; unfold knownE; rw [if_pos HS.out, if_pos rfl]
      generalize hgg : g.gen = gg at hx1 h9 HE
      have HGG := Lib.hid hgg
      clear hgg
      go_wp2
      go_ret2
      refine ⟨HK.out, _, ?_, fun _ => ⟨i, hi, r, cap, HE1.out, HE2.out, rfl⟩⟩
      rw [HGG.out, HE.out]
      rfl
    · have HE : Hid (knownE g m gn = 10) := by show _ = _; unfold knownE; rw [if_pos HS.out, if_neg hg]
      have h9 : (gn != g.gen) = true := by simpa using hg
      clear hg
      generalize g.gen = gg at hx1 h9
      go_wp2
      go_ret2
      refine ⟨HK.out, none, ?_, fun e => ?_⟩
      · rw [HE.out]; rfl
      · rw [HE.out] at e; cases e
  · have HE : Hid (knownE g m gn = 11) := by show _ = _; unfold knownE; rw [if_neg (by rw [HH.out.hasnt e1]; simp)]
    have HK := Lib.hid hk
    clear e1 hk
    go_wp2
    go_ret2
    refine ⟨HK.out, none, ?_, fun e => ?_⟩
    · rw [HE.out]; rfl
    · rw [HE.out] at e; cases e
/-- What Knows answers. -/
def knowsE (g : GroupC) (m gn : Int) : Int := if knownE g m gn = 0 then (if g.phase = 1 then 13 else 0) else knownE g m gn
set_option maxRecDepth 100000 in
set_option maxHeartbeats 1000000 in
theorem knows_any (w : World) (F : Nat → Prop) (b : Nat) (g : GroupC) (m gn : Int) (h : Grp w F b g) (hw : WfG g) (hm : -9223372036854775808 ≤ m ∧ m ≤ 9223372036854775807) :
    Calls Tryz.prog 48 #[.pointer (some ⟨b, 0, none⟩), .int .i64 m, .int .i64 gn] w fun e w' => Same w e (.int .i64 (knowsE g m gn)) w' := by
  obtain ⟨v, L, h⟩ := h
  have HF := Lib.hid (known_any w F b g v L m gn h hw hm)
  have hx : w.cell? ⟨b, 2, none⟩ = some (.int .i64 g.phase) := block_cell h.blk 2
  have hb := block_lt h.blk
  have HQ : Hid (knowsE g m gn = if knownE g m gn = 0 then (if g.phase = 1 then 13 else 0) else knownE g m gn) := rfl
  clear h hw hm
  generalize knowsE g m gn = ke at HQ ⊢
  unfold KnownPost at HF
  generalize knownE g m gn = kn at HQ HF
  generalize g.phase = ph at hx HQ
  go_enter Tryz.func48, Tryz.ntmps48
  go_wp2_with fail
  refine HF.out.mono ?_
  rintro e w1 ⟨hk, p, rfl, _⟩
  have hx1 := hk.cell' hx (fun e => e)
  have hb1 := Nat.lt_of_lt_of_le hb hk.size
  have HK := Lib.hid hk
  clear hk
  by_cases h0 : kn = 0
  · subst h0
    by_cases h1 : ph = 1
    · subst h1
      have HR : Hid (ke = 13) := by show _ = _; rw [HQ.out]; rfl
      go_wp2
      go_ret
      exact ⟨by rw [HR.out]; rfl, HK.out⟩
    · have h1' : (ph == 1) = false := by simpa using h1
      have HR : Hid (ke = 0) := by show _ = _; rw [HQ.out, if_pos rfl, if_neg h1]
      clear h1
      go_wp2
      go_ret
      exact ⟨by rw [HR.out]; rfl, HK.out⟩
  · have h0' : (kn == 0) = false := by simpa using h0
    have HR : Hid (ke = kn) := by show _ = _; rw [HQ.out, if_neg h0]
    clear h0
    go_wp2
    go_ret
    exact ⟨by rw [HR.out]; rfl, HK.out⟩
end Go.Proofs.YtklhlffdpojkoaaGreat

/-
  A member that beats, one that leaves.
-/
namespace Go.Proofs.YtklhlffdpojkoaaGreat
open Go.RowKit Go.Shelf Fx

/-- Behind a change of the members' row in its place. -/
theorem GrpAt.rowset {w w' : World} {F : Nat → Prop} {b : Nat} {g g' : GroupC} {v : Value} {L L' : List OneV} (h : GrpAt w F b g v L) (hk : Keeps (fun k => v.ownBlock = some k) w w') (hrow : w'.ownsRow 0 94 5 v L'.length (L'.flatMap oneEnc)) (hones : L'.map OneV.core = g'.ones) (hc : gCells g' v = gCells g v)
    (hs : ∀ x ∈ L', ∃ y ∈ L, x.tv = y.tv ∧ x.topics = y.topics ∧ x.pv = y.pv ∧ x.parts = y.parts) : GrpAt w' F b g' v L' :=
  ⟨by rw [hc]; exact (hk.block b (block_lt h.blk) (fun e => (h.own b e).2 rfl)).trans h.blk, hrow, h.fb, fun k e => Nat.lt_of_lt_of_le (h.lt k e) hk.size, h.own, hones, fun x hx => by
    obtain ⟨y, hy, e1, e2, e3, e4⟩ := hs x hx
    rw [e1, e2, e3, e4]
    exact ⟨(h.out y hy).1.keep still_str hk (fun k _ e => e.2.2) (fun _ _ e => e), (h.out y hy).2.keep still_part hk (fun k _ e => e.2.2) (fun _ _ e => e)⟩⟩
def touchO (m t : Int) (o : OneC) : OneC := if o.member = m then { o with til := t } else o
def touchG (g : GroupC) (m t : Int) : GroupC := { g with ones := g.ones.map (touchO m t) }
/-- What is done to the one member of a number. -/
theorem modify_core {L : List OneV} (hr : RiseM L) {m : Int} {i : Nat} (hi : i < L.length) (e : L[i].member = m) (f : OneV → OneV) (f' : OneC → OneC) (hf : ∀ x, (f x).core = f' x.core) :
    (L.modify i f).map OneV.core = (L.map OneV.core).map fun o => if o.member = m then f' o else o := by
  apply List.ext_getElem
  · simp
  · intro k h1 h2
    have hk : k < L.length := by simpa using h1
    simp only [List.getElem_map, List.getElem_modify]
    by_cases e2 : i = k
    · subst e2
      rw [if_pos rfl, hf]
      rw [if_pos (show L[i].core.member = m from e)]
    · rw [if_neg e2, if_neg]
      intro e3
      have e3 : L[k].member = m := e3
      rcases Nat.lt_or_ge i k with h | h
      · have := hr.rise i k hi hk h; omega
      · have := hr.rise k i hk hi (by omega); omega
theorem GrpAt.touch {w : World} {F : Nat → Prop} {b r cap : Nat} {g : GroupC} {L : List OneV} (h : GrpAt w F b g (.slice (some ⟨r, 0, none⟩) L.length cap) L) (hr : RiseM L) {m : Int} {i : Nat} (hi : i < L.length) (e : L[i].member = m) (t : Int) :
    GrpAt (w.setCell ⟨r, i * 5 + 2, none⟩ (.int .i64 t)) F b (touchG g m t) (.slice (some ⟨r, 0, none⟩) L.length cap) (L.modify i fun x => { x with til := t }) := by
  have h1 := (h.row.stored (i * 5 + 2) (.int .i64 t)).1
  rw [flat_set' oneEnc 5 oneEnc_len (fun x => { x with til := t }) 2 (.int .i64 t) (by omega) (fun _ => rfl) L i hi] at h1
  refine h.rowset ((Keeps.refl _ w).setC _ _ (fun _ => rfl)) (by rw [List.length_modify]; exact h1) ?_ rfl fun x hx => ?_
  · rw [modify_core hr hi e _ (fun o => { o with til := t }) (fun _ => rfl), h.ones]
    rfl
  · obtain ⟨k, hk, rfl⟩ := List.mem_iff_getElem.1 hx
    have hk' : k < L.length := by simpa using hk
    refine ⟨L[k], List.getElem_mem hk', ?_⟩
    rw [List.getElem_modify]
    split <;> exact ⟨rfl, rfl, rfl, rfl⟩
def beatE (g : GroupC) (m gn now : Int) : Int := if timeOk now then (if knownE g m gn = 0 then (if g.phase = 3 then 0 else 13) else knownE g m gn) else 1
def beatG (g : GroupC) (m gn now : Int) : GroupC := if timeOk now then (if knownE g m gn = 0 then touchG g m (now + g.session) else g) else g
set_option maxRecDepth 100000 in
set_option maxHeartbeats 2000000 in
theorem beat_any (w : World) (F : Nat → Prop) (b : Nat) (g : GroupC) (m gn now : Int) (h : Grp w F b g) (hw : WfG g) (hm : -9223372036854775808 ≤ m ∧ m ≤ 9223372036854775807) :
    Calls Tryz.prog 46 #[.pointer (some ⟨b, 0, none⟩), .int .i64 m, .int .i64 gn, .int .i64 now] w fun e w' => e = .returned (.int .i64 (beatE g m gn now)) ∧ GrpPost w F b (beatG g m gn now) w' := by
  obtain ⟨v, L, h⟩ := h
  have HT := Lib.hid (isTime_any now w)
  have HK := Lib.hid (fun (wx : World) (hk : K0 w wx) => known_any wx F b g v L m gn (h.keep hk fun _ _ e => e) hw hm)
  have HR := Lib.hid (h.rise hw)
  have HS := Lib.hid hw.ses
  have HH := Lib.hid h
  clear h hw hm
  cases ht : timeOk now with
  | false =>
    have HE : Hid (beatE g m gn now = 1) := by show _ = _; unfold beatE; rw [if_neg (by rw [ht]; simp)]
    have HG : Hid (beatG g m gn now = g) := by show _ = _; unfold beatG; rw [if_neg (by rw [ht]; simp)]
    rw [ht] at HT
    clear ht
    go_enter Tryz.func46, Tryz.ntmps46
    go_wp2_with fail
    refine HT.out.mono ?_
    rintro e w1 ⟨rfl, hk⟩
    go_wp2
    go_ret
    rw [HE.out, HG.out]
    exact ⟨rfl, F, ⟨v, L, HH.out.keep hk fun _ _ e => e⟩, fun k e => .inl e, hk.mono fun _ _ e => e.elim⟩
  | true =>
    have hn := time_yes ht
    have HTT := Lib.hid ht
    rw [ht] at HT
    clear ht
    go_enter Tryz.func46, Tryz.ntmps46
    go_wp2_with fail
    refine HT.out.mono ?_
    rintro e w1 ⟨rfl, hk1⟩
    have HK1 := Lib.hid hk1
    go_wp2_with fail
    refine (HK.out _ hk1).mono ?_
    rintro e w2 ⟨hk2, p, rfl, hp⟩
    have HK2 := Lib.hid (K0.tr hk1 hk2)
    have HP := Lib.hid hp
    clear hk1 hk2 hp
    by_cases h0 : knownE g m gn = 0
    · obtain ⟨i, hi, r, cap, e1, rfl, rfl⟩ := HP.out h0
      have hg2 := HH.out.keep HK2.out fun _ _ e => e
      have HT2 := Lib.hid (hg2.touch HR.out hi e1 (now + g.session))
      have cs : w2.cell? ⟨b, 0, none⟩ = some (.int .i64 g.session) := block_cell hg2.blk 0
      have cp : w2.cell? ⟨b, 2, none⟩ = some (.int .i64 g.phase) := block_cell hg2.blk 2
      obtain ⟨_, _, ct, _, _⟩ := hg2.cell rfl i hi
      have cf := hg2.row.frozenAt (i * 5 + 2)
      have hb2 := block_lt hg2.blk
      have hr2 := own_lt hg2.row rfl
      have hrb : r ≠ b := (hg2.own r rfl).2
      have hbr : b ≠ r := fun e => hrb e.symm
      have hs := HS.out
      have HKF : Hid (Keeps F w (w2.setCell ⟨r, i * 5 + 2, none⟩ (.int .i64 (now + g.session)))) := (HK2.out.mono fun _ _ e => e.elim).setC _ _ (fun _ => (hg2.own r rfl).1)
      have HG : Hid (beatG g m gn now = touchG g m (now + g.session)) := by show _ = _; unfold beatG; rw [if_pos HTT.out, if_pos h0]
      have HE : Hid (beatE g m gn now = if g.phase = 3 then 0 else 13) := by show _ = _; unfold beatE; rw [if_pos HTT.out, if_pos h0]
      rw [h0]
      clear hg2 e1 h0 HP
      generalize L[i].til = tl at ct
      generalize hss : g.session = ss at cs hs HKF HG HT2
      generalize g.phase = ph at cp HE
      clear hss
      by_cases h3 : ph = 3
      · subst h3
        have HE3 : Hid (beatE g m gn now = 0) := by show _ = _; rw [HE.out, if_pos rfl]
        go_wp2
        go_ret
        rw [HE3.out, HG.out]
        exact ⟨rfl, F, ⟨_, _, HT2.out⟩, fun k e => .inl e, HKF.out⟩
      · have h3' : (ph != 3) = true := by simpa using h3
        have HE3 : Hid (beatE g m gn now = 13) := by show _ = _; rw [HE.out, if_neg h3]
        clear h3
        go_wp2
        go_ret
        rw [HE3.out, HG.out]
        exact ⟨rfl, F, ⟨_, _, HT2.out⟩, fun k e => .inl e, HKF.out⟩
    · have HE : Hid (beatE g m gn now = knownE g m gn) := by show _ = _; unfold beatE; rw [if_pos HTT.out, if_neg h0]
      have HG : Hid (beatG g m gn now = g) := by show _ = _; unfold beatG; rw [if_pos HTT.out, if_neg h0]
      have h0' : (knownE g m gn != 0) = true := by simpa using h0
      clear h0 HP
      generalize knownE g m gn = ke at HE h0'
      go_wp2
      go_ret
      rw [HE.out, HG.out]
      exact ⟨rfl, F, ⟨v, L, HH.out.keep HK2.out fun _ _ e => e⟩, fun k e => .inl e, HK2.out.mono fun _ _ e => e.elim⟩
def leaveE (g : GroupC) (m now : Int) : Int := if timeOk now then (if hasM g m then 0 else 11) else 1
def leaveG (g : GroupC) (m now : Int) : GroupC := if timeOk now then (if hasM g m then dropG g now (fun o => o.member == m) else g) else g
set_option maxRecDepth 100000 in
set_option maxHeartbeats 2000000 in
theorem leave_any (w : World) (F : Nat → Prop) (b : Nat) (g : GroupC) (m now : Int) (h : Grp w F b g) (hw : WfG g) (hm : -9223372036854775808 ≤ m ∧ m ≤ 9223372036854775807) :
    Calls Tryz.prog 47 #[.pointer (some ⟨b, 0, none⟩), .int .i64 m, .int .i64 now] w fun e w' => e = .returned (.int .i64 (leaveE g m now)) ∧ GrpPost w F b (leaveG g m now) w' := by
  obtain ⟨v, L, h⟩ := h
  have hlen : L.length ≤ 20 := by rw [← h.glen]; exact hw.len
  have HT := Lib.hid (isTime_any now)
  have HFI := Lib.hid (fun (wx : World) (hk : K0 w wx) => find_any wx F b g v L m (h.keep hk fun _ _ e => e) (h.rise hw) hm (by omega))
  have HD := Lib.hid (fun (wx : World) (hk : K0 w wx) (hn : 0 ≤ now ∧ now ≤ 1099511627776) (hc : wx.cell? ⟨w.heap.size, 0, none⟩ = some (.int .i64 m)) => drop_any wx F b g v L now 79 #[.pointer (some ⟨w.heap.size, 0, none⟩)] (fun x => x.member == m) (fun o => o.member == m) (h.keep hk fun _ _ e => e) (by omega) hn ⟨by have := hw.reb; omega, hw.reb.2⟩ hw.gen enters_leave
    (fun w1 hk1 => tests_leave (hk1.cell' hc (fun e => by have := (h.row.lt _ e).2; exact Nat.lt_irrefl _ this))) (fun _ => rfl))
  have HH := Lib.hid h
  clear h hw hm
  cases ht : timeOk now with
  | false =>
    have HE : Hid (leaveE g m now = 1) := by show _ = _; unfold leaveE; rw [if_neg (by rw [ht]; simp)]
    have HG : Hid (leaveG g m now = g) := by show _ = _; unfold leaveG; rw [if_neg (by rw [ht]; simp)]
    rw [ht] at HT
    clear ht
    go_enter Tryz.func47, Tryz.ntmps47
    go_wp2_with fail
    refine (HT.out _).mono ?_
    rintro e w1 ⟨rfl, hk⟩
    have HK := Lib.hid (((Keeps.refl (fun _ => False) w).alloc (.cells #[.int .i64 m] 3)).trans hk fun _ _ e => e)
    clear hk
    go_wp2
    go_ret
    rw [HE.out, HG.out]
    exact ⟨rfl, F, ⟨v, L, HH.out.keep HK.out fun _ _ e => e⟩, fun k e => .inl e, HK.out.mono fun _ _ e => e.elim⟩
  | true =>
    have hn := time_yes ht
    have HTT := Lib.hid ht
    rw [ht] at HT
    clear ht
    go_enter Tryz.func47, Tryz.ntmps47
    go_wp2_with fail
    refine (HT.out _).mono ?_
    rintro e w1 ⟨rfl, hk⟩
    have hc1 : w1.cell? ⟨w.heap.size, 0, none⟩ = some (.int .i64 m) := hk.cell' (block_cell (heap_new w (.cells #[.int .i64 m] 3) _ rfl) 0) (fun e => e)
    have HK := Lib.hid (((Keeps.refl (fun _ => False) w).alloc (.cells #[.int .i64 m] 3)).trans hk fun _ _ e => e)
    have hs1 := cell_block1 hc1
    clear hk
    go_wp2_with fail
    refine (HFI.out _ HK.out).mono ?_
    rintro e w2 ⟨hk2, ⟨i, hi, r, cap, e1, e2, rfl⟩ | ⟨e1, rfl⟩⟩
    · have HS := Lib.hid (HH.out.has hi e1)
      have hc2 := hk2.cell' hc1 (fun e => e)
      have HK2 := Lib.hid (K0.tr HK.out hk2)
      have HE : Hid (leaveE g m now = 0) := by show _ = _; unfold leaveE; rw [if_pos HTT.out, if_pos HS.out]
      have HG : Hid (leaveG g m now = dropG g now (fun o => o.member == m)) := by show _ = _; unfold leaveG; rw [if_pos HTT.out, if_pos HS.out]
      clear e1 e2 hk2 hc1 hs1
      have HC2 := Lib.hid hc2
      go_wp2_with fail
      refine (HD.out _ HK2.out hn HC2.out).mono ?_
      rintro e w3 ⟨rfl, hq⟩
      have HQ := Lib.hid (GrpPost.trans (fun k e => .inl e) (HK2.out.mono fun _ _ e => e.elim) hq)
      clear hq
      go_wp2
      go_ret
      rw [HE.out, HG.out]
      exact ⟨rfl, HQ.out⟩
    · have HS := Lib.hid (HH.out.hasnt e1)
      have HK2 := Lib.hid (K0.tr HK.out hk2)
      have HE : Hid (leaveE g m now = 11) := by show _ = _; unfold leaveE; rw [if_pos HTT.out, if_neg (by rw [HS.out]; simp)]
      have HG : Hid (leaveG g m now = g) := by show _ = _; unfold leaveG; rw [if_pos HTT.out, if_neg (by rw [HS.out]; simp)]
      clear e1 hk2 hc1
      go_wp2
      go_ret
      rw [HE.out, HG.out]
      exact ⟨rfl, F, ⟨v, L, HH.out.keep HK2.out fun _ _ e => e⟩, fun k e => .inl e, HK2.out.mono fun _ _ e => e.elim⟩
end Go.Proofs.YtklhlffdpojkoaaGreat

/-
  A member joins: what it comes to.
-/
namespace Go.Proofs.YtklhlffdpojkoaaGreat
open Go.RowKit Go.Shelf Fx

def nextM (g : GroupC) (m : Int) : Int := if m = -1 then g.next else m
def addG (g : GroupC) (m : Int) : GroupC := if m = -1 then { g with next := g.next + 1, ones := g.ones ++ [⟨g.next, [], 0, false, []⟩] } else g
def startG (g : GroupC) (now : Int) : GroupC := if g.phase = 1 then g else anewG g now
def setO (m : Int) (topics : List ByteArray) (t : Int) (o : OneC) : OneC := if o.member = m then { o with topics := topics, joined := true, til := t } else o
def setG (g : GroupC) (m : Int) (topics : List ByteArray) (t : Int) : GroupC := { g with ones := g.ones.map (setO m topics t) }
def finG (g : GroupC) (now : Int) : GroupC := if g.ones.all (·.joined) then closeG g now else g
def joinG (g : GroupC) (m : Int) (topics : List ByteArray) (now : Int) : GroupC := finG (setG (startG (addG g m) now) (nextM g m) topics (now + g.session)) now
def joinBad (m : Int) (topics : List ByteArray) (now : Int) : Bool := !timeOk now || decide (m < -1) || !(chk [⟨0, topics⟩] [] == 0)
def joinE (g : GroupC) (m : Int) (topics : List ByteArray) (now : Int) : Int :=
  if joinBad m topics now then 1 else if !(m == -1) && !hasM g m then 11 else if m == -1 && decide (20 ≤ g.ones.length) then 5 else 0
theorem anewG_len (g : GroupC) (now : Int) : (anewG g now).ones.length = g.ones.length := by
  unfold anewG
  split
  · rfl
  · simp
theorem anewG_member (g : GroupC) (now : Int) (i : Nat) (hi : i < (anewG g now).ones.length) : (anewG g now).ones[i].member = (g.ones[i]'(by rw [← anewG_len g now]; exact hi)).member := by
  unfold anewG at hi ⊢
  split
  · rfl
  · simp [freeO]
theorem WfG.same {g g' : GroupC} (h : WfG g) (hl : g'.ones.length = g.ones.length) (hm : ∀ i (hi : i < g'.ones.length), g'.ones[i].member = (g.ones[i]'(by omega)).member) (h1 : g'.session = g.session) (h2 : g'.rebalance = g.rebalance) (h3 : g'.next = g.next) (h4 : 0 ≤ g'.gen ∧ g'.gen ≤ 1152921504606846976) : WfG g' :=
  ⟨fun i j hi hj hij => by rw [hm i hi, hm j hj]; exact h.rise i j _ _ hij, fun i hi => by rw [hm i hi, h3]; exact h.wf i _, by rw [hl]; exact h.len, by rw [h1]; exact h.ses, by rw [h2]; exact h.reb, by rw [h3]; exact h.next, h4⟩
theorem anewG_head (g : GroupC) (now : Int) : (anewG g now).session = g.session ∧ (anewG g now).rebalance = g.rebalance ∧ (anewG g now).next = g.next ∧ (anewG g now).gen = g.gen := by
  unfold anewG
  split <;> exact ⟨rfl, rfl, rfl, rfl⟩
theorem WfG.anew {g : GroupC} (h : WfG g) (now : Int) : WfG (anewG g now) :=
  h.same (anewG_len g now) (anewG_member g now) (anewG_head g now).1 (anewG_head g now).2.1 (anewG_head g now).2.2.1 (by rw [(anewG_head g now).2.2.2]; exact h.gen)
theorem WfG.start {g : GroupC} (h : WfG g) (now : Int) : WfG (startG g now) := by
  unfold startG
  split
  · exact h
  · exact h.anew now
theorem WfG.add {g : GroupC} (h : WfG g) (m : Int) (hl : m = -1 → g.ones.length < 20) (hn : g.next + 1 ≤ 1152921504606846976) : WfG (addG g m) := by
  unfold addG
  split
  · rename_i hm
    have h20 := hl hm
    have hx := h.next
    refine ⟨fun i j hi hj hij => ?_, fun i hi => ?_, by simp; omega, h.ses, h.reb, ⟨by show 0 ≤ g.next + 1; omega, hn⟩, h.gen⟩
    · have hi' : i < g.ones.length := by simp at hi hj; omega
      have e1 : (g.ones ++ [(⟨g.next, [], 0, false, []⟩ : OneC)])[i]'(by simp; omega) = g.ones[i] := List.getElem_append_left hi'
      by_cases hj' : j < g.ones.length
      · have e2 : (g.ones ++ [(⟨g.next, [], 0, false, []⟩ : OneC)])[j]'(by simp; omega) = g.ones[j] := List.getElem_append_left hj'
        show ((g.ones ++ [(⟨g.next, [], 0, false, []⟩ : OneC)])[i]'_).member < ((g.ones ++ [(⟨g.next, [], 0, false, []⟩ : OneC)])[j]'_).member
        rw [e1, e2]
        exact h.rise i j hi' hj' hij
      · have e3 : j = g.ones.length := by simp at hj; omega
        subst e3
        have e2 : (g.ones ++ [(⟨g.next, [], 0, false, []⟩ : OneC)])[g.ones.length]'(by simp) = ⟨g.next, [], 0, false, []⟩ := by simp
        show ((g.ones ++ [(⟨g.next, [], 0, false, []⟩ : OneC)])[i]'_).member < ((g.ones ++ [(⟨g.next, [], 0, false, []⟩ : OneC)])[g.ones.length]'_).member
        rw [e1, e2]
        exact (h.wf i hi').2
    · show 0 ≤ ((g.ones ++ [(⟨g.next, [], 0, false, []⟩ : OneC)])[i]'_).member ∧ ((g.ones ++ [(⟨g.next, [], 0, false, []⟩ : OneC)])[i]'_).member < g.next + 1
      by_cases hi' : i < g.ones.length
      · rw [List.getElem_append_left hi']
        have := h.wf i hi'
        omega
      · rw [List.getElem_append_right (by omega)]
        simp
        omega
  · exact h
theorem has_start {g : GroupC} {m now : Int} (h : hasM g m = true) : hasM (startG g now) m = true := by
  unfold startG
  split
  · exact h
  · unfold hasM at h ⊢
    rw [List.any_eq_true] at h ⊢
    obtain ⟨x, hx, hm⟩ := h
    obtain ⟨i, hi, rfl⟩ := List.mem_iff_getElem.1 hx
    have hi' : i < (anewG g now).ones.length := by rw [anewG_len]; exact hi
    exact ⟨_, List.getElem_mem hi', by rw [anewG_member]; exact hm⟩
theorem has_add {g : GroupC} {m : Int} (h : m = -1 ∨ hasM g m = true) : hasM (addG g m) (nextM g m) = true := by
  unfold addG nextM
  by_cases e : m = -1
  · rw [if_pos e, if_pos e]
    simp [hasM]
  · rw [if_neg e, if_neg e]
    exact h.resolve_left e
/-- A member of no topics is put behind the others. -/
theorem GrpAt.add {w w1 : World} {F : Nat → Prop} {b g1 cap1 : Nat} {g : GroupC} {v : Value} {L : List OneV} {o : Obj} (h : GrpAt w F b g v L)
    (hA : App1 ((w.setCell ⟨b, 4, none⟩ (.int .i64 (g.next + 1))).alloc o) 0 94 5 v L.length (L.flatMap oneEnc ++ [.int .i64 g.next, .slice none 0 0, .int .i64 0, .bool false, .slice none 0 0]) g1 cap1 w1) :
    GrpPost w F b (addG g (-1)) (w1.setCell ⟨b, 6, none⟩ (.slice (some ⟨g1, 0, none⟩) (L.length + 1) cap1)) := by
  have hbl := block_lt h.blk
  have hvb : ∀ k, v.ownBlock = some k → k ≠ b := fun k e => (h.own k e).2
  have hk1 : Keeps (fun k => k = b ∨ v.ownBlock = some k) w w1 := (((Keeps.refl (fun k => k = b ∨ v.ownBlock = some k) w).setC 4 (.int .i64 (g.next + 1)) (fun _ => .inl rfl)).alloc o).grown hA.grown (fun k e _ => .inr e)
  have hb1 : w1.heap[b]? = some (.cells (gCells { g with next := g.next + 1 } v) 107 (0, 0)) := by
    rw [hA.grown.block b (by simp; omega) (fun e => hvb b e.symm rfl)]
    exact block_alloc (setCell_block h.blk 4 _) o
  have hk2 := hk1.setC 6 (.slice (some ⟨g1, 0, none⟩) (L.length + 1) cap1) (b := b) (fun _ => .inl rfl)
  have hg1b : g1 ≠ b := by
    rcases hA.at_ with e | e
    · exact hvb g1 e
    · simp at e; omega
  have hrow := own_keep ((Keeps.refl (fun k => k = b) w1).setC 6 (.slice (some ⟨g1, 0, none⟩) (L.length + 1) cap1) (b := b) (fun _ => rfl)) hA.own (fun k e => by simp [Value.ownBlock] at e; omega)
  have hst := h.step (g' := addG g (-1)) (v' := .slice (some ⟨g1, 0, none⟩) (L.length + 1) cap1) (L' := L ++ [⟨g.next, .slice none 0 0, 0, false, .slice none 0 0, [], []⟩]) hk2 (fun k e => e) (by
      have := setCell_block hb1 6 (.slice (some ⟨g1, 0, none⟩) (L.length + 1) cap1)
      unfold addG
      rw [if_pos rfl]
      exact this) (by
      rw [List.length_append, List.flatMap_append]
      exact hrow) (fun k e => by
      have e1 : g1 = k := by simpa [Value.ownBlock] using e
      subst e1
      rcases hA.at_ with e2 | e2
      · exact .inl e2
      · right; simp at e2; omega) (by
      unfold addG
      rw [if_pos rfl, List.map_append, h.ones]
      rfl) (fun x hx => by
      rcases List.mem_append.1 hx with hx | hx
      · exact .inl ⟨x, hx, rfl, rfl⟩
      · rw [List.mem_singleton] at hx
        subst hx
        exact .inr (Out.nil _ _ _ _)) (fun x hx => by
      rcases List.mem_append.1 hx with hx | hx
      · exact .inl ⟨x, hx, rfl, rfl⟩
      · rw [List.mem_singleton] at hx
        subst hx
        exact .inr (Out.nil _ _ _ _))
  exact ⟨_, ⟨_, _, hst⟩, fun k e => e.elim .inl fun e => .inr e.1, hk2.mono fun k _ e => e.elim (fun e => e ▸ h.fb) fun e => (h.own k e).1⟩
/-- One member's topics are set, behind a copy of them. -/
theorem GrpAt.setOne {w w1 : World} {F : Nat → Prop} {b r cap : Nat} {g : GroupC} {L : List OneV} (h : GrpAt w F b g (.slice (some ⟨r, 0, none⟩) L.length cap) L) (hr : RiseM L) {m : Int} {i : Nat} (hi : i < L.length) (e : L[i].member = m) {tv : Value} {topics : List ByteArray} {t : Int}
    (hk : K0 w w1) (ht : Out 1 rStr w1 (fun k => w.heap.size ≤ k) tv topics) :
    GrpPost w F b (setG g m topics t) (((w1.setCell ⟨r, i * 5 + 1, none⟩ tv).setCell ⟨r, i * 5 + 3, none⟩ (.bool true)).setCell ⟨r, i * 5 + 2, none⟩ (.int .i64 t)) := by
  have hrl : r < w.heap.size := own_lt h.row rfl
  have hbl := block_lt h.blk
  have h0 := own_keep hk h.row (fun _ _ e => e)
  have h1 := (((h0.stored (i * 5 + 1) tv).1.stored (i * 5 + 3) (.bool true)).1.stored (i * 5 + 2) (.int .i64 t)).1
  rw [flat_set' oneEnc 5 oneEnc_len (fun x => { x with tv := tv, topics := topics }) 1 tv (by omega) (fun _ => rfl) L i hi,
    flat_set' oneEnc 5 oneEnc_len (fun x => { x with joined := true }) 3 (.bool true) (by omega) (fun _ => rfl) _ i (by simpa using hi),
    flat_set' oneEnc 5 oneEnc_len (fun x => { x with til := t }) 2 (.int .i64 t) (by omega) (fun _ => rfl) _ i (by simpa using hi), List.modify_modify_eq, List.modify_modify_eq] at h1
  have hks : Keeps (fun k => k = r) w1 (((w1.setCell ⟨r, i * 5 + 1, none⟩ tv).setCell ⟨r, i * 5 + 3, none⟩ (.bool true)).setCell ⟨r, i * 5 + 2, none⟩ (.int .i64 t)) :=
    (((Keeps.refl (fun k => k = r) w1).setC _ _ (fun _ => rfl)).setC _ _ (fun _ => rfl)).setC _ _ (fun _ => rfl)
  have hk2 : Keeps (fun k => (Value.slice (some ⟨r, 0, none⟩) L.length cap).ownBlock = some k) w (((w1.setCell ⟨r, i * 5 + 1, none⟩ tv).setCell ⟨r, i * 5 + 3, none⟩ (.bool true)).setCell ⟨r, i * 5 + 2, none⟩ (.int .i64 t)) :=
    (hk.mono fun _ _ e => e.elim).trans hks fun k _ e => by subst e; rfl
  have ht2 : Out 1 rStr (((w1.setCell ⟨r, i * 5 + 1, none⟩ tv).setCell ⟨r, i * 5 + 3, none⟩ (.bool true)).setCell ⟨r, i * 5 + 2, none⟩ (.int .i64 t)) (fun k => w.heap.size ≤ k ∧ k ≠ b ∧ (Value.slice (some ⟨r, 0, none⟩) L.length cap).ownBlock ≠ some k) tv topics :=
    ht.keep still_str hks (fun k _ e1 e2 => by
      have e1 : w.heap.size ≤ k := e1
      have e2 : k = r := e2
      omega) (fun k _ e1 => by
      have e1 : w.heap.size ≤ k := e1
      refine ⟨e1, by omega, fun e2 => ?_⟩
      have : r = k := by simpa [Value.ownBlock] using e2
      omega)
  have hst := h.step (g' := setG g m topics t) (v' := .slice (some ⟨r, 0, none⟩) L.length cap) (L' := L.modify i fun x => { x with tv := tv, topics := topics, joined := true, til := t }) (hk2.mono (S1 := fun k => k = b ∨ (Value.slice (some ⟨r, 0, none⟩) L.length cap).ownBlock = some k) fun _ _ e => .inr e) (fun k e => e)
    ((hk2.block b hbl (fun e => (h.own b e).2 rfl)).trans h.blk) (by rw [List.length_modify]; exact h1) (fun k e => .inl e) (by
      rw [modify_core hr hi e _ (fun o => { o with topics := topics, joined := true, til := t }) (fun _ => rfl), h.ones]
      rfl) (fun x hx => by
      obtain ⟨k, hkk, rfl⟩ := List.mem_iff_getElem.1 hx
      have hk' : k < L.length := by simpa using hkk
      rw [List.getElem_modify]
      split
      · exact .inr ht2
      · exact .inl ⟨L[k], List.getElem_mem hk', rfl, rfl⟩) (fun x hx => by
      obtain ⟨k, hkk, rfl⟩ := List.mem_iff_getElem.1 hx
      have hk' : k < L.length := by simpa using hkk
      refine .inl ⟨L[k], List.getElem_mem hk', ?_⟩
      rw [List.getElem_modify]
      split <;> exact ⟨rfl, rfl⟩)
  exact ⟨_, ⟨_, _, hst⟩, fun k e => e.elim .inl fun e => .inr e.1, hk2.mono fun k _ e => (h.own k e).1⟩
end Go.Proofs.YtklhlffdpojkoaaGreat
