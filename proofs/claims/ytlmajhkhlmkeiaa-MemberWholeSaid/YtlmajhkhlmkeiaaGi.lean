/-
  A group lets members go of which something holds.
-/
import Derived.Test.YtlmajhkhlmkeiaaGh
namespace Go.Proofs.Ytlmajhkhlmkeiaa
open Go.RowKit Go.Shelf Fx

def dropG (g : GroupC) (now : Int) (q : OneC → Bool) : GroupC :=
  if (filG g q).ones.length = g.ones.length then filG g q
  else if ¬ g.phase = 1 ∨ (filG g q).ones.length = 0 then anewG (filG g q) now
  else if (filG g q).ones.all (·.joined) then closeG (filG g q) now
  else filG g q
set_option maxRecDepth 100000 in
set_option maxHeartbeats 2000000 in
theorem drop_any (w : World) (F : Nat → Prop) (b : Nat) (g : GroupC) (v : Value) (L : List OneV) (now : Int) (c : Nat) (caps : Array Value) (p : OneV → Bool) (q : OneC → Bool) (h : GrpAt w F b g v L) (hl : L.length ≤ 1000) (hn : 0 ≤ now ∧ now ≤ 1099511627776) (hr : 0 ≤ g.rebalance ∧ g.rebalance ≤ 100000) (hg : 0 ≤ g.gen ∧ g.gen ≤ 1152921504606846976)
    (eg : ∀ args w, (callFunc c args).run Try.prog w = .ok (.enter c args) w) (hp : ∀ w1, Keeps (fun k => v.ownBlock = some k) w w1 → Tests c caps p w1) (hpq : ∀ x, p x = q x.core) :
    Calls Try.prog 31 #[.pointer (some ⟨b, 0, none⟩), .int .i64 now, .func (.func c) #[] caps] w fun e w' => e = .returned (.tuple #[]) ∧ GrpPost w F b (dropG g now q) w' := by
  have HD := Lib.hid (deleteFunc w v L c caps p h.row (h.rowV (by omega)) h.slices hl eg hp)
  have hx : w.cell? ⟨b, 6, none⟩ = some v := block_cell h.blk 6
  have hb := block_lt h.blk
  have HH := Lib.hid h
  have hfb := block_free h.blk 6
  have hvb : v.ownBlock ≠ some b := fun e => (h.own b e).2 rfl
  have hform0 : ∃ a cap, v = .slice a L.length cap := by
    rcases h.form with ⟨h1, h2⟩ | ⟨r, cap, h1, _⟩
    · rw [h1]; exact ⟨_, _, h2⟩
    · exact ⟨_, _, h1⟩
  obtain ⟨a0, cap0, rfl⟩ := hform0
  have HLN := Lib.hid h.glen
  have HPQ := Lib.hid hpq
  have HHR := Lib.hid hr
  have HHG := Lib.hid hg
  have HNW := Lib.hid hn
  clear h hp eg hpq hr hg hn
  generalize hll : L.length = ln at HD hx hl HLN hvb
  have HLL := Lib.hid hll
  clear hll
  go_enter Try.func31, Try.ntmps31
  go_wp2_with fail
  refine HD.out.mono ?_
  rintro e w1 ⟨v', rfl, hrow, hown, hk⟩
  have hGd := HH.out
  rw [HLL.out] at hGd
  obtain ⟨F', hG, hF', hkF⟩ := hGd.del (q := q) HPQ.out hrow hown hk
  clear hGd
  have hx1 := hk.cell' hx hvb
  have hf1 := (hk.frozen (p := ⟨b, 6, none⟩) hb hvb).trans hfb
  have hb1 := Nat.lt_of_lt_of_le hb hk.size
  have w2 : w1.cell? ⟨b, 2, none⟩ = some (.int .i64 g.phase) := hk.cell' (block_cell HH.out.blk 2) hvb
  have hform : ∃ a cap, v' = .slice a (L.filter fun x => !p x).length cap := by
    rcases hrow.2 with ⟨h1, h2⟩ | ⟨r, cap, cur, h1, _⟩
    · rw [h2]; exact ⟨_, _, h1⟩
    · exact ⟨_, _, h1⟩
  obtain ⟨a', cap', rfl⟩ := hform
  have hlen : (filG g q).ones.length = (L.filter fun x => !p x).length := hG.glen
  have HF' := Lib.hid hF'
  have hle : (L.filter fun x => !p x).length ≤ 1000 := Nat.le_trans (List.length_filter_le _ _) (by rw [HLL.out]; exact hl)
  clear hF' hrow hown hk hx
  generalize hLL : (L.filter fun x => !p x) = L' at hG hlen hle hkF ⊢
  clear hLL
  have HG := Lib.hid hG
  have HKF := Lib.hid hkF
  have HL := Lib.hid hlen
  have HFB := Lib.hid hG.fb
  have HPOST : Hid (∀ g2 wz, GrpPost (w1.setCell ⟨b, 6, none⟩ (.slice a' L'.length cap')) F' b g2 wz → GrpPost w F b g2 wz) := fun g2 wz hq => GrpPost.trans HF'.out HKF.out hq
  have HSELF : Hid (GrpPost w F b (filG g q) (w1.setCell ⟨b, 6, none⟩ (.slice a' L'.length cap'))) := ⟨F', ⟨_, _, HG.out⟩, HF'.out, HKF.out⟩
  have HA := Lib.hid (anew_any _ F' b (filG g q) _ L' now hG hle HNW.out HHR.out)
  have HC := Lib.hid (close_any _ F' b (filG g q) _ L' now hG hle HNW.out HHR.out HHG.out)
  have HM := Lib.hid (complete_any _ F' b (filG g q) _ L' hG hle)
  have HLE := Lib.hid hle
  clear hG hkF hlen
  generalize hnn : L'.length = n' at HA HC HM HPOST HSELF HL HG HKF hle ⊢
  have HNN := Lib.hid hnn
  clear hnn
  by_cases h1 : n' = ln
  · have HE : Hid (dropG g now q = filG g q) := if_pos (by rw [HL.out, HLN.out]; exact h1)
    subst h1
    go_wp2
    go_end0
    rw [HE.out]
    exact ⟨rfl, HSELF.out⟩
  · have HE1 : Hid (¬ (filG g q).ones.length = g.ones.length) := by rw [HL.out, HLN.out]; exact h1
    have h1' : ((n' : Int) == (ln : Int)) = false := beq_eq_false_iff_ne.2 (by omega)
    by_cases h2 : g.phase = 1
    · by_cases h3 : n' = 0
      · have HE : Hid (dropG g now q = anewG (filG g q) now) := by show _ = _; unfold dropG; rw [if_neg HE1.out, if_pos (.inr (HL.out.trans h3))]
        rw [h2] at w2
        subst h3
        go_wp2_with fail
        refine HA.out.mono ?_
        rintro e wz ⟨rfl, hq⟩
        (try go_wp2)
        go_end0
        rw [HE.out]
        exact ⟨rfl, HPOST.out _ _ hq⟩
      · have h3' : ((n' : Int) == 0) = false := beq_eq_false_iff_ne.2 (by omega)
        rw [h2] at w2
        cases h4 : (filG g q).ones.all (·.joined) with
        | true =>
          have HE : Hid (dropG g now q = closeG (filG g q) now) := by show _ = _; unfold dropG; rw [if_neg HE1.out, if_neg (by rw [HL.out]; omega), if_pos h4]
          rw [h4] at HM
          clear h4
          go_wp2_with fail
          refine HM.out.mono ?_
          rintro e wy ⟨rfl, hky⟩
          have HGY := HG.out.keep hky (fun _ _ e => e)
          have HC := Lib.hid (close_any _ F' b (filG g q) _ L' now HGY HLE.out HNW.out HHR.out HHG.out)
          have HPOST : Hid (∀ g2 wz, GrpPost wy F' b g2 wz → GrpPost w F b g2 wz) := fun g2 wz hq => HPOST.out _ _ (GrpPost.trans (fun k e => .inl e) (hky.mono fun _ _ e => e.elim) hq)
          clear HGY hky
          go_wp2_with fail
          refine HC.out.mono ?_
          rintro e wz ⟨rfl, hq⟩
          (try go_wp2)
          go_end0
          rw [HE.out]
          exact ⟨rfl, HPOST.out _ _ hq⟩
        | false =>
          have HE : Hid (dropG g now q = filG g q) := by show _ = _; unfold dropG; rw [if_neg HE1.out, if_neg (by rw [HL.out]; omega), if_neg (by rw [h4]; simp)]
          rw [h4] at HM
          clear h4
          go_wp2_with fail
          refine HM.out.mono ?_
          rintro e wy ⟨rfl, hky⟩
          have HSELF : Hid (GrpPost w F b (filG g q) wy) := ⟨F', ⟨_, _, HG.out.keep hky (fun _ _ e => e)⟩, HF'.out, HKF.out.trans hky fun _ _ e => e.elim⟩
          clear hky
          go_wp2
          go_end0
          rw [HE.out]
          exact ⟨rfl, HSELF.out⟩
    · have HE : Hid (dropG g now q = anewG (filG g q) now) := by show _ = _; unfold dropG; rw [if_neg HE1.out, if_pos (.inl h2)]
      have h2' : (g.phase != 1) = true := by simpa using h2
      generalize g.phase = ph at w2 h2'
      clear h2
      go_wp2_with fail
      refine HA.out.mono ?_
      rintro e wz ⟨rfl, hq⟩
      (try go_wp2)
      go_end0
      rw [HE.out]
      exact ⟨rfl, HPOST.out _ _ hq⟩
end Go.Proofs.Ytlmajhkhlmkeiaa
