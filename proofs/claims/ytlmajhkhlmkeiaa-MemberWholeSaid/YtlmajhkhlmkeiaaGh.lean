/-
  A group closes; lets members go.
-/
import Derived.Test.YtlmajhkhlmkeiaaGg
namespace Go.Proofs.Ytlmajhkhlmkeiaa
open Go.RowKit Go.Shelf Fx

def filG (g : GroupC) (q : OneC → Bool) : GroupC := { g with ones := g.ones.filter fun o => !q o }
theorem GrpAt.slices {w : World} {F : Nat → Prop} {b : Nat} {g : GroupC} {v : Value} {L : List OneV} (h : GrpAt w F b g v L) : ∀ x ∈ L, (∃ a n c, x.tv = .slice a n c) ∧ ∃ a n c, x.pv = .slice a n c := fun x hx => by
  obtain ⟨⟨a, c, e, _⟩, a2, c2, e2, _⟩ := h.out x hx
  exact ⟨⟨a, _, c, e⟩, a2, _, c2, e2⟩
theorem GrpAt.glen {w : World} {F : Nat → Prop} {b : Nat} {g : GroupC} {v : Value} {L : List OneV} (h : GrpAt w F b g v L) : g.ones.length = L.length := by rw [← h.ones]; simp
/-- Behind the members' row cut down, and its value stored. -/
theorem GrpAt.del {w w1 : World} {F : Nat → Prop} {b : Nat} {g : GroupC} {v v' : Value} {L : List OneV} {p : OneV → Bool} {q : OneC → Bool} (h : GrpAt w F b g v L) (hpq : ∀ x, p x = q x.core)
    (hrow : w1.ownsRow 0 43 5 v' (L.filter fun x => !p x).length ((L.filter fun x => !p x).flatMap oneEnc)) (hown : v'.ownBlock = v.ownBlock) (hk : Keeps (fun k => v.ownBlock = some k) w w1) :
    ∃ F', GrpAt (w1.setCell ⟨b, 6, none⟩ v') F' b (filG g q) v' (L.filter fun x => !p x) ∧ (∀ k, F' k → F k ∨ w.heap.size ≤ k) ∧ Keeps F w (w1.setCell ⟨b, 6, none⟩ v') := by
  have hbk : ∀ k, v.ownBlock = some k → k ≠ b := fun k e => (h.own k e).2
  have hb1 : w1.heap[b]? = some (.cells (gCells g v) 63 (0, 0)) := (hk.block b (block_lt h.blk) (fun e => hbk b e rfl)).trans h.blk
  have hk2 : Keeps (fun k => k = b ∨ v.ownBlock = some k) w (w1.setCell ⟨b, 6, none⟩ v') := (hk.mono fun _ _ e => .inr e).setC 6 v' (fun _ => .inl rfl)
  have hk3 : Keeps (fun k => k = b) w1 (w1.setCell ⟨b, 6, none⟩ v') := (Keeps.refl (fun k => k = b) w1).setC 6 v' (fun _ => rfl)
  have hst := h.step (g' := filG g q) (v' := v') (L' := L.filter fun x => !p x) hk2 (fun k e => e) (setCell_block hb1 6 v') (own_keep hk3 hrow (fun k e => hbk k (by rw [← hown]; exact e)))
    (fun k e => .inl (by rw [← hown]; exact e)) (by
      show (L.filter fun x => !p x).map OneV.core = g.ones.filter fun o => !q o
      rw [← h.ones, List.filter_map]
      congr 1
      refine List.filter_congr fun x _ => ?_
      rw [hpq]
      rfl)
    (fun x hx => .inl ⟨x, (List.mem_filter.1 hx).1, rfl, rfl⟩) (fun x hx => .inl ⟨x, (List.mem_filter.1 hx).1, rfl, rfl⟩)
  exact ⟨_, hst, fun k e => e.elim .inl fun e => .inr e.1, hk2.mono fun k _ e => e.elim (fun e => e ▸ h.fb) fun e => (h.own k e).1⟩
def closeG (g : GroupC) (now : Int) : GroupC :=
  if (filG g fun o => !o.joined).ones.length = 0 then enterG (filG g fun o => !o.joined) 0 0
  else enterG { filG g fun o => !o.joined with gen := g.gen + 1 } 2 (now + g.rebalance)
set_option maxRecDepth 100000 in
set_option maxHeartbeats 2000000 in
theorem close_any (w : World) (F : Nat → Prop) (b : Nat) (g : GroupC) (v : Value) (L : List OneV) (now : Int) (h : GrpAt w F b g v L) (hl : L.length ≤ 1000) (hn : 0 ≤ now ∧ now ≤ 1099511627776) (hr : 0 ≤ g.rebalance ∧ g.rebalance ≤ 100000) (hg : 0 ≤ g.gen ∧ g.gen ≤ 1152921504606846976) :
    Calls Try.prog 26 #[.pointer (some ⟨b, 0, none⟩), .int .i64 now] w fun e w' => e = .returned (.tuple #[]) ∧ GrpPost w F b (closeG g now) w' := by
  have HD := Lib.hid (deleteFunc w v L 54 #[] (fun x => !x.joined) h.row (h.rowV (by omega)) h.slices hl enters_close (fun w1 _ => tests_close w1))
  have hx : w.cell? ⟨b, 6, none⟩ = some v := block_cell h.blk 6
  have hb := block_lt h.blk
  have HH := Lib.hid h
  have hfb := block_free h.blk 6
  have hvb : v.ownBlock ≠ some b := fun e => (h.own b e).2 rfl
  clear h
  go_enter Try.func26, Try.ntmps26
  go_wp2_with fail
  refine HD.out.mono ?_
  rintro e w1 ⟨v', rfl, hrow, hown, hk⟩
  obtain ⟨F', hG, hF', hkF⟩ := HH.out.del (q := fun o => !o.joined) (fun x => rfl) hrow hown hk
  have hx1 := hk.cell' hx hvb
  have hf1 := (hk.frozen (p := ⟨b, 6, none⟩) hb hvb).trans hfb
  have hb1 := Nat.lt_of_lt_of_le hb hk.size
  have w3 : w1.cell? ⟨b, 3, none⟩ = some (.int .i64 g.gen) := hk.cell' (block_cell HH.out.blk 3) hvb
  have w4 : w1.cell? ⟨b, 1, none⟩ = some (.int .i64 g.rebalance) := hk.cell' (block_cell HH.out.blk 1) hvb
  have w5 : w1.frozen? ⟨b, 3, none⟩ = false := (hk.frozen (p := ⟨b, 3, none⟩) hb hvb).trans (block_free HH.out.blk 3)
  have hform : ∃ a cap, v' = .slice a (L.filter fun x => !!x.joined).length cap := by
    rcases hrow.2 with ⟨h1, h2⟩ | ⟨r, cap, cur, h1, _⟩
    · rw [h2]; exact ⟨_, _, h1⟩
    · exact ⟨_, _, h1⟩
  obtain ⟨a', cap', rfl⟩ := hform
  have hlen : (filG g fun o => !o.joined).ones.length = (L.filter fun x => !!x.joined).length := hG.glen
  have HG := Lib.hid hG
  have HF' := Lib.hid hF'
  have HKF := Lib.hid hkF
  have HL := Lib.hid hlen
  have hle : (L.filter fun x => !!x.joined).length ≤ 1000 := Nat.le_trans (List.length_filter_le _ _) hl
  clear hG hF' hkF hrow hown hlen hk hx
  generalize hnn : (L.filter fun x => !!x.joined).length = n at hle HL
  have HN := Lib.hid hnn
  have HGn : Hid (GrpAt (w1.setCell ⟨b, 6, none⟩ (.slice a' n cap')) F' b (filG g fun o => !o.joined) (.slice a' n cap') (L.filter fun x => !!x.joined)) := by have h1 := HG.out; rw [hnn] at h1; exact h1
  have HKn : Hid (Keeps F w (w1.setCell ⟨b, 6, none⟩ (.slice a' n cap'))) := by have h1 := HKF.out; rw [hnn] at h1; exact h1
  clear hnn HG HKF
  by_cases h0 : n = 0
  · obtain rfl : n = 0 := h0
    have HE := Lib.hid (enter_any _ _ _ _ _ _ 0 0 HGn.out)
    go_wp2_with fail
    refine HE.out.mono ?_
    rintro e w2 ⟨rfl, hg2, hk2⟩
    go_wp2
    (try simp only [Exit.inBlock, Exit.then])
    refine bodyPost_ret (results_none rfl _ _ _) rfl ?_
    have e : closeG g now = enterG (filG g fun o => !o.joined) 0 0 := if_pos HL.out
    rw [e]
    exact ⟨rfl, F', ⟨_, _, hg2⟩, HF'.out, HKn.out.trans hk2 fun k hk' e => (HF'.out k (e ▸ HGn.out.fb)).elim id fun e2 => by omega⟩
  · have h0' : ¬ (n : Int) = 0 := by omega
    have hk3 : Keeps (fun k => k = b) (w1.setCell ⟨b, 6, none⟩ (.slice a' n cap')) ((w1.setCell ⟨b, 6, none⟩ (.slice a' n cap')).setCell ⟨b, 3, none⟩ (.int .i64 (g.gen + 1))) := (Keeps.refl (fun k => k = b) _).setC 3 _ (fun _ => rfl)
    have hG3 := HGn.out.head (g' := { filG g fun o => !o.joined with gen := g.gen + 1 }) hk3 (setCell_block HGn.out.blk 3 _) rfl
    have HE := Lib.hid (enter_any _ _ _ _ _ _ 2 (now + g.rebalance) hG3)
    have HK3 := Lib.hid hk3
    clear hG3 hk3
    generalize hrb : g.rebalance = rb at hr HE w4
    generalize hgg : g.gen = gg at hg HE w3 HK3
    have HRB := Lib.hid hrb
    have HGG := Lib.hid hgg
    clear hrb hgg
    go_wp2_with fail
    refine HE.out.mono ?_
    rintro e w2 ⟨rfl, hg2, hk2⟩
    (try go_wp2)
    go_end0
    have e : closeG g now = enterG { filG g fun o => !o.joined with gen := gg + 1 } 2 (now + rb) := by
      rw [← HGG.out, ← HRB.out]
      exact if_neg (by rw [HL.out]; exact h0)
    rw [e]
    exact ⟨rfl, F', ⟨_, _, hg2⟩, HF'.out, (HKn.out.trans HK3.out fun k hk' e => (HF'.out k (e ▸ HGn.out.fb)).elim id fun e2 => by omega).trans hk2 fun k hk' e => (HF'.out k (e ▸ HGn.out.fb)).elim id fun e2 => by omega⟩
end Go.Proofs.Ytlmajhkhlmkeiaa
