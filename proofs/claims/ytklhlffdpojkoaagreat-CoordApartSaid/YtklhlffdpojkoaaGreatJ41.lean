/-
  CoordApart, walked.
-/
import Derived.Test.YtklhlffdpojkoaaGreatJ39
import Derived.Test.YtklhlffdpojkoaaGreatJ40
import Derived.Deep.RegionHeld3
import Derived.BigRegion
import Derived.Deep.QuietTactic
import Derived.BigQuiet
namespace Go.Proofs.YtklhlffdpojkoaaGreat
open Go.ChangeShapes Go.WideShapes Go.ChangeAt Go.RowKit Go.Shelf Fx

/-- A call's block, copied. -/
structure OpAt (w : World) (bo : Nat) (o : OpV) : Prop where
  blk : w.heap[bo]? = some (.cells #[.int .i64 o.do_, .string o.s, .int .i64 o.m, .slice o.ta o.topics.length o.tc, .int .i64 o.gn, .slice o.pa o.parts.length o.pc, .bool o.rd, .string o.pt, .int .i64 o.pi, .int .i64 o.at_, .int .i64 o.now] 36 (0, 0))
theorem OpAt.cells {w : World} {bo : Nat} {o : OpV} (h : OpAt w bo o) : w.cell? ⟨bo, 0, none⟩ = some (.int .i64 o.do_) ∧ w.cell? ⟨bo, 1, none⟩ = some (.string o.s) ∧ w.cell? ⟨bo, 2, none⟩ = some (.int .i64 o.m) ∧ w.cell? ⟨bo, 3, none⟩ = some (.slice o.ta o.topics.length o.tc) ∧ w.cell? ⟨bo, 4, none⟩ = some (.int .i64 o.gn) ∧ w.cell? ⟨bo, 5, none⟩ = some (.slice o.pa o.parts.length o.pc) ∧ w.cell? ⟨bo, 6, none⟩ = some (.bool o.rd) ∧ w.cell? ⟨bo, 7, none⟩ = some (.string o.pt) ∧ w.cell? ⟨bo, 8, none⟩ = some (.int .i64 o.pi) ∧ w.cell? ⟨bo, 9, none⟩ = some (.int .i64 o.at_) ∧ w.cell? ⟨bo, 10, none⟩ = some (.int .i64 o.now) ∧ bo < w.heap.size :=
  ⟨block_cell h.blk 0, block_cell h.blk 1, block_cell h.blk 2, block_cell h.blk 3, block_cell h.blk 4, block_cell h.blk 5, block_cell h.blk 6, block_cell h.blk 7, block_cell h.blk 8, block_cell h.blk 9, block_cell h.blk 10, block_lt h.blk⟩
theorem OpAt.keep {w w' : World} {bo : Nat} {o : OpV} (h : OpAt w bo o) (hk : K0 w w') : OpAt w' bo o := ⟨(hk.block bo (block_lt h.blk) (fun e => e)).trans h.blk⟩
theorem OpAt.same {w w' : World} {bo : Nat} {o : OpV} (h : OpAt w bo o) (hk : w'.heap[bo]? = w.heap[bo]?) : OpAt w' bo o := ⟨hk.trans h.blk⟩
/-- Is a name passed over? -/
def skipB (u s : ByteArray) (d : Int) : Bool := decide (u = s ∨ d < 0 ∨ 5 < d)
theorem SeenA.allX {wN W : World} {C : CoordC} {ss : List ByteArray} {pt : ByteArray} {pi : Int} {wv av : Value} {a0 : Option Addr} {base lo bo : Nat} (h : SeenA wN C ss pt pi ss.length wv av W) (hn : ss = [] ∨ ∃ r, a0 = some ⟨r, 0, none⟩ ∧ NRow wN base r ss) (h1 : lo ≤ base) (h2 : lo ≤ wN.heap.size) (hb : lo ≤ bo ∧ bo < W.heap.size) :
    ∃ wa cw aa ca rn rw ra, wv = .slice wa ss.length cw ∧ av = .slice aa ss.length ca ∧ (ss ≠ [] → a0 = some ⟨rn, 0, none⟩ ∧ wa = some ⟨rw, 0, none⟩ ∧ aa = some ⟨ra, 0, none⟩) ∧ (∀ k, (k = bo ∨ k = rn ∨ k = rw ∨ k = ra) → lo ≤ k ∧ k < W.heap.size) ∧ SeenC C ss pt pi rn rw ra W := by
  rcases hn with e | ⟨rn, e, hr⟩
  · obtain ⟨wa, cw, ew⟩ := y_own_slice h.row.choose_spec.2.2
    obtain ⟨aa, ca, ea⟩ := y_own_slice h.at_.choose_spec.2.2
    subst e
    refine ⟨wa, cw, aa, ca, bo, bo, bo, ew, ea, fun e => absurd rfl e, fun k hk => ?_, ⟨fun j hj => absurd hj (Nat.not_lt_zero _), fun j hj => absurd hj (Nat.not_lt_zero _), fun j hj => absurd hj (Nat.not_lt_zero _)⟩⟩
    have : k = bo := by omega
    subst this
    exact hb
  · by_cases hne : ss = []
    · subst hne
      obtain ⟨wa, cw, ew⟩ := y_own_slice h.row.choose_spec.2.2
      obtain ⟨aa, ca, ea⟩ := y_own_slice h.at_.choose_spec.2.2
      refine ⟨wa, cw, aa, ca, bo, bo, bo, ew, ea, fun e => absurd rfl e, fun k hk => ?_, ⟨fun j hj => absurd hj (Nat.not_lt_zero _), fun j hj => absurd hj (Nat.not_lt_zero _), fun j hj => absurd hj (Nat.not_lt_zero _)⟩⟩
      have : k = bo := by omega
      subst this
      exact hb
    · have hr2 := hr.keep h.k0
      obtain ⟨rw, ra, cw, ca, e1, e2, b1, b2, hs⟩ := h.all hne hr2
      refine ⟨_, cw, _, ca, rn, rw, ra, e1, e2, fun _ => ⟨e, rfl, rfl⟩, fun k hk => ?_, hs⟩
      have h9 := hr2.lt
      rcases hk with rfl | rfl | rfl | rfl
      · exact hb
      · omega
      · omega
      · omega
set_option maxRecDepth 100000 in
set_option maxHeartbeats 8000000 in
theorem apart_any (w : World) (s r : Int) (a : Option Addr) (cap : Nat) (l : List OpV) (hs : SlAt 11 rOpV w a cap l) :
    Calls Tryz.prog 5 #[.int .i64 s, .int .i64 r, .slice a l.length cap] w fun e w' => Same w e (.bool true) w' := by
  have hm := hs.len
  have HS := Lib.hid hs
  clear hs
  by_cases hb : newBad s r
  · have HN := Lib.hid (cnew_bad s r w hb)
    have hbb : s < 1 ∨ (¬ s < 1 ∧ 100000 < s) ∨ (¬ s < 1 ∧ ¬ 100000 < s ∧ r < 1) ∨ (¬ s < 1 ∧ ¬ 100000 < s ∧ ¬ r < 1 ∧ 100000 < r) := by unfold newBad at hb; omega
    clear hb
    rcases hbb with h1 | ⟨h1, h2⟩ | ⟨h1, h2, h3⟩ | ⟨h1, h2, h3, h4⟩
    all_goals
      go_enter Tryz.func5, Tryz.ntmps5
      go_wp2_with fail
      refine HN.out.mono ?_
      rintro e w1 ⟨rfl, k1⟩
      have HK := Lib.hid k1
      clear k1
      go_wp2_with fail
      refine (clive_any _).mono ?_
      rintro e w2 ⟨rfl, k2⟩
      have HF := Lib.hid (K0.tr HK.out k2)
      clear k2
      go_wp2
      go_ret
      exact ⟨rfl, HF.out⟩
  · have h1 : 1 ≤ s ∧ s ≤ 100000 := by unfold newBad at hb; omega
    have h2 : 1 ≤ r ∧ r ≤ 100000 := by unfold newBad at hb; omega
    have q1 : ¬ s < 1 := by omega
    have q2 : ¬ 100000 < s := by omega
    have q3 : ¬ r < 1 := by omega
    have q4 : ¬ 100000 < r := by omega
    have HN := Lib.hid (cnew_any s r w h1 h2)
    have HG0 : Hid (GoodC (newC s r) (newC s r) 2000) := (GoodC.new h1 h2).mono (by omega)
    clear hb h1 h2
    go_enter Tryz.func5, Tryz.ntmps5
    go_wp2_with fail
    refine HN.out.mono ?_
    rintro e w1 ⟨cb, rfl, hc⟩
    have HC0 := Lib.hid hc
    clear hc
    go_wp2_with fail
    refine (rcnew_any s r w1).mono ?_
    rintro e w2 ⟨kb, F, rfl, hr, hF, hk2⟩
    have HJ0 := Lib.hid (jc_new HC0.out hr hF hk2)
    clear hr hF hk2 q1 q2 q3 q4
    go_wp2
    go_loopw [10] (fun i wr => ∃ (k : Nat) (C R : CoordC) (tb : Nat), i = .int .i64 k ∧ k ≤ l.length ∧ k ≤ 50 ∧ JC (fun _ => False) w w wr cb C kb R tb ∧ GoodC C R (40 * (50 - k))) (fun i _ => l.length - (intOf i).toNat)
    case atStart =>
      obtain ⟨tb, hj⟩ := HJ0.out
      exact ⟨0, _, _, tb, rfl, by omega, by omega, hj, HG0.out⟩
    case round =>
      obtain ⟨k, C, R, tb, rfl, hk, h50, hj, hg⟩ := hrel
      have HJR := Lib.hid hj
      have HG := Lib.hid hg
      have HK0 := Lib.hid hj.k0
      have HLIVE := Lib.hid (clive_any wr)
      clear hj hg HJ0 HN HC0
      have i0 : (0 : Int) ≤ k := by omega
      by_cases hlt : k < l.length
      · have i1 : (k : Int) < l.length := by omega
        by_cases hlt50 : k < 50
        · have i2 : (k : Int) < 50 := by omega
          obtain ⟨rb, off, rfl, hrow⟩ := HS.out.row hlt
          obtain ⟨hc, hrb, hz1, hz2, ho1, ho2, hmi⟩ := op_cells hrow HK0.out k hlt
          have HSA : Hid (30 ≥ l[k].topics.length → ∀ (P : Nat → Prop) (wi : World), K0 wr wi → (∀ j, P j → wr.heap.size ≤ j ∧ j < wi.heap.size) → Calls Tryz.prog 10 #[.pointer (some ⟨cb, 0, none⟩), .pointer (some ⟨kb, 0, none⟩), .agg (opCells l[k])] wi (StepQ P w wi cb C kb l[k].s (0 ≤ l[k].do_ ∧ l[k].do_ ≤ 5) (40 * (50 - (k + 1))))) := fun h30 P wi hki hP => by
            have hg2 : GoodC C R (40 * (50 - (k + 1)) + 40) := by
              have h9 := HG.out
              rw [show 40 * (50 - k) = 40 * (50 - (k + 1)) + 40 by omega] at h9
              exact h9
            exact step_all (HJR.out.baseP wi hki P hP) hg2 l[k] hmi hz1 hz2 (by omega) ho1 ho2
          generalize l[k] = o at hc HSA
          have HO : Hid (∀ wy, K0 wr wy → ∀ j v, (opCells o)[j]? = some v → wy.cell? ⟨rb, off + k * 11 + j, none⟩ = some v) := fun wy hky j v e => hky.cell' (hc j v e) (fun e => e)
          have d0 : wr.cell? ⟨rb, off + k * 11, none⟩ = some (.int .i64 o.do_) := hc 0 _ rfl
          have d1 : wr.cell? ⟨rb, off + k * 11 + 1, none⟩ = some (.string o.s) := hc 1 _ rfl
          have d2 : wr.cell? ⟨rb, off + k * 11 + 2, none⟩ = some (.int .i64 o.m) := hc 2 _ rfl
          have d3 : wr.cell? ⟨rb, off + k * 11 + 3, none⟩ = some (.slice o.ta o.topics.length o.tc) := hc 3 _ rfl
          have d4 : wr.cell? ⟨rb, off + k * 11 + 4, none⟩ = some (.int .i64 o.gn) := hc 4 _ rfl
          have d5 : wr.cell? ⟨rb, off + k * 11 + 5, none⟩ = some (.slice o.pa o.parts.length o.pc) := hc 5 _ rfl
          have d6 : wr.cell? ⟨rb, off + k * 11 + 6, none⟩ = some (.bool o.rd) := hc 6 _ rfl
          have d7 : wr.cell? ⟨rb, off + k * 11 + 7, none⟩ = some (.string o.pt) := hc 7 _ rfl
          have d8 : wr.cell? ⟨rb, off + k * 11 + 8, none⟩ = some (.int .i64 o.pi) := hc 8 _ rfl
          have d9 : wr.cell? ⟨rb, off + k * 11 + 9, none⟩ = some (.int .i64 o.at_) := hc 9 _ rfl
          have d10 : wr.cell? ⟨rb, off + k * 11 + 10, none⟩ = some (.int .i64 o.now) := hc 10 _ rfl
          have HLT := Lib.hid hlt
          have H50 := Lib.hid hlt50
          have HSM := Lib.hid (fun wx => small_any o wx)
          have HA : Hid (OpAt (wr.alloc (.cells #[.int .i64 o.do_, .string o.s, .int .i64 o.m, .slice o.ta o.topics.length o.tc, .int .i64 o.gn, .slice o.pa o.parts.length o.pc, .bool o.rd, .string o.pt, .int .i64 o.pi, .int .i64 o.at_, .int .i64 o.now] 36)) wr.heap.size o) := ⟨heap_new _ _ _ rfl⟩
          have HKA : Hid (K0 wr (wr.alloc (.cells #[.int .i64 o.do_, .string o.s, .int .i64 o.m, .slice o.ta o.topics.length o.tc, .int .i64 o.gn, .slice o.pa o.parts.length o.pc, .bool o.rd, .string o.pt, .int .i64 o.pi, .int .i64 o.at_, .int .i64 o.now] 36))) := (Keeps.refl (fun _ => False) wr).alloc _
          clear hrow hc hz1 hz2 ho1 ho2 hmi h50 hk
          obtain ⟨wo, rfl⟩ : ∃ wo : World, wo = wr := ⟨_, rfl⟩
          cases hsb : smallB o with
          | false =>
            rw [hsb] at HSM
            clear hsb
            go_wp2_with fail
            refine (HSM.out _).mono ?_
            rintro e w3 ⟨rfl, k3⟩
            have HK3 := Lib.hid (K0.tr HK0.out (K0.tr HKA.out k3))
            clear k3 d0 d1 d2 d3 d4 d5 d6 d7 d8 d9 d10
            go_wp2_with fail
            refine (clive_any _).mono ?_
            rintro e w4 ⟨rfl, k4⟩
            have HF := Lib.hid (K0.tr HK3.out k4)
            clear k4
            go_wp2
            go_ret
            exact ⟨rfl, HF.out⟩
          | true =>
            rw [hsb] at HSM
            have h30 : 30 ≥ o.topics.length := by unfold smallB at hsb; simp at hsb; omega
            have HST := Lib.hid (HSA.out h30)
            clear hsb HSA h30
            go_wp2_with fail
            refine (HSM.out _).mono ?_
            rintro e w3 ⟨rfl, k3⟩
            have HO3 := Lib.hid (HA.out.keep k3)
            have HK3 := Lib.hid (K0.tr HKA.out k3)
            have HJ3 := Lib.hid (HJR.out.keep HK3.out)
            clear k3 d0 d1 d2 d3 d4 d5 d6 d7 d8 d9 d10
            go_wp2_with fail
            refine (jp_names HJ3.out HG.out).mono ?_
            rintro e w4 ⟨ss, a0, c0, rfl, hmem, h20, hnm, k4⟩
            have HMEM := Lib.hid hmem
            have H20 := Lib.hid h20
            have HNM : Hid (ss = [] ∨ ∃ r, a0 = some ⟨r, 0, none⟩ ∧ NRow w4 w3.heap.size r ss) := hnm
            have HO4 := Lib.hid (HO3.out.keep k4)
            have HK4 := Lib.hid (K0.tr HK3.out k4)
            have HJ4 := Lib.hid (HJ3.out.keep k4)
            have HZ3 : Hid (wo.heap.size < w3.heap.size) := block_lt HO3.out.blk
            have HZ4 : Hid (wo.heap.size < w4.heap.size) := block_lt HO4.out.blk
            clear hmem h20 hnm k4
            go_wp2
            go_loopw [13, 14, 15] (fun wv av n wx => ∃ k2 : Nat, n = .int .i64 k2 ∧ k2 ≤ ss.length ∧ SeenA w4 C ss o.pt o.pi k2 wv av wx) (fun _ _ n _ => ss.length - (intOf n).toNat)
            case atStart => exact ⟨0, rfl, by omega, SeenA.start _ _ _ _ _⟩
            case round =>
              obtain ⟨k2, rfl, hk2, hsa⟩ := hrel
              have HSN := Lib.hid hsa
              have j0 : (0 : Int) ≤ k2 := by omega
              clear hsa
              by_cases hlt2 : k2 < ss.length
              · have HLT2 := Lib.hid hlt2
                have j1 : (k2 : Int) < ss.length := by omega
                obtain ⟨rn, rfl, hrn⟩ := HNM.out.resolve_left (fun e => by rw [e] at hlt2; exact absurd hlt2 (Nat.not_lt_zero _))
                have n0a : wr.cell? ⟨rn, k2, none⟩ = some (.string (ss[k2]'hlt2)) := (hrn.keep HSN.out.k0).cell k2 hlt2
                have nl := (hrn.keep HSN.out.k0).lt.2
                obtain ⟨g, hu⟩ := HMEM.out (ss[k2]'hlt2) (List.getElem_mem hlt2)
                obtain ⟨u, hue⟩ : ∃ u, ss[k2]'hlt2 = u := ⟨_, rfl⟩
                rw [hue] at hu
                have n0 : wr.cell? ⟨rn, k2, none⟩ = some (.string u) := by rw [← hue]; exact n0a
                have HU := Lib.hid hue
                have HGU := Lib.hid hu
                have HN1 : Hid ((∀ wx, K0 w4 wx → wx.cell? ⟨rn, k2, none⟩ = some (.string u)) ∧ ∀ wx, K0 w4 wx → rn < wx.heap.size) := ⟨fun wx hk => by rw [← hue]; exact (hrn.keep hk).cell k2 hlt2, fun wx hk => (hrn.keep hk).lt.2⟩
                obtain ⟨vs, v1, v2, v3⟩ := HSN.out.row
                obtain ⟨wa, wc, rfl⟩ := y_own_slice v3
                obtain ⟨xs, x1, x2, x3⟩ := HSN.out.at_
                obtain ⟨aa, ac, rfl⟩ := y_own_slice x3
                have HV := Lib.hid (And.intro v1 v2)
                have HVR := Lib.hid v3
                obtain ⟨x, hx⟩ : ∃ x : Int, (getV C.off ⟨u, o.pt, o.pi⟩).1 = x := ⟨_, rfl⟩
                obtain ⟨y, hy⟩ : ∃ y : Bool, (getV C.off ⟨u, o.pt, o.pi⟩).2 = y := ⟨_, rfl⟩
                have HX := Lib.hid hx
                have HCM : Hid (∀ wx, K0 w4 wx → Calls Tryz.prog 14 #[.pointer (some ⟨cb, 0, none⟩), .string u, .agg #[.string o.pt, .int .i64 o.pi]] wx fun e w' => e = .returned (.tuple #[.int .i64 x, .bool y]) ∧ K0 wx w') := fun wx hk => by
                  rw [← hx, ← hy]
                  exact jp_comm (HJ4.out.keep hk) u o.pt o.pi
                clear n0a hu hue v1 v2 v3 x1 x2 x3 hrn hx hy hk2
                go_wp2_with fail
                refine (jp_group (HJ4.out.keep HSN.out.k0) HG.out HGU.out).mono ?_
                rintro e w5 ⟨ga, gc, rfl, k5⟩
                have hrow := y_row_keep k5 HVR.out (fun _ _ e => e)
                have HR5 := Lib.hid hrow
                have HK5 := Lib.hid k5
                have HV5 : Hid (vs.length = k2) := HV.out.1
                have hb20 : k2 ≤ 20 := by have := HLT2.out; have := H20.out; omega
                have hz5 : w4.heap.size ≤ w5.heap.size := (K0.tr HSN.out.k0 k5).size
                clear k5 n0 nl
                go_wp2_with (at_builtin; refine wpList_app1 rfl rfl Tryz.underlying59 infoView rfl (by decide) rfl (hrow.alloc _) rfl (heap_new _ _ _ rfl) rfl rfl ⟨by omega, by decide⟩ (by first | (simp; done) | (simp; omega)) ?_; intro gb g1 w6 hA; have HA6 : Hid (SeenH w4 C ss o.pt o.pi k2 (.slice (some ⟨gb, 0, none⟩) (k2 + 1) g1) (.slice aa k2 ac) w6) := (HSN.out.keep HK5.out).half HV.out HR5.out (fun _ => (congrArg (aget C.gs) HU.out).trans HGU.out) hA; clear hA hrow)
                have HK6 := Lib.hid HA6.out.k0
                have HN9 : Hid (∀ wx, K0 w6 wx → wx.cell? ⟨rn, k2, none⟩ = some (.string u) ∧ rn < wx.heap.size ∧ wx.cell? ⟨wo.heap.size, 7, none⟩ = some (.string o.pt) ∧ wx.cell? ⟨wo.heap.size, 8, none⟩ = some (.int .i64 o.pi) ∧ wo.heap.size < wx.heap.size) := fun wx hk => by
                  have hk := K0.tr HK6.out hk
                  have h1 := (HO4.out.keep hk).cells
                  exact ⟨HN1.out.1 wx hk, HN1.out.2 wx hk, h1.2.2.2.2.2.2.2.1, h1.2.2.2.2.2.2.2.2.1, block_lt (HO4.out.keep hk).blk⟩
                have hkd : K0 w6 w6.drew := (Keeps.refl _ _).drew
                obtain ⟨n0, nl, p7, p8, pl⟩ := HN9.out _ hkd
                have HCM6 := Lib.hid (fun (wx : World) (hk : K0 w6 wx) => HCM.out wx (K0.tr HK6.out hk))
                have HXU : Hid (∀ hs : k2 < ss.length, x = (getV C.off ⟨ss[k2]'hs, o.pt, o.pi⟩).1) := fun hs => by
                  rw [show ss[k2]'hs = u from HU.out]
                  exact HX.out.symm
                go_region_held3 (fun w' => w'.cell? ⟨rn, k2, none⟩ = some (.string u) ∧ w'.cell? ⟨wo.heap.size, 7, none⟩ = some (.string o.pt) ∧ w'.cell? ⟨wo.heap.size, 8, none⟩ = some (.int .i64 o.pi) ∧ K0 w6 w')
                  (first | go_keep | (go_split_ands; refine ⟨?_, ?_, ?_, ?_⟩ <;> first | assumption | exact Keeps.cell' (by assumption) (by assumption) (fun e => e) | exact K0.tr (by assumption) (by assumption)))
                  (first | (go_at_call 14; go_split_ands; refine (HCM6.out _ (by assumption)).mono ?_; rintro e w' ⟨rfl, hk9⟩))
                all_goals
                  go_split_ands
                  have kk : K0 w6 w' := by assumption
                  have HA7 := Lib.hid (HA6.out.keep kk)
                  obtain ⟨xs, x1, x2, x3⟩ := HA7.out.at_
                  have HXS := Lib.hid (And.intro x1 x2)
                  have HXR := Lib.hid x3
                  have hz7 : w4.heap.size ≤ w'.heap.size := (K0.tr HK6.out kk).size
                  clear kk x1 x2 n0 nl p7 p8 pl hkd
                  go_wp2_with (at_builtin; refine wpList_app1 rfl rfl Tryz.underlying60 infoInt rfl (by decide) rfl (x3.alloc _) rfl (heap_new _ _ _ rfl) rfl rfl ⟨by omega, by decide⟩ (by first | (simp; done) | (simp; omega)) ?_; intro gi g2 w8 hA; have HA8 : Hid (SeenA w4 C ss o.pt o.pi (k2 + 1) (.slice (some ⟨gb, 0, none⟩) (k2 + 1) g1) (.slice (some ⟨gi, 0, none⟩) (k2 + 1) g2) w8) := HA7.out.full HXS.out HXR.out HXU.out hA; clear hA x3 hz7)
                  go_roundw
                  case rel => exact ⟨k2 + 1, by go_num, HLT2.out, HA8.out⟩
                  case measure => have := HLT2.out; simp [intOf]; omega
              · have j1 : ¬ (k2 : Int) < ss.length := by omega
                obtain ⟨wi, rfl⟩ : ∃ wi : World, wi = wr := ⟨_, rfl⟩
                obtain rfl : k2 = ss.length := by omega
                obtain ⟨wa, cw, aa, ca, rn, rv, ra, rfl, rfl, hpt, hP, hsc⟩ := HSN.out.allX (lo := wo.heap.size) (bo := wo.heap.size) HNM.out (Nat.le_of_lt HZ3.out) (Nat.le_of_lt HZ4.out) ⟨Nat.le_refl _, Nat.lt_of_lt_of_le HZ4.out HSN.out.k0.size⟩
                have HPT := Lib.hid hpt
                have HSC := Lib.hid hsc
                have HOI := Lib.hid (HO4.out.keep HSN.out.k0)
                have HSTW := Lib.hid (HST.out (fun j => j = wo.heap.size ∨ j = rn ∨ j = rv ∨ j = ra) wi (K0.tr HK4.out HSN.out.k0) hP)
                obtain ⟨p0, p1, p2, p3, p4, p5, p6, p7, p8, p9, p10, pl⟩ := HOI.out.cells
                clear hpt hsc hP hk2 hlt2
                go_wp2_with fail
                refine HSTW.out.mono ?_
                rintro e w5 ⟨rfl, C2, R2, tb2, hj2, hg2, hap⟩
                have HO5 := Lib.hid (HOI.out.same (hj2.blk (.inl rfl)))
                have HS5 := Lib.hid (HSC.out.blocks (hj2.blk (.inr (.inl rfl))) (hj2.blk (.inr (.inr (.inl rfl)))) (hj2.blk (.inr (.inr (.inr rfl)))))
                have HJ2 := Lib.hid hj2
                have HG2 := Lib.hid hg2
                have HAP := Lib.hid hap
                clear hj2 hg2 hap p0 p1 p2 p3 p4 p5 p6 p7 p8 p9 p10 pl j0 j1
                go_wp2
                go_loopw [18] (fun i wx => ∃ k3 : Nat, i = .int .i64 k3 ∧ k3 ≤ ss.length ∧ K0 w5 wx) (fun i _ => ss.length - (intOf i).toNat)
                case atStart => exact ⟨0, rfl, by omega, Keeps.refl _ _⟩
                case round =>
                  obtain ⟨k3, rfl, hk3, hkb⟩ := hrel
                  have HKB := Lib.hid hkb
                  have m0 : (0 : Int) ≤ k3 := by omega
                  by_cases hlt3 : k3 < ss.length
                  · have HLT3 := Lib.hid hlt3
                    have m1 : (k3 : Int) < ss.length := by omega
                    have hb3 : k3 ≤ 20 := by have := H20.out; omega
                    obtain ⟨rfl, rfl, rfl⟩ := HPT.out (fun e => by rw [e] at hlt3; exact absurd hlt3 (Nat.not_lt_zero _))
                    have hs3 := HS5.out.keep hkb
                    obtain ⟨u, hue⟩ : ∃ u, ss[k3]'hlt3 = u := ⟨_, rfl⟩
                    obtain ⟨g, ga, gc, hg1, v0, v1, v3, v4⟩ := hs3.v k3 hlt3
                    have hgu : aget C.gs u = some g := by rw [← hue]; exact hg1
                    have n0 : wr.cell? ⟨rn, k3, none⟩ = some (.string u) := by rw [← hue]; exact hs3.n k3 hlt3
                    obtain ⟨x, hx⟩ : ∃ x : Int, (getV C.off ⟨u, o.pt, o.pi⟩).1 = x := ⟨_, rfl⟩
                    have a1 : wr.cell? ⟨ra, k3, none⟩ = some (.int .i64 x) := by rw [← hx, ← hue]; exact hs3.a k3 hlt3
                    have HGU := Lib.hid hgu
                    have HX := Lib.hid hx
                    have HO6 := Lib.hid (HO5.out.keep hkb)
                    have HF : Hid (∀ wx, K0 wr wx → wx.cell? ⟨rn, k3, none⟩ = some (.string u) ∧ wx.cell? ⟨rv, k3 * 5, none⟩ = some (.int .i64 g.phase) ∧ wx.cell? ⟨rv, k3 * 5 + 1, none⟩ = some (.int .i64 g.gen) ∧ wx.cell? ⟨rv, k3 * 5 + 3, none⟩ = some (.int .i64 g.til) ∧ wx.cell? ⟨rv, k3 * 5 + 4, none⟩ = some (.slice ga g.ones.length gc) ∧ wx.cell? ⟨ra, k3, none⟩ = some (.int .i64 x) ∧ rn < wx.heap.size ∧ rv < wx.heap.size ∧ ra < wx.heap.size ∧
                        wx.cell? ⟨wo.heap.size, 0, none⟩ = some (.int .i64 o.do_) ∧ wx.cell? ⟨wo.heap.size, 1, none⟩ = some (.string o.s) ∧ wx.cell? ⟨wo.heap.size, 7, none⟩ = some (.string o.pt) ∧ wx.cell? ⟨wo.heap.size, 8, none⟩ = some (.int .i64 o.pi) ∧ wo.heap.size < wx.heap.size) := fun wx hk => by
                      have hb := (HO6.out.keep hk).blk
                      exact ⟨hk.cell' n0 (fun e => e), hk.cell' v0 (fun e => e), hk.cell' v1 (fun e => e), hk.cell' v3 (fun e => e), hk.cell' v4 (fun e => e), hk.cell' a1 (fun e => e), Nat.lt_of_lt_of_le (cell_block1 n0) hk.size, Nat.lt_of_lt_of_le (cell_block1 v0) hk.size, Nat.lt_of_lt_of_le (cell_block1 a1) hk.size,
                        block_cell hb 0, block_cell hb 1, block_cell hb 7, block_cell hb 8, block_lt hb⟩
                    clear n0 v0 v1 v3 v4 a1 hg1 hs3 hue hgu hx hkb hk3 hlt3
                    obtain ⟨n0, _, _, _, _, _, nl, _, _, q0, q1, _, _, ql⟩ := HF.out wr (Keeps.refl _ _)
                    go_upto_region 26 with fail
                    go_cut [116] (fun q wq => q = .bool (skipB u o.s o.do_) ∧ K0 wr wq)
                    case first => as_aux_lemma =>
                      by_cases h1 : u = o.s
                      · have HB : Hid (skipB u o.s o.do_ = true) := decide_eq_true (.inl h1)
                        have d1 : decide (u = o.s) = true := decide_eq_true h1
                        have b1 : (u.toList == o.s.toList) = true := by rw [h1]; exact beq_self_eq_true _
                        go_wp2
                        go_quiet (fail)
                        go_wp2
                        go_meet
                        case rel => exact ⟨by rw [HB.out], (Keeps.refl _ _).drewN _⟩
                      · have d1 : decide (u = o.s) = false := decide_eq_false h1
                        have b1 : (u.toList == o.s.toList) = false := str_ne h1
                        by_cases h2 : o.do_ < 0
                        · have HB : Hid (skipB u o.s o.do_ = true) := decide_eq_true (.inr (.inl h2))
                          have d2 : decide (o.do_ < 0) = true := decide_eq_true h2
                          go_wp2
                          go_quiet (fail)
                          go_wp2
                          go_meet
                          case rel => exact ⟨by rw [HB.out], (Keeps.refl _ _).drewN _⟩
                        · have d2 : decide (o.do_ < 0) = false := decide_eq_false h2
                          by_cases h3 : 5 < o.do_
                          · have HB : Hid (skipB u o.s o.do_ = true) := decide_eq_true (.inr (.inr h3))
                            have d3 : decide (5 < o.do_) = true := decide_eq_true h3
                            go_wp2
                            go_quiet (fail)
                            go_wp2
                            go_meet
                            case rel => exact ⟨by rw [HB.out], (Keeps.refl _ _).drewN _⟩
                          · have HB : Hid (skipB u o.s o.do_ = false) := decide_eq_false (fun e => by rcases e with e | e | e <;> contradiction)
                            have d3 : decide (5 < o.do_) = false := decide_eq_false h3
                            go_wp2
                            go_quiet (fail)
                            go_wp2
                            go_meet
                            case rel => exact ⟨by rw [HB.out], (Keeps.refl _ _).drewN _⟩
                    case rest => as_aux_lemma =>
                      obtain ⟨hq, kq⟩ := hcut
                      subst hq
                      have HQ := Lib.hid kq
                      cases hB : skipB u o.s o.do_ with
                      | true =>
                        clear kq n0 nl q0 q1 ql
                        go_wp2
                        go_roundw
                        case rel => exact ⟨k3 + 1, by go_num, HLT3.out, K0.tr HKB.out HQ.out⟩
                        case measure => have := HLT3.out; simp [intOf]; omega
                      | false =>
                        have hne : u ≠ o.s ∧ 0 ≤ o.do_ ∧ o.do_ ≤ 5 := by
                          have h9 := of_decide_eq_false hB
                          exact ⟨fun e => h9 (.inl e), Int.not_lt.1 fun e => h9 (.inr (.inl e)), Int.not_lt.1 fun e => h9 (.inr (.inr e))⟩
                        have HG9 : Hid (aget C2.gs u = some g) := (HAP.out hne.2 u hne.1).1.trans HGU.out
                        have HX9 : Hid ((getV C2.off ⟨u, o.pt, o.pi⟩).1 = x) := by
                          show _ = _
                          rw [(HAP.out hne.2 u hne.1).2 o.pt o.pi]
                          exact HX.out
                        obtain ⟨y, hy⟩ : ∃ y : Bool, (getV C2.off ⟨u, o.pt, o.pi⟩).2 = y := ⟨_, rfl⟩
                        have HJQ := Lib.hid (HJ2.out.keep (K0.tr HKB.out kq))
                        have HCM : Hid (∀ wx, K0 wc wx → Calls Tryz.prog 14 #[.pointer (some ⟨cb, 0, none⟩), .string u, .agg #[.string o.pt, .int .i64 o.pi]] wx fun e w' => e = .returned (.tuple #[.int .i64 x, .bool y]) ∧ K0 wx w') := fun wx hk => by
                          rw [← HX9.out, ← hy]
                          exact jp_comm (HJQ.out.keep hk) u o.pt o.pi
                        clear n0 nl q0 q1 ql hne hB hy
                        obtain ⟨n0, _, _, _, _, _, nl, _, _, _, _, _, _, _⟩ := HF.out wc kq
                        clear kq
                        go_wp2_with fail
                        refine (jp_group HJQ.out HG2.out HG9.out).mono ?_
                        rintro e w6 ⟨gb, gd, rfl, k6⟩
                        have HK6 := Lib.hid k6
                        clear n0 nl k6
                        go_wp2
                        have hbe := heap_new w6 (.cells #[.int .i64 g.phase, .int .i64 g.gen, .int .i64 g.next, .int .i64 g.til, .slice gb g.ones.length gd] 57) _ rfl
                        have hke : K0 w6 (w6.alloc (.cells #[.int .i64 g.phase, .int .i64 g.gen, .int .i64 g.next, .int .i64 g.til, .slice gb g.ones.length gd] 57)) := (Keeps.refl _ _).alloc _
                        generalize w6.alloc (.cells #[.int .i64 g.phase, .int .i64 g.gen, .int .i64 g.next, .int .i64 g.til, .slice gb g.ones.length gd] 57) = we at *
                        have HBE : Hid (we.heap[w6.heap.size]? = some (.cells #[.int .i64 g.phase, .int .i64 g.gen, .int .i64 g.next, .int .i64 g.til, .slice gb g.ones.length gd] 57 (0, 0))) := hbe
                        have HKE := Lib.hid (K0.tr HK6.out hke)
                        have HKQ := Lib.hid (K0.tr HQ.out HKE.out)
                        have HCM2 := Lib.hid (fun (wx : World) (hk : K0 we wx) => HCM.out wx (K0.tr HKE.out hk))
                        have hkd : K0 we we.drew := (Keeps.refl _ _).drew
                        obtain ⟨n0, _, _, _, _, _, nl, _, _, _, _, q7, q8, ql⟩ := HF.out _ (K0.tr HKQ.out hkd)
                        clear hbe hke
                        go_region_held3 (fun w' => w'.cell? ⟨rn, k3, none⟩ = some (.string u) ∧ w'.cell? ⟨wo.heap.size, 7, none⟩ = some (.string o.pt) ∧ w'.cell? ⟨wo.heap.size, 8, none⟩ = some (.int .i64 o.pi) ∧ K0 we w')
                          (first | go_keep | (go_split_ands; refine ⟨?_, ?_, ?_, ?_⟩ <;> first | assumption | exact Keeps.cell' (by assumption) (by assumption) (fun e => e) | exact K0.tr (by assumption) (by assumption)))
                          (first | (go_at_call 14; go_split_ands; refine (HCM2.out _ (by assumption)).mono ?_; rintro e w' ⟨rfl, hk9⟩))
                        all_goals
                          go_split_ands
                          have kk : K0 we w' := by assumption
                          have HKK := Lib.hid kk
                          have hb9 := (kk.block w6.heap.size (block_lt HBE.out) (fun e => e)).trans HBE.out
                          have e0 := block_cell hb9 0
                          have e1 := block_cell hb9 1
                          have e3 := block_cell hb9 3
                          have e4 := block_cell hb9 4
                          have el := block_lt hb9
                          clear n0 nl q7 q8 ql
                          obtain ⟨_, v0, v1, v3, v4, a1, _, vl, al, _, _, _, _, _⟩ := HF.out _ (K0.tr HKQ.out kk)
                          clear kk hb9 hkd
                          go_wp2
                          go_quiet (fail)
                          generalize hwq : w'.drewN _ = wq
                          have HKZ : Hid (K0 w' wq) := by show Keeps _ _ _; rw [← hwq]; exact (Keeps.refl _ _).drewN _
                          clear hwq e0 e1 e3 e4 el v0 v1 v3 v4 a1 vl al
                          go_wp2
                          go_roundw
                          case rel => exact ⟨k3 + 1, by go_num, HLT3.out, K0.tr HKB.out (K0.tr HKQ.out (K0.tr HKK.out HKZ.out))⟩
                          case measure => have := HLT3.out; simp [intOf]; omega
                  · have m1 : ¬ (k3 : Int) < ss.length := by omega
                    clear hkb hk3
                    go_wp2
                    go_roundw
                    case rel => exact ⟨k + 1, C2, R2, tb2, by go_num, HLT.out, H50.out, (HJ2.out.keep HKB.out).drop _, HG2.out⟩
                    case measure => have := HLT.out; simp [intOf]; omega
        · have i2 : ¬ (k : Int) < 50 := by omega
          clear h50 hlt50
          go_wp2_with fail
          refine HLIVE.out.mono ?_
          rintro e w2 ⟨rfl, k2⟩
          have HF := Lib.hid (K0.tr HK0.out k2)
          clear k2
          go_wp2
          go_ret
          exact ⟨rfl, HF.out⟩
      · have i1 : ¬ (k : Int) < l.length := by omega
        go_wp2_with fail
        refine HLIVE.out.mono ?_
        rintro e w2 ⟨rfl, k2⟩
        have HF := Lib.hid (K0.tr HK0.out k2)
        clear k2
        go_wp2
        go_ret
        exact ⟨rfl, HF.out⟩
end Go.Proofs.YtklhlffdpojkoaaGreat
