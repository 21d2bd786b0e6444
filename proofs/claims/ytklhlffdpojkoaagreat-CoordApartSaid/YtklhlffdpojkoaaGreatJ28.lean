/-
  The law's same: a group as it shows itself against the document's.
-/
import Derived.Test.YtklhlffdpojkoaaGreatJ27
namespace Go.Proofs.YtklhlffdpojkoaaGreat
open Go.RowKit Go.Shelf Fx

/-- A row of texts. -/
structure YStrs (w : World) (a : Option Addr) (ss : List ByteArray) : Prop where
  len : ss.length ≤ 9223372036854775807
  row : ss ≠ [] → ∃ r, a = some ⟨r, 0, none⟩ ∧ r < w.heap.size ∧ ∀ i (hi : i < ss.length), w.cell? ⟨r, i, none⟩ = some (.string ss[i])
theorem YStrs.of_own {w : World} {base : Nat} {e : TypeId} {v : Value} {ss : List ByteArray} (h : w.ownsRow base e 1 v ss.length (ss.map .string)) : ∃ a c, v = .slice a ss.length c ∧ YStrs w a ss := by
  have h0 := h
  rcases h.2 with ⟨rfl, h1⟩ | ⟨g, cap, cur, rfl, hb, hg, hc, hm, _⟩
  · have h2 : ss = [] := List.eq_nil_of_length_eq_zero h1
    subst h2
    exact ⟨none, 0, rfl, ⟨by simp, fun h => absurd rfl h⟩⟩
  · refine ⟨_, cap, rfl, by unfold maxLen at hm; omega, fun _ => ⟨g, rfl, block_lt hg, fun i hi => ?_⟩⟩
    rw [h0.cellAt i (by omega), List.getElem?_map, List.getElem?_eq_getElem hi]
    rfl
theorem YStrs.keep {w w' : World} {a : Option Addr} {ss : List ByteArray} (h : YStrs w a ss) (hk : K0 w w') : YStrs w' a ss :=
  ⟨h.len, fun hne => by
    obtain ⟨r, e, hr, hc⟩ := h.row hne
    exact ⟨r, e, Nat.lt_of_lt_of_le hr hk.size, fun i hi => hk.cell' (hc i hi) (fun e => e)⟩⟩
theorem y_toList_ne {x y : ByteArray} (h : ¬ x = y) : (x.toList == y.toList) = false ∧ (y.toList == x.toList) = false := ⟨str_ne h, str_ne (fun e => h e.symm)⟩
set_option maxRecDepth 100000 in
set_option maxHeartbeats 2000000 in
/-- Two lists of texts, told apart. -/
theorem y_same_any {w : World} {a b : Option Addr} {c d : Nat} {ss ts : List ByteArray} (h1 : YStrs w a ss) (h2 : YStrs w b ts) :
    Calls Tryz.prog 36 #[.slice a ss.length c, .slice b ts.length d] w fun e w' => e = .returned (.bool (decide (ss = ts))) ∧ K0 w w' := by
  have m1 := h1.len
  have m2 := h2.len
  by_cases hlen : ss.length = ts.length
  · by_cases hz : ss = []
    · subst hz
      have hz2 : ts = [] := List.eq_nil_of_length_eq_zero hlen.symm
      subst hz2
      clear h1 h2 hlen
      go_enter Tryz.func36, Tryz.ntmps36
      go_wp2
      refine wp_loop_once ?_
      go_wp2
      go_ret
      exact ⟨rfl, Keeps.refl _ _⟩
    · obtain ⟨r1, rfl, l1, c1⟩ := h1.row hz
      obtain ⟨r2, rfl, l2, c2⟩ := h2.row (fun e => hz (List.eq_nil_of_length_eq_zero (by rw [hlen, e]; rfl)))
      have H1 := Lib.hid c1
      have H2 := Lib.hid c2
      have HL := Lib.hid hlen
      have q1 : ((ss.length : Int) == ts.length) = true := by simp; omega
      have q2 : (ss.length == ts.length) = true := by simp; omega
      clear h1 h2 c1 c2 hz hlen
      go_enter Tryz.func36, Tryz.ntmps36
      go_wp2
      go_loopw [5] (fun i wr => ∃ k : Nat, i = .int .i64 k ∧ k ≤ ss.length ∧ (∀ j (hj : j < ss.length) (hj2 : j < ts.length), j < k → ss[j] = ts[j]) ∧ K0 w wr) (fun i _ => ss.length - (intOf i).toNat)
      case atStart => exact ⟨0, rfl, by omega, fun _ _ _ h => absurd h (Nat.not_lt_zero _), Keeps.refl _ _⟩
      case round =>
        obtain ⟨k, rfl, hk, hq, hkr⟩ := hrel
        have HQ := Lib.hid hq
        have HKR := Lib.hid hkr
        have s1 := Nat.lt_of_lt_of_le l1 hkr.size
        have s2 := Nat.lt_of_lt_of_le l2 hkr.size
        clear hq
        by_cases hlt : k < ss.length
        · have hlt2 : k < ts.length := by have := HL.out; omega
          have d1 := hkr.cell' (H1.out k hlt) (fun e => e)
          have d2 := hkr.cell' (H2.out k hlt2) (fun e => e)
          have i0 : (0 : Int) ≤ k := by omega
          have i1 : (k : Int) < ss.length := by omega
          have i2 : (k : Int) < ts.length := by omega
          by_cases he : ss[k] = ts[k]
          · have HE := Lib.hid he
            rw [he] at d1
            generalize ts[k] = x at d1 d2
            have HLT := Lib.hid hlt
            clear he hkr
            go_wp2_with fail
            go_quiet (fail)
            go_wp2
            go_roundw
            case rel => exact ⟨k + 1, by go_num, HLT.out, fun j hj hj2 h2 => (Nat.lt_succ_iff_lt_or_eq.1 h2).elim (HQ.out j hj hj2) fun e => by subst e; exact HE.out, HKR.out.drewN _⟩
            case measure => have := HLT.out; simp [intOf]; omega
          · have HD : Hid (decide (ss = ts) = false) := by show _ = _; exact decide_eq_false (fun e => he (by simp only [e]))
            generalize ts[k] = x at d2 he
            generalize ss[k] = y at d1 he
            obtain ⟨he1, he2⟩ := y_toList_ne he
            clear he hkr
            go_wp2_with fail
            go_quiet (fail)
            go_wp2
            go_ret
            exact ⟨by rw [HD.out]; rfl, HKR.out.drewN _⟩
        · have HD : Hid (decide (ss = ts) = true) := by
            show _ = _
            exact decide_eq_true (List.ext_getElem HL.out fun j h1 h2 => HQ.out j h1 h2 (by omega))
          have i1 : ¬ (k : Int) < ss.length := by omega
          clear hkr
          go_wp2
          go_ret
          exact ⟨by rw [HD.out]; rfl, HKR.out⟩
  · have HD : Hid (decide (ss = ts) = false) := by show _ = _; exact decide_eq_false (fun e => hlen (by rw [e]))
    have q1 : ((ss.length : Int) == ts.length) = false := by simp; omega
    clear h1 h2
    go_enter Tryz.func36, Tryz.ntmps36
    go_wp2
    go_ret
    exact ⟨by rw [HD.out]; rfl, Keeps.refl _ _⟩
set_option maxRecDepth 100000 in
set_option maxHeartbeats 2000000 in
/-- The same texts in two rows. -/
theorem same_texts {w : World} {a1 a2 : Option Addr} {c1 c2 : Nat} {l : List ByteArray} (h1 : SlAt 1 rStr w a1 c1 l) (h2 : SlAt 1 rStr w a2 c2 l) :
    Calls Tryz.prog 36 #[.slice a1 l.length c1, .slice a2 l.length c2] w fun e w' => e = .returned (.bool true) ∧ K0 w w' := by
  have hm := h1.len
  have H1 := Lib.hid h1
  have H2 := Lib.hid h2
  clear h1 h2
  have hne : ((l.length : Int) == l.length) = true := by simp
  go_enter Tryz.func36, Tryz.ntmps36
  go_wp2
  go_loopw [5] (fun i wr => ∃ k : Nat, i = .int .i64 k ∧ k ≤ l.length ∧ K0 w wr) (fun i _ => l.length - (intOf i).toNat)
  case atStart => exact ⟨0, rfl, by omega, Keeps.refl _ _⟩
  case round =>
    obtain ⟨k, rfl, hk, hkr⟩ := hrel
    have HKR := Lib.hid hkr
    have i0 : (0 : Int) ≤ k := by omega
    by_cases hlt : k < l.length
    · obtain ⟨b1, off1, rfl, r1⟩ := H1.out.row hlt
      obtain ⟨b2, off2, rfl, r2⟩ := H2.out.row hlt
      obtain ⟨x0, hb1⟩ := str_cells r1 (K0.below hkr) k hlt
      obtain ⟨y0, hb2⟩ := str_cells r2 (K0.below hkr) k hlt
      clear r1 r2 hkr
      generalize l[k] = x at x0 y0
      have i1 : (k : Int) < l.length := by omega
      have HLT := Lib.hid hlt
      go_wp2_with fail
      go_quiet (fail)
      go_wp2
      go_roundw
      case rel => exact ⟨k + 1, by go_num, HLT.out, HKR.out.drewN _⟩
      case measure => have := HLT.out; simp [intOf]; omega
    · have i1 : ¬ (k : Int) < l.length := by omega
      clear hkr
      go_wp2
      go_ret
      exact ⟨rfl, HKR.out⟩
theorem same_topics {w : World} {G1 G2 : Nat → Prop} {v1 v2 : Value} {l : List ByteArray} (h1 : Out 1 rStr w G1 v1 l) (h2 : Out 1 rStr w G2 v2 l) : Calls Tryz.prog 36 #[v1, v2] w fun e w' => e = .returned (.bool true) ∧ K0 w w' := by
  obtain ⟨a1, c1, rfl, s1, _⟩ := h1
  obtain ⟨a2, c2, rfl, s2, _⟩ := h2
  exact same_texts s1 s2
theorem same_partsO {w : World} {G1 G2 : Nat → Prop} {v1 v2 : Value} {l : List PartC} (h1 : Out 2 rPart w G1 v1 l) (h2 : Out 2 rPart w G2 v2 l) : Calls Tryz.prog 28 #[v1, v2] w fun e w' => e = .returned (.bool true) ∧ K0 w w' := by
  obtain ⟨a1, c1, rfl, s1, _⟩ := h1
  obtain ⟨a2, c2, rfl, s2, _⟩ := h2
  refine (sameParts24 w w a1 a2 c1 c2 l s1 s2 (Below.refl _ _)).mono fun e w' hq => ?_
  obtain ⟨rfl, n, rfl⟩ := hq
  exact ⟨rfl, (Keeps.refl _ _).drewN _⟩
theorem PartsR.same {w w1 w2 : World} {v1 v2 : Value} {ps : List PartC} (h1 : PartsR w1 v1 ps) (h2 : PartsR w2 v2 ps) (k1 : K0 w1 w) (k2 : K0 w2 w) : Calls Tryz.prog 28 #[v1, v2] w fun e w' => e = .returned (.bool true) ∧ K0 w w' :=
  same_partsO (h1.1.keep still_part k1 (fun _ _ _ e => e) (fun _ _ e => e)) (h2.1.keep still_part k2 (fun _ _ _ e => e) (fun _ _ e => e))
set_option maxRecDepth 100000 in
set_option maxHeartbeats 4000000 in
theorem sameOne_any (w : World) (x : OneC) {G1 G2 G3 G4 : Nat → Prop} {tv1 tv2 pv1 pv2 : Value} (h1 : Out 1 rStr w G1 tv1 x.topics) (h2 : Out 1 rStr w G2 tv2 x.topics) (h3 : Out 2 rPart w G3 pv1 x.parts) (h4 : Out 2 rPart w G4 pv2 x.parts) :
    Calls Tryz.prog 61 #[.agg #[.int .i64 x.member, tv1, .int .i64 x.til, .bool x.joined, pv1], .int .i64 x.member, tv2, .int .i64 x.til, .bool x.joined, pv2] w fun e w' => e = .returned (.bool true) ∧ K0 w w' := by
  obtain ⟨a1, c1, rfl, s1, _⟩ := h1
  obtain ⟨a2, c2, rfl, s2, _⟩ := h2
  have o3 := h3
  have o4 := h4
  obtain ⟨a3, c3, rfl, _, _⟩ := h3
  obtain ⟨a4, c4, rfl, _, _⟩ := h4
  have HS := Lib.hid (fun wx (hk : K0 w wx) => same_texts (s1.keep0 stable_str hk) (s2.keep0 stable_str hk))
  have HP := Lib.hid (fun wx (hk : K0 w wx) => same_partsO (w := wx) (G1 := fun _ => True) (G2 := fun _ => True) (o3.keep still_part hk (fun _ _ _ e => e) (fun _ _ _ => trivial)) (o4.keep still_part hk (fun _ _ _ e => e) (fun _ _ _ => trivial)))
  have HB : Hid ((w.alloc (.cells #[.int .i64 x.member, .slice a1 x.topics.length c1, .int .i64 x.til, .bool x.joined, .slice a3 x.parts.length c3] 111)).heap[w.heap.size]? = some (.cells #[.int .i64 x.member, .slice a1 x.topics.length c1, .int .i64 x.til, .bool x.joined, .slice a3 x.parts.length c3] 111 (0, 0))) := heap_new _ _ _ rfl
  clear s1 s2 o3 o4
  generalize x.member = m0 at *
  generalize x.til = t0 at *
  generalize x.joined = j0 at *
  generalize x.topics.length = n0 at *
  generalize x.parts.length = n1 at *
  go_enter Tryz.func61, Tryz.ntmps61
  go_wp2_with fail
  refine (HS.out _ ((Keeps.refl _ _).alloc _)).mono ?_
  rintro e w2 ⟨rfl, k2⟩
  have hb2 := (k2.block _ (block_lt HB.out) (fun e => e)).trans HB.out
  have x2 := block_cell hb2 2
  have x3 := block_cell hb2 3
  have x4 := block_cell hb2 4
  have xl := block_lt hb2
  have HK2 := Lib.hid (K0.tr ((Keeps.refl _ w).alloc _) k2)
  clear hb2 k2
  cases j0
  all_goals
    go_wp2_with fail
    refine (HP.out _ HK2.out).mono ?_
    rintro e w3 ⟨rfl, k3⟩
    have HK3 := Lib.hid (K0.tr HK2.out k3)
    clear k3
    go_wp2
    go_ret
    exact ⟨rfl, HK3.out⟩
structure ViewC (w : World) (base r : Nat) (c : Nat) (ones : List OneC) (C : List OneV) : Prop where
  core : C.map OneV.core = ones
  row : w.ownsRow base 94 5 (.slice (some ⟨r, 0, none⟩) C.length c) C.length (C.flatMap oneEnc)
  out : ∀ x ∈ C, Out 1 rStr w (fun k => base ≤ k) x.tv x.topics ∧ Out 2 rPart w (fun k => base ≤ k) x.pv x.parts
theorem ViewAt.form {w : World} {base : Nat} {a : Option Addr} {c : Nat} {ones : List OneC} (h : ViewAt w base (.slice a ones.length c) ones) : (ones = [] ∧ a = none ∧ c = 0) ∨ ∃ r C, a = some ⟨r, 0, none⟩ ∧ ViewC w base r c ones C := by
  obtain ⟨C, h1, h2, h3⟩ := h
  have hl : C.length = ones.length := by rw [← h1]; simp
  rcases h2.2 with ⟨e1, e2⟩ | ⟨r, cap, cur, e1, _⟩
  · simp only [Value.slice.injEq] at e1
    exact .inl ⟨List.eq_nil_of_length_eq_zero (by omega), e1.1, e1.2.2⟩
  · simp only [Value.slice.injEq] at e1
    obtain ⟨rfl, _, rfl⟩ := e1
    exact .inr ⟨r, C, rfl, h1, by rw [hl]; rw [hl] at h2; exact h2, h3⟩
theorem ViewC.cell {w : World} {base r c : Nat} {ones : List OneC} {C : List OneV} (h : ViewC w base r c ones C) (i : Nat) (hi : i < C.length) :
    w.cell? ⟨r, i * 5, none⟩ = some (.int .i64 C[i].member) ∧ w.cell? ⟨r, i * 5 + 1, none⟩ = some C[i].tv ∧ w.cell? ⟨r, i * 5 + 2, none⟩ = some (.int .i64 C[i].til) ∧ w.cell? ⟨r, i * 5 + 3, none⟩ = some (.bool C[i].joined) ∧ w.cell? ⟨r, i * 5 + 4, none⟩ = some C[i].pv := by
  have hc : ∀ j, j < 5 → w.cell? ⟨r, i * 5 + j, none⟩ = (oneEnc C[i])[j]? := fun j hj => by
    rw [h.row.cellAt (i * 5 + j) (by omega)]
    exact flatMap_get oneEnc 5 oneEnc_len C i j hi hj
  exact ⟨hc 0 (by omega), hc 1 (by omega), hc 2 (by omega), hc 3 (by omega), hc 4 (by omega)⟩
set_option maxRecDepth 100000 in
set_option maxHeartbeats 8000000 in
theorem lsame_any (w : World) {F : Nat → Prop} {b base : Nat} {g : GroupC} {a : Option Addr} {c : Nat} (hv : ViewAt w base (.slice a g.ones.length c) g.ones) (hg : RGrp w F b g) (hl : g.ones.length ≤ 1000) :
    Calls Tryz.prog 38 #[.agg #[.int .i64 g.phase, .int .i64 g.gen, .int .i64 g.next, .int .i64 g.til, .slice a g.ones.length c], .pointer (some ⟨b, 0, none⟩)] w fun e w' => e = .returned (.bool true) ∧ K0 w w' := by
  obtain ⟨v2, L, hg⟩ := hg
  have hlen := hg.len
  obtain ⟨a2, c2, rfl⟩ := y_own_slice hg.row
  have HB : Hid ((w.alloc (.cells #[.int .i64 g.phase, .int .i64 g.gen, .int .i64 g.next, .int .i64 g.til, .slice a g.ones.length c] 57)).heap[w.heap.size]? = some (.cells #[.int .i64 g.phase, .int .i64 g.gen, .int .i64 g.next, .int .i64 g.til, .slice a g.ones.length c] 57 (0, 0))) := heap_new _ _ _ rfl
  have HH := Lib.hid hg
  have HV := Lib.hid hv
  have HK := Lib.hid ((Keeps.refl (fun _ => False) w).alloc (.cells #[.int .i64 g.phase, .int .i64 g.gen, .int .i64 g.next, .int .i64 g.til, .slice a g.ones.length c] 57))
  have h1 := hg.keep HK.out (fun _ _ e => e)
  have y2 := block_cell h1.blk 2
  have y3 := block_cell h1.blk 3
  have y4 := block_cell h1.blk 4
  have y5 := block_cell h1.blk 5
  have yb := block_lt h1.blk
  simp only [gCells] at y2 y3 y4 y5
  have z2 : (w.alloc (.cells #[.int .i64 g.phase, .int .i64 g.gen, .int .i64 g.next, .int .i64 g.til, .slice a g.ones.length c] 57)).cell? ⟨b, 2, none⟩ = some (.int .i64 g.phase) := y2
  have z3 : (w.alloc (.cells #[.int .i64 g.phase, .int .i64 g.gen, .int .i64 g.next, .int .i64 g.til, .slice a g.ones.length c] 57)).cell? ⟨b, 3, none⟩ = some (.int .i64 g.gen) := y3
  have z4 : (w.alloc (.cells #[.int .i64 g.phase, .int .i64 g.gen, .int .i64 g.next, .int .i64 g.til, .slice a g.ones.length c] 57)).cell? ⟨b, 4, none⟩ = some (.int .i64 g.next) := y4
  have z5 : (w.alloc (.cells #[.int .i64 g.phase, .int .i64 g.gen, .int .i64 g.next, .int .i64 g.til, .slice a g.ones.length c] 57)).cell? ⟨b, 5, none⟩ = some (.int .i64 g.til) := y5
  have z6 : (w.alloc (.cells #[.int .i64 g.phase, .int .i64 g.gen, .int .i64 g.next, .int .i64 g.til, .slice a g.ones.length c] 57)).cell? ⟨b, 6, none⟩ = some (.slice a2 g.ones.length c2) := (block_cell h1.blk 6).trans (by rw [hlen]; rfl)
  have t0 := block_cell HB.out 0
  have t1 := block_cell HB.out 1
  have t2 := block_cell HB.out 2
  have t3 := block_cell HB.out 3
  have t4 := block_cell HB.out 4
  have tb := block_lt HB.out
  have HLEN := Lib.hid hlen
  have HVF := Lib.hid hv.form
  clear y2 y3 y4 y5 h1 hv hg hlen
  obtain ⟨wa, hwa⟩ : ∃ wa, w.alloc (.cells #[.int .i64 g.phase, .int .i64 g.gen, .int .i64 g.next, .int .i64 g.til, .slice a g.ones.length c] 57) = wa := ⟨_, rfl⟩
  have HWA := Lib.hid hwa
  rw [hwa] at HB HK z2 z3 z4 z5 z6 t0 t1 t2 t3 t4 tb yb
  generalize hvn : g.ones.length = n at *
  have HN := Lib.hid hvn
  generalize hp0 : g.phase = p0 at *
  generalize hp1 : g.gen = p1 at *
  generalize hp2 : g.next = p2 at *
  generalize hp3 : g.til = p3 at *
  clear hwa hvn hp0 hp1 hp2 hp3
  go_enter Tryz.func38, Tryz.ntmps38
  go_wp2_with fail
  rw [HWA.out]
  go_upto_region 1 with fail
  go_cut [51] (fun q wz => q = .bool false ∧ K0 wa wz)
  case first =>
    go_quiet (fail)
    go_wp2
    go_meet
    case rel => exact ⟨rfl, (Keeps.refl _ _).drewN _⟩
  case rest =>
    obtain ⟨rfl, hkz⟩ := hcut
    obtain ⟨wz, rfl⟩ : ∃ wz : World, wz = wc := ⟨_, rfl⟩
    have HKZ := Lib.hid hkz
    clear z2 z3 z4 z5 z6 t0 t1 t2 t3 t4 tb yb
    go_wp2
    go_loopw [5] (fun i wr => ∃ k : Nat, i = .int .i64 k ∧ k ≤ n ∧ K0 wz wr) (fun i _ => n - (intOf i).toNat)
    case atStart => exact ⟨0, rfl, by omega, Keeps.refl _ _⟩
    case round =>
      obtain ⟨k, rfl, hk, hkr⟩ := hrel
      have HKR := Lib.hid hkr
      have HKA := Lib.hid (K0.tr HKZ.out hkr)
      have HKW := Lib.hid (K0.tr HK.out HKA.out)
      have i0 : (0 : Int) ≤ k := by omega
      have h2 := HH.out.keep HKW.out (fun _ _ e => e)
      have z6 : wr.cell? ⟨b, 6, none⟩ = some (.slice a2 n c2) := (block_cell h2.blk 6).trans (by rw [HLEN.out]; rfl)
      have zb := block_lt h2.blk
      clear hkr
      by_cases hlt : k < n
      · have hb2 := (HKA.out.block _ (block_lt HB.out) (fun e => e)).trans HB.out
        have t4 : wr.cell? ⟨w.heap.size, 4, none⟩ = some (.slice a n c) := block_cell hb2 4
        have tb := block_lt hb2
        have HB2 := Lib.hid hb2
        have hltL : k < L.length := by rw [← HLEN.out]; exact hlt
        rcases HVF.out with ⟨e0, _, _⟩ | ⟨r, CC, rfl, hvc⟩
        · have := HN.out; rw [e0] at this; simp at this; omega
        rcases h2.form with ⟨e0, _⟩ | ⟨r2, cap2, e2, hrb, hrl, hcap, _⟩
        · rw [e0] at hltL; exact absurd hltL (Nat.not_lt_zero _)
        have hcl : CC.length = n := by have h9 := congrArg List.length hvc.core; rw [List.length_map] at h9; rw [h9]; exact HN.out
        have hltC : k < CC.length := by omega
        have e3 := e2
        simp only [Value.slice.injEq] at e3
        obtain ⟨rfl, _, rfl⟩ := e3
        obtain ⟨v0, v1, v2, v3, v4⟩ := hvc.cell k hltC
        have q0 := HKW.out.cell' v0 (fun e => e)
        have q1 := HKW.out.cell' v1 (fun e => e)
        have q2 := HKW.out.cell' v2 (fun e => e)
        have q3 := HKW.out.cell' v3 (fun e => e)
        have q4 := HKW.out.cell' v4 (fun e => e)
        have qr := cell_block1 q0
        obtain ⟨u0, u1, u2, u3, u4⟩ := h2.cell rfl k hltL
        have hcore : CC[k].core = L[k].core := by
          have e1 : CC.map OneV.core = L.map OneV.core := hvc.core.trans HH.out.ones.symm
          have e2 := congrArg (fun l => l[k]?) e1
          simpa [hltC, hltL] using e2
        obtain ⟨o1, o3⟩ := hvc.out _ (List.getElem_mem hltC)
        obtain ⟨o2, o4⟩ := HH.out.out _ (List.getElem_mem hltL)
        have em : CC[k].member = L[k].member := congrArg OneC.member hcore
        have et : CC[k].topics = L[k].topics := congrArg OneC.topics hcore
        have eu : CC[k].til = L[k].til := congrArg OneC.til hcore
        have ej : CC[k].joined = L[k].joined := congrArg OneC.joined hcore
        have ep : CC[k].parts = L[k].parts := congrArg OneC.parts hcore
        rw [et] at o1
        rw [ep] at o3
        have HS : Hid (∀ wx, K0 wr wx → Calls Tryz.prog 61 #[.agg #[.int .i64 L[k].member, L[k].tv, .int .i64 L[k].til, .bool L[k].joined, L[k].pv], .int .i64 CC[k].member, CC[k].tv, .int .i64 CC[k].til, .bool CC[k].joined, CC[k].pv] wx fun e w' => e = .returned (.bool true) ∧ K0 wx w') := fun wx hk => by
          rw [em, eu, ej]
          have hkx := K0.tr HKW.out hk
          exact sameOne_any wx L[k].core (o2.keep still_str hkx (fun _ _ _ e => e) (fun _ _ e => e)) (o1.keep still_str hkx (fun _ _ _ e => e) (fun _ _ e => e)) (o4.keep still_part hkx (fun _ _ _ e => e) (fun _ _ e => e)) (o3.keep still_part hkx (fun _ _ _ e => e) (fun _ _ e => e))
        obtain ⟨ta1, tc1, et1, _, _⟩ := o1
        obtain ⟨ta2, tc2, et2, _, _⟩ := o2
        obtain ⟨ta3, tc3, et3, _, _⟩ := o3
        obtain ⟨ta4, tc4, et4, _, _⟩ := o4
        rw [et1] at q1 HS
        rw [et2] at u1 HS
        rw [et3] at q4 HS
        rw [et4] at u4 HS
        generalize L[k].topics.length = nt at *
        generalize L[k].parts.length = np at *
        generalize L[k].member = m2 at *
        generalize L[k].til = l2 at *
        generalize L[k].joined = j2 at *
        generalize CC[k].member = m1 at *
        generalize CC[k].til = l1 at *
        generalize CC[k].joined = j1 at *
        clear v0 v1 v2 v3 v4 em et eu ej ep hcore hvc et1 et2 et3 et4 h2 hb2 e2 hcap
        have i1 : (k : Int) < n := by omega
        have HLT := Lib.hid hlt
        clear hlt
        have HN9 : Hid (∀ wx : World, K0 wr wx → wx.cell? ⟨b, 6, none⟩ = some (.slice (some ⟨r2, 0, none⟩) n c2) ∧ wx.cell? ⟨r2, k * 5, none⟩ = some (.int .i64 m2) ∧ wx.cell? ⟨r2, k * 5 + 1, none⟩ = some (.slice ta2 nt tc2) ∧ wx.cell? ⟨r2, k * 5 + 2, none⟩ = some (.int .i64 l2) ∧ wx.cell? ⟨r2, k * 5 + 3, none⟩ = some (.bool j2) ∧ wx.cell? ⟨r2, k * 5 + 4, none⟩ = some (.slice ta4 np tc4) ∧ b < wx.heap.size ∧ r2 < wx.heap.size) := fun wx hk =>
          ⟨hk.cell' z6 (fun e => e), hk.cell' u0 (fun e => e), hk.cell' u1 (fun e => e), hk.cell' u2 (fun e => e), hk.cell' u3 (fun e => e), hk.cell' u4 (fun e => e), Nat.lt_of_lt_of_le zb hk.size, Nat.lt_of_lt_of_le hrl hk.size⟩
        go_wp2
        have hbe := heap_new wr (.cells #[.int .i64 m1, .slice ta1 nt tc1, .int .i64 l1, .bool j1, .slice ta3 np tc3] 94) _ rfl
        have hke : K0 wr (wr.alloc (.cells #[.int .i64 m1, .slice ta1 nt tc1, .int .i64 l1, .bool j1, .slice ta3 np tc3] 94)) := (Keeps.refl _ _).alloc _
        generalize wr.alloc (.cells #[.int .i64 m1, .slice ta1 nt tc1, .int .i64 l1, .bool j1, .slice ta3 np tc3] 94) = we at *
        have hkd : K0 wr we.drew := hke.drew
        have hbd : we.drew.heap[wr.heap.size]? = some (.cells #[.int .i64 m1, .slice ta1 nt tc1, .int .i64 l1, .bool j1, .slice ta3 np tc3] 94 (0, 0)) := hbe
        obtain ⟨s6, s0, s1, s2, s3, s4, sb, sr⟩ := HN9.out _ hkd
        have e0 := block_cell hbd 0
        have e1 := block_cell hbd 1
        have e2 := block_cell hbd 2
        have e3 := block_cell hbd 3
        have e4 := block_cell hbd 4
        have el := block_lt hbd
        clear hbe hbd u0 u1 u2 u3 u4 z6 q0 q1 q2 q3 q4 t4
        go_region_held3 (fun w' => w'.cell? ⟨wr.heap.size, 0, none⟩ = some (.int .i64 m1) ∧ w'.cell? ⟨wr.heap.size, 1, none⟩ = some (.slice ta1 nt tc1) ∧ w'.cell? ⟨wr.heap.size, 2, none⟩ = some (.int .i64 l1) ∧ w'.cell? ⟨wr.heap.size, 3, none⟩ = some (.bool j1) ∧ w'.cell? ⟨wr.heap.size, 4, none⟩ = some (.slice ta3 np tc3) ∧ w'.cell? ⟨b, 6, none⟩ = some (.slice (some ⟨r2, 0, none⟩) n c2) ∧ w'.cell? ⟨r2, k * 5, none⟩ = some (.int .i64 m2) ∧ w'.cell? ⟨r2, k * 5 + 1, none⟩ = some (.slice ta2 nt tc2) ∧ w'.cell? ⟨r2, k * 5 + 2, none⟩ = some (.int .i64 l2) ∧ w'.cell? ⟨r2, k * 5 + 3, none⟩ = some (.bool j2) ∧ w'.cell? ⟨r2, k * 5 + 4, none⟩ = some (.slice ta4 np tc4) ∧ K0 wr w')
          (first | go_keep | (go_split_ands; refine ⟨?_, ?_, ?_, ?_, ?_, ?_, ?_, ?_, ?_, ?_, ?_, ?_⟩ <;> first | assumption | exact Keeps.cell' (by assumption) (by assumption) (fun e => e) | exact K0.tr (by assumption) (by assumption) | exact Nat.lt_of_lt_of_le (by assumption) (Keeps.size (by assumption))))
          (first | (go_at_call 61; go_split_ands; refine (HS.out _ (by assumption)).mono ?_; rintro e w' ⟨rfl, hk9⟩))
        all_goals
          go_split_ands
          have kk : K0 wr w' := by assumption
          have HKK := Lib.hid kk
          clear kk
          go_wp2
          go_roundw
          case rel => exact ⟨k + 1, by go_num, HLT.out, K0.tr HKR.out HKK.out⟩
          case measure => have := HLT.out; simp [intOf]; omega
      · have i1 : ¬ (k : Int) < n := by omega
        clear h2
        go_wp2
        go_ret
        exact ⟨rfl, HKW.out⟩
end Go.Proofs.YtklhlffdpojkoaaGreat
