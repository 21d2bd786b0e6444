/-
  Whether all have joined; where a member is.
-/
import Derived.Test.YtklhlffdpojkoaaGreatJ07
import Derived.RegionTactic
import Derived.Deep.DeepCutAuto
namespace Go.Proofs.YtklhlffdpojkoaaGreat
open Go.RowKit Go.Shelf Fx

theorem idx_any (p : OneV → Bool) (L : List OneV) : decide (idxOf p L ≥ 0) = L.any p := by
  unfold idxOf
  cases h : L.findIdx? p with
  | none =>
    have := List.findIdx?_eq_none_iff.1 h
    have h2 : L.any p = false := List.any_eq_false.2 fun x hx => by simp [this x hx]
    rw [h2]
    rfl
  | some i =>
    obtain ⟨h1, h2, _⟩ := List.findIdx?_eq_some_iff_getElem.1 h
    have h3 : L.any p = true := List.any_eq_true.2 ⟨_, List.getElem_mem h1, h2⟩
    rw [h3]
    simp only [decide_eq_true_eq]
    omega
set_option maxRecDepth 100000 in
set_option maxHeartbeats 1000000 in
theorem containsFunc (w : World) (v : Value) (L : List OneV) (c : Nat) (caps : Array Value) (p : OneV → Bool) (hv : RowV w v L) (eg : ∀ args w, (callFunc c args).run Tryz.prog w = .ok (.enter c args) w) (hp : ∀ w1, K0 w w1 → Tests c caps p w1) :
    Calls Tryz.prog 103 #[v, .func (.func c) #[] caps] w fun e w' => Same w e (.bool (L.any p)) w' := by
  have HI := Lib.hid (indexFunc w v L c caps p hv eg hp)
  have HA := Lib.hid (idx_any p L)
  clear hv eg hp
  generalize idxOf p L = i at HI HA
  go_enter Tryz.func103, Tryz.ntmps103
  go_wp2_with fail
  refine HI.out.mono ?_
  rintro e w' ⟨rfl, hk'⟩
  go_wp2
  go_ret
  rw [← HA.out]
  exact ⟨rfl, hk'⟩
set_option maxRecDepth 100000 in
set_option maxHeartbeats 1000000 in
theorem complete_any (w : World) (F : Nat → Prop) (b : Nat) (g : GroupC) (v : Value) (L : List OneV) (h : GrpAt w F b g v L) (hl : L.length ≤ 1000) :
    Calls Tryz.prog 67 #[.pointer (some ⟨b, 0, none⟩)] w fun e w' => Same w e (.bool (g.ones.all (·.joined))) w' := by
  have HC := Lib.hid (containsFunc w v L _ #[] (fun x => !x.joined) (h.rowV (by omega)) enters_complete (fun w1 _ => tests_complete w1))
  have hb := block_lt h.blk
  have HA : Hid (g.ones.all (·.joined) = !(L.any fun x => !x.joined)) := by
    show _ = _
    rw [← h.ones, List.all_map, List.not_any_eq_all_not]
    congr 1
    funext x
    simp [OneV.core]
  have hx : w.cell? ⟨b, 6, none⟩ = some v := block_cell h.blk 6
  clear h hl
  generalize (L.any fun x => !x.joined) = q at HC HA
  go_enter Tryz.func67, Tryz.ntmps67
  go_wp2_with fail
  refine HC.out.mono ?_
  rintro e w' ⟨rfl, hk'⟩
  go_wp2
  go_ret
  rw [HA.out]
  exact ⟨rfl, hk'⟩

/-- How a member's number compares. -/
def cmpM (x m : Int) : Int := wrap64 (x - m)
theorem cmp_in {x m : Int} (hx : 0 ≤ x ∧ x ≤ 1152921504606846976) (hm : -1152921504606846976 ≤ m ∧ m ≤ 1152921504606846976) : cmpM x m = x - m := IntWalk.wrap64_in _ (by omega)
theorem cmp_zero {x m : Int} (hx : 0 ≤ x ∧ x ≤ 1152921504606846976) (hm : -9223372036854775808 ≤ m ∧ m ≤ 9223372036854775807) : (cmpM x m == 0) = (x == m) := by
  unfold cmpM wrap64
  by_cases e : x = m
  · subst e; simp
  · have h2 : ¬ (x - m + 9223372036854775808) % 18446744073709551616 - 9223372036854775808 = 0 := by omega
    rw [beq_false_of_ne h2, beq_false_of_ne e]
set_option maxHeartbeats 400000 in
theorem find_cmp (x : OneV) (m : Int) (w : World) : Calls Tryz.prog 101 #[.agg #[.int .i64 x.member, x.tv, .int .i64 x.til, .bool x.joined, x.pv], .int .i64 m] w fun e w' => Same w e (.int .i64 (cmpM x.member m)) w' := by
  obtain ⟨a, t, u, j, p, _, _⟩ := x
  go_enter Tryz.func101, Tryz.ntmps101
  go_wp2
  go_ret
  exact ⟨rfl, (Keeps.refl _ _).alloc _⟩
/-- Rising members. -/
structure RiseM (L : List OneV) : Prop where
  rise : ∀ i j (hi : i < L.length) (hj : j < L.length), i < j → L[i].member < L[j].member
  wf : ∀ i (hi : i < L.length), 0 ≤ L[i].member ∧ L[i].member ≤ 1152921504606846976
/-- Where the search ends: at a place, with an answer that is true just where the member is there. -/
def Found (L : List OneV) (m : Int) (e : Ending) : Prop :=
  ∃ (a : Nat) (f : Bool), e = .returned (.tuple #[.int .i64 a, .bool f]) ∧ a ≤ L.length ∧ (f = true → ∃ h : a < L.length, L[a].member = m) ∧ (f = false → ∀ i (h : i < L.length), L[i].member ≠ m)
/-- The search knows: all ahead of a are less, all from b on are not. -/
def Halves (L : List OneV) (m : Int) (a b : Nat) : Prop :=
  -1152921504606846976 ≤ m ∧ m ≤ 1152921504606846976 → (∀ k (h : k < L.length), k < a → L[k].member < m) ∧ (∀ k (h : k < L.length), b ≤ k → m ≤ L[k].member)
theorem Halves.low {L : List OneV} {m : Int} {a b c : Nat} (hr : RiseM L) (h : Halves L m a b) (hc : c < L.length) (hd : cmpM L[c].member m < 0) : Halves L m (c + 1) b := fun hm => by
  refine ⟨fun k hk hkc => ?_, (h hm).2⟩
  rw [cmp_in (hr.wf c hc) hm] at hd
  rcases Nat.lt_or_ge k c with h3 | h3
  · have := hr.rise k c hk hc h3
    omega
  · obtain rfl : k = c := by omega
    omega
theorem Halves.high {L : List OneV} {m : Int} {a b c : Nat} (hr : RiseM L) (h : Halves L m a b) (hc : c < L.length) (hd : ¬ cmpM L[c].member m < 0) : Halves L m a c := fun hm => by
  refine ⟨(h hm).1, fun k hk hkc => ?_⟩
  rw [cmp_in (hr.wf c hc) hm] at hd
  rcases Nat.lt_or_ge c k with h3 | h3
  · have := hr.rise c k hc hk h3
    omega
  · obtain rfl : k = c := by omega
    omega
theorem Halves.found {L : List OneV} {m : Int} {a : Nat} (hr : RiseM L) (hm : -9223372036854775808 ≤ m ∧ m ≤ 9223372036854775807) (_h : Halves L m a a) (ha : a < L.length) : (cmpM L[a].member m == 0) = true → L[a].member = m := fun e => by
  rw [cmp_zero (hr.wf a ha) hm] at e
  exact eq_of_beq e
theorem Halves.none {L : List OneV} {m : Int} {a : Nat} (hr : RiseM L) (h : Halves L m a a) (ha : ∀ h : a < L.length, L[a].member ≠ m) : ∀ i (h : i < L.length), L[i].member ≠ m := fun i hi e => by
  have hm := hr.wf i hi
  obtain ⟨h1, h2⟩ := h (by omega)
  rcases Nat.lt_trichotomy i a with h3 | h3 | h3
  · have := h1 i hi h3
    omega
  · subst h3
    exact ha hi e
  · have := h2 a (by omega) (Nat.le_refl _)
    have := hr.rise a i (by omega) hi h3
    omega

set_option maxRecDepth 100000 in
set_option maxHeartbeats 2000000 in
theorem searchM (w : World) (v : Value) (L : List OneV) (m : Int) (hv : RowV w v L) (hr : RiseM L) (hm : -9223372036854775808 ≤ m ∧ m ≤ 9223372036854775807) (hn : L.length ≤ 1000) :
    Calls Tryz.prog 100 #[v, .int .i64 m, .func (.func 101) #[] #[]] w fun e w' => Found L m e ∧ K0 w w' := by
  have HV := Lib.hid hv
  have HR := Lib.hid hr
  have HM := Lib.hid hm
  obtain ⟨cap0, a0, rfl⟩ : ∃ cap a, v = .slice a L.length cap := by
    rcases hv.2 with ⟨rfl, rfl⟩ | ⟨r, cap, rfl, _⟩
    · exact ⟨_, _, rfl⟩
    · exact ⟨_, _, rfl⟩
  clear hv hr hm
  go_enter Tryz.func100, Tryz.ntmps100
  go_wp2
  go_loopw [9, 10] (fun i j wr => ∃ (a b : Nat), i = .int .i64 a ∧ j = .int .i64 b ∧ a ≤ b ∧ b ≤ L.length ∧ Halves L m a b ∧ K0 w wr) (fun i j _ => (intOf j - intOf i).toNat)
  case atStart => exact ⟨0, L.length, rfl, rfl, by omega, by omega, fun _ => ⟨fun k _ h => by omega, fun k _ h => by omega⟩, Keeps.refl _ _⟩
  case round =>
    obtain ⟨a, b, rfl, rfl, hab, hb, hh, hkw⟩ := hrel
    have HH := Lib.hid hh
    have HK := Lib.hid hkw
    clear hh
    by_cases hlt : a < b
    · have hc : (a + b) / 2 < L.length := by omega
      rcases HV.out.2 with ⟨h0, _⟩ | ⟨r, cap, e, hr, hcl⟩
      · subst h0; exact absurd hc (Nat.not_lt_zero _)
      · simp only [Value.slice.injEq, true_and] at e
        obtain ⟨rfl, rfl⟩ := e
        obtain ⟨c0, c1, c2, c3, c4⟩ := hcl _ hc
        have c0 := hkw.cell' c0 (fun e => e)
        have c1 := hkw.cell' c1 (fun e => e)
        have c2 := hkw.cell' c2 (fun e => e)
        have c3 := hkw.cell' c3 (fun e => e)
        have c4 := hkw.cell' c4 (fun e => e)
        have hr := Lib.hid (Nat.lt_of_lt_of_le hr hkw.size)
        have HT := Lib.hid (find_cmp L[(a + b) / 2] m wr)
        clear hcl hkw
        by_cases hd : cmpM L[(a + b) / 2].member m < 0
        · have HL := Lib.hid (HH.out.low HR.out hc hd)
          generalize cmpM L[(a + b) / 2].member m = d at HT hd
          generalize L[(a + b) / 2].member = x0 at c0 HT
          generalize L[(a + b) / 2].tv = x1 at c1 HT
          generalize L[(a + b) / 2].til = x2 at c2 HT
          generalize L[(a + b) / 2].joined = x3 at c3 HT
          generalize L[(a + b) / 2].pv = x4 at c4 HT
          go_wp2_with fail
          refine HT.out.mono ?_
          rintro e w' ⟨rfl, hk'⟩
          go_wp2
          go_roundw
          case rel => exact ⟨(a + b) / 2 + 1, b, by go_num, rfl, by omega, hb, HL.out, K0.tr HK.out hk'⟩
          case measure => simp [intOf]; omega
        · have HL := Lib.hid (HH.out.high HR.out hc hd)
          generalize cmpM L[(a + b) / 2].member m = d at HT hd
          generalize L[(a + b) / 2].member = x0 at c0 HT
          generalize L[(a + b) / 2].tv = x1 at c1 HT
          generalize L[(a + b) / 2].til = x2 at c2 HT
          generalize L[(a + b) / 2].joined = x3 at c3 HT
          generalize L[(a + b) / 2].pv = x4 at c4 HT
          go_wp2_with fail
          refine HT.out.mono ?_
          rintro e w' ⟨rfl, hk'⟩
          go_wp2
          go_roundw
          case rel => exact ⟨a, (a + b) / 2, rfl, by go_num, by omega, by omega, HL.out, K0.tr HK.out hk'⟩
          case measure => simp [intOf]; omega
    · obtain rfl : a = b := by omega
      by_cases hlt2 : a < L.length
      · rcases HV.out.2 with ⟨h0, _⟩ | ⟨r, cap, e, hr, hcl⟩
        · subst h0; exact absurd hlt2 (Nat.not_lt_zero _)
        · simp only [Value.slice.injEq, true_and] at e
          obtain ⟨rfl, rfl⟩ := e
          obtain ⟨c0, c1, c2, c3, c4⟩ := hcl _ hlt2
          have c0 := hkw.cell' c0 (fun e => e)
          have c1 := hkw.cell' c1 (fun e => e)
          have c2 := hkw.cell' c2 (fun e => e)
          have c3 := hkw.cell' c3 (fun e => e)
          have c4 := hkw.cell' c4 (fun e => e)
          have hr := Lib.hid (Nat.lt_of_lt_of_le hr hkw.size)
          have HT := Lib.hid (find_cmp L[a] m wr)
          have HF := Lib.hid (HH.out.found HR.out HM.out hlt2)
          have HZ := Lib.hid (cmp_zero (HR.out.wf a hlt2) HM.out)
          clear hcl hkw hab hlt
          have h9 : ¬ a < a := by omega
          have i0 : (0 : Int) ≤ a := by omega
          have i1 : (a : Int) < L.length := by omega
          cases hd : (cmpM L[a].member m == 0) with
          | true =>
            have HQ : Hid (L[a].member = m) := HF.out hd
            generalize cmpM L[a].member m = d at HT hd
            clear HF HZ
            generalize hx0 : L[a].member = x0 at c0 HT
            generalize L[a].tv = x1 at c1 HT
            generalize L[a].til = x2 at c2 HT
            generalize L[a].joined = x3 at c3 HT
            generalize L[a].pv = x4 at c4 HT
            have HX := Lib.hid hx0
            clear hx0
            go_wp2_with fail
            refine HT.out.mono ?_
            rintro e w' ⟨rfl, hk'⟩
            go_wp2
            go_ret2
            exact ⟨⟨a, true, rfl, by omega, fun _ => ⟨hlt2, HQ.out⟩, (fun h => by cases h)⟩, K0.tr HK.out hk'⟩
          | false =>
            have HQ : Hid (L[a].member ≠ m) := by
              intro e
              have h8 := HZ.out
              rw [hd, e] at h8
              simp at h8
            generalize cmpM L[a].member m = d at HT hd
            clear HF HZ
            generalize hx0 : L[a].member = x0 at c0 HT
            generalize L[a].tv = x1 at c1 HT
            generalize L[a].til = x2 at c2 HT
            generalize L[a].joined = x3 at c3 HT
            generalize L[a].pv = x4 at c4 HT
            have HX := Lib.hid hx0
            clear hx0
            go_wp2_with fail
            refine HT.out.mono ?_
            rintro e w' ⟨rfl, hk'⟩
            go_wp2
            go_ret2
            exact ⟨⟨a, false, rfl, by omega, (fun h => by cases h), fun _ => HH.out.none HR.out (fun _ => HQ.out)⟩, K0.tr HK.out hk'⟩
      · clear hab hlt hkw
        have h9 : ¬ a < a := by omega
        go_wp2
        go_ret2
        exact ⟨⟨a, false, rfl, by omega, (fun h => by cases h), fun _ => HH.out.none HR.out (fun h => absurd h hlt2)⟩, HK.out⟩
/-- The place of a member, if it is there. -/
def FindPost (w : World) (v : Value) (L : List OneV) (m : Int) (e : Ending) (w' : World) : Prop :=
  K0 w w' ∧ ((∃ (i : Nat) (hi : i < L.length) (r cap : Nat), L[i].member = m ∧ v = .slice (some ⟨r, 0, none⟩) L.length cap ∧ e = .returned (.pointer (some ⟨r, i * 5, none⟩))) ∨ ((∀ i (h : i < L.length), L[i].member ≠ m) ∧ e = .returned (.pointer none)))
set_option maxRecDepth 100000 in
set_option maxHeartbeats 2000000 in
theorem find_any (w : World) (F : Nat → Prop) (b : Nat) (g : GroupC) (v : Value) (L : List OneV) (m : Int) (h : GrpAt w F b g v L) (hr : RiseM L) (hm : -9223372036854775808 ≤ m ∧ m ≤ 9223372036854775807) (hn : L.length ≤ 1000) :
    Calls Tryz.prog 64 #[.pointer (some ⟨b, 0, none⟩), .int .i64 m] w fun e w' => FindPost w v L m e w' := by
  have HS := Lib.hid (searchM w v L m (h.rowV (by omega)) hr hm hn)
  have hx : w.cell? ⟨b, 6, none⟩ = some v := block_cell h.blk 6
  have hb := block_lt h.blk
  have HF := Lib.hid h.form
  clear h hr hm
  go_enter Tryz.func64, Tryz.ntmps64
  go_wp2_with fail
  refine HS.out.mono ?_
  rintro e w' ⟨⟨a, f, rfl, ha, h1, h2⟩, hk'⟩
  have H1 := Lib.hid h1
  have H2 := Lib.hid h2
  clear h1 h2
  cases f with
  | false =>
    have H3 := Lib.hid (H2.out rfl)
    clear H2 H1
    go_wp2
    go_ret
    exact ⟨hk', .inr ⟨H3.out, rfl⟩⟩
  | true =>
    obtain ⟨h3, h4⟩ := H1.out rfl
    rcases HF.out with ⟨h0, _⟩ | ⟨r, cap, rfl, _, hrl, _, _⟩
    · subst h0; exact absurd h3 (Nat.not_lt_zero _)
    · have hx' := hk'.cell' hx (fun e => e)
      have hb' := Nat.lt_of_lt_of_le hb hk'.size
      have hk2 := Lib.hid hk'
      clear hx hb hk'
      have i0 : (0 : Int) ≤ a := by omega
      have i1 : (a : Int) < L.length := by omega
      go_wp2
      go_ret
      exact ⟨hk2.out, .inl ⟨a, h3, r, cap, h4, rfl, rfl⟩⟩
end Go.Proofs.YtklhlffdpojkoaaGreat

/-
  A group enters a phase, begins anew.
-/
namespace Go.Proofs.YtklhlffdpojkoaaGreat
open Go.RowKit Go.Shelf Fx

theorem GrpAt.head {w w' : World} {F : Nat → Prop} {b : Nat} {g g' : GroupC} {v : Value} {L : List OneV} (h : GrpAt w F b g v L) (hk : Keeps (fun k => k = b) w w') (hblk : w'.heap[b]? = some (.cells (gCells g' v) 107 (0, 0))) (ho : g'.ones = g.ones) : GrpAt w' F b g' v L :=
  ⟨hblk, own_keep hk h.row (fun k e => (h.own k e).2), h.fb, fun k e => Nat.lt_of_lt_of_le (h.lt k e) hk.size, h.own, by rw [ho]; exact h.ones, fun x hx =>
    ⟨(h.out x hx).1.keep still_str hk (fun k _ e => e.2.1) (fun _ _ e => e), (h.out x hx).2.keep still_part hk (fun k _ e => e.2.1) (fun _ _ e => e)⟩⟩
def enterG (g : GroupC) (p t : Int) : GroupC := { g with phase := p, til := t }
set_option maxRecDepth 100000 in
set_option maxHeartbeats 1000000 in
theorem enter_any (w : World) (F : Nat → Prop) (b : Nat) (g : GroupC) (v : Value) (L : List OneV) (p t : Int) (h : GrpAt w F b g v L) :
    Calls Tryz.prog 102 #[.pointer (some ⟨b, 0, none⟩), .int .i64 p, .int .i64 t] w fun e w' => e = .returned (.tuple #[]) ∧ GrpAt w' F b (enterG g p t) v L ∧ Keeps (fun k => k = b) w w' := by
  have HG := Lib.hid h
  have hb := block_lt h.blk
  have c2 : w.cell? ⟨b, 2, none⟩ = some (.int .i64 g.phase) := block_cell h.blk 2
  have c5 : w.cell? ⟨b, 5, none⟩ = some (.int .i64 g.til) := block_cell h.blk 5
  have f2 := block_free h.blk 2
  have f5 := block_free h.blk 5
  have HK : Hid (Keeps (fun k => k = b) w ((w.setCell ⟨b, 2, none⟩ (.int .i64 p)).setCell ⟨b, 5, none⟩ (.int .i64 t))) := ((Keeps.refl (fun k => k = b) w).setC 2 _ (fun _ => rfl)).setC 5 _ (fun _ => rfl)
  have HB : Hid (((w.setCell ⟨b, 2, none⟩ (.int .i64 p)).setCell ⟨b, 5, none⟩ (.int .i64 t)).heap[b]? = some (.cells (gCells (enterG g p t) v) 107 (0, 0))) := setCell_block (setCell_block h.blk 2 _) 5 _
  clear h
  go_enter Tryz.func102, Tryz.ntmps102
  go_wp2
  go_end0
  exact ⟨rfl, HG.out.head HK.out HB.out rfl, HK.out⟩

def freeO (o : OneC) : OneC := { o with joined := false, parts := [] }
def freeV (x : OneV) : OneV := { x with joined := false, pv := .slice none 0 0, parts := [] }
def freeTo (L : List OneV) (k : Nat) : List OneV := L.mapIdx fun i x => if i < k then freeV x else x
theorem freeTo_zero (L : List OneV) : freeTo L 0 = L := by
  apply List.ext_getElem
  · simp [freeTo]
  · intro i h1 h2
    simp [freeTo]
theorem freeTo_len (L : List OneV) (k : Nat) : (freeTo L k).length = L.length := by simp [freeTo]
theorem freeTo_at {L : List OneV} {k : Nat} (hk : k < L.length) : (freeTo L k)[k]'(by rw [freeTo_len]; exact hk) = L[k] := by simp [freeTo]
theorem freeTo_succ {L : List OneV} {k : Nat} (_hk : k < L.length) : (freeTo L k).modify k freeV = freeTo L (k + 1) := by
  apply List.ext_getElem
  · simp [freeTo_len]
  · intro i h1 h2
    simp only [freeTo, List.getElem_modify, List.getElem_mapIdx]
    by_cases e : k = i
    · subst e
      rw [if_pos rfl, if_neg (Nat.lt_irrefl _), if_pos (Nat.lt_succ_self _)]
    · rw [if_neg e]
      by_cases h : i < k
      · rw [if_pos h, if_pos (by omega)]
      · rw [if_neg h, if_neg (by omega)]
theorem freeTo_all (L : List OneV) : freeTo L L.length = L.map freeV := by
  apply List.ext_getElem
  · simp [freeTo]
  · intro i h1 h2
    have : i < L.length := by simpa using h2
    simp [freeTo, this]
theorem freeTo_cells {L : List OneV} {k : Nat} (hk : k < L.length) : (((freeTo L k).flatMap oneEnc).set (k * 5 + 3) (.bool false)).set (k * 5 + 4) (.slice none 0 0) = (freeTo L (k + 1)).flatMap oneEnc := by
  have hk' : k < (freeTo L k).length := by rw [freeTo_len]; exact hk
  rw [flat_set' oneEnc 5 oneEnc_len (fun x => { x with joined := false }) 3 (.bool false) (by omega) (fun _ => rfl) _ _ hk']
  rw [flat_set' oneEnc 5 oneEnc_len (fun x => { x with pv := .slice none 0 0, parts := [] }) 4 (.slice none 0 0) (by omega) (fun _ => rfl) _ _ (by simpa using hk')]
  rw [List.modify_modify_eq, ← freeTo_succ hk]
  rfl
/-- The first k members are free. -/
structure FreeMid (w wr : World) (b : Nat) (g : GroupC) (v : Value) (L : List OneV) (k : Nat) : Prop where
  row : wr.ownsRow 0 94 5 v L.length ((freeTo L k).flatMap oneEnc)
  keep : Keeps (fun k => v.ownBlock = some k) w wr
theorem FreeMid.next {w wr wx : World} {b r cap : Nat} {g : GroupC} {L : List OneV} {k : Nat} (h : FreeMid w wr b g (.slice (some ⟨r, 0, none⟩) L.length cap) L k) (hk : k < L.length)
    (hx : wx.heap = ((wr.setCell ⟨r, k * 5 + 3, none⟩ (.bool false)).setCell ⟨r, k * 5 + 4, none⟩ (.slice none 0 0)).heap ∨ wx.heap = ((wr.setCell ⟨r, k * 5 + 4, none⟩ (.slice none 0 0)).setCell ⟨r, k * 5 + 3, none⟩ (.bool false)).heap)
    (ht : wx.os = wr.os ∧ wx.tape = wr.tape ∧ wx.output = wr.output) : FreeMid w wx b g (.slice (some ⟨r, 0, none⟩) L.length cap) L (k + 1) := by
  have hk1 : Keeps (fun k => (Value.slice (some ⟨r, 0, none⟩) L.length cap).ownBlock = some k) w ((wr.setCell ⟨r, k * 5 + 3, none⟩ (.bool false)).setCell ⟨r, k * 5 + 4, none⟩ (.slice none 0 0)) := (h.keep.setC _ _ (fun _ => rfl)).setC _ _ (fun _ => rfl)
  have hk2 : Keeps (fun k => (Value.slice (some ⟨r, 0, none⟩) L.length cap).ownBlock = some k) w ((wr.setCell ⟨r, k * 5 + 4, none⟩ (.slice none 0 0)).setCell ⟨r, k * 5 + 3, none⟩ (.bool false)) := (h.keep.setC _ _ (fun _ => rfl)).setC _ _ (fun _ => rfl)
  have h1 := ((h.row.stored (k * 5 + 3) (.bool false)).1.stored (k * 5 + 4) (.slice none 0 0)).1
  have h2 := ((h.row.stored (k * 5 + 4) (.slice none 0 0)).1.stored (k * 5 + 3) (.bool false)).1
  rw [freeTo_cells hk] at h1
  rw [List.set_comm _ _ (by omega), freeTo_cells hk] at h2
  obtain ⟨t1, t2, t3⟩ := ht
  rcases hx with hx | hx
  · exact ⟨⟨h1.1, by rw [hx]; exact h1.2⟩, ⟨t1.trans hk1.os, t2.trans hk1.tape, t3.trans hk1.output, by rw [hx]; exact hk1.size, fun j a b => by rw [hx]; exact hk1.block j a b⟩⟩
  · exact ⟨⟨h2.1, by rw [hx]; exact h2.2⟩, ⟨t1.trans hk2.os, t2.trans hk2.tape, t3.trans hk2.output, by rw [hx]; exact hk2.size, fun j a b => by rw [hx]; exact hk2.block j a b⟩⟩
/-- A group that begins anew. -/
def anewG (g : GroupC) (now : Int) : GroupC := if g.ones.length = 0 then enterG g 0 0 else { enterG g 1 (now + g.rebalance) with ones := g.ones.map freeO }
set_option maxRecDepth 100000 in
set_option maxHeartbeats 2000000 in
theorem anew_any (w : World) (F : Nat → Prop) (b : Nat) (g : GroupC) (v : Value) (L : List OneV) (now : Int) (h : GrpAt w F b g v L) (hl : L.length ≤ 1000) (hn : 0 ≤ now ∧ now ≤ 1099511627776) (hr : 0 ≤ g.rebalance ∧ g.rebalance ≤ 100000) :
    Calls Tryz.prog 65 #[.pointer (some ⟨b, 0, none⟩), .int .i64 now] w fun e w' => e = .returned (.tuple #[]) ∧ GrpPost w F b (anewG g now) w' := by
  have hb := block_lt h.blk
  have hlen : g.ones.length = L.length := by rw [← h.ones]; simp
  rcases h.form with ⟨rfl, rfl⟩ | ⟨r, cap, rfl, hrb, hrl, hcap, hFr⟩
  · have HE := Lib.hid (enter_any w F b g _ _ 0 0 h)
    have hx : w.cell? ⟨b, 6, none⟩ = some (.slice none 0 0) := block_cell h.blk 6
    have HF := Lib.hid h.fb
    clear h
    go_enter Tryz.func65, Tryz.ntmps65
    go_wp2_with fail
    refine HE.out.mono ?_
    rintro e w' ⟨rfl, hg, hk'⟩
    go_wp2
    (try simp only [Exit.inBlock, Exit.then])
    refine bodyPost_ret (results_none rfl _ _ _) rfl ?_
    have e : anewG g now = enterG g 0 0 := if_pos (by simpa using hlen)
    rw [e]
    exact ⟨rfl, F, ⟨_, _, hg⟩, fun k e => .inl e, hk'.mono fun k _ e => by subst e; exact HF.out⟩
  · have hx : w.cell? ⟨b, 6, none⟩ = some (.slice (some ⟨r, 0, none⟩) L.length cap) := block_cell h.blk 6
    have hy : w.cell? ⟨b, 1, none⟩ = some (.int .i64 g.rebalance) := block_cell h.blk 1
    by_cases h0 : L.length = 0
    · have HE := Lib.hid (enter_any w F b g _ _ 0 0 h)
      have h0' : (L.length : Int) = 0 := by omega
      have HF := Lib.hid h.fb
      clear h
      go_enter Tryz.func65, Tryz.ntmps65
      go_wp2_with fail
      refine HE.out.mono ?_
      rintro e w' ⟨rfl, hg, hk'⟩
      go_wp2
      (try simp only [Exit.inBlock, Exit.then])
      refine bodyPost_ret (results_none rfl _ _ _) rfl ?_
      have e : anewG g now = enterG g 0 0 := if_pos (by omega)
      rw [e]
      exact ⟨rfl, F, ⟨_, _, hg⟩, fun k e => .inl e, hk'.mono fun k _ e => by subst e; exact HF.out⟩
    · have HE := Lib.hid (enter_any w F b g _ _ 1 (now + g.rebalance) h)
      have HH := Lib.hid h
      have h0' : ¬ (L.length : Int) = 0 := by omega
      clear h
      generalize hrb2 : g.rebalance = rb at hy hr HE
      have HRB := Lib.hid hrb2
      clear hrb2
      go_enter Tryz.func65, Tryz.ntmps65
      go_wp2_with fail
      refine HE.out.mono ?_
      rintro e w1 ⟨rfl, hg, hk1⟩
      have hx1 : w1.cell? ⟨b, 6, none⟩ = some (.slice (some ⟨r, 0, none⟩) L.length cap) := block_cell hg.blk 6
      have hb1 := block_lt hg.blk
      have HG := Lib.hid hg
      have HK1 := Lib.hid hk1
      have hmid0 : FreeMid w1 w1 b g (.slice (some ⟨r, 0, none⟩) L.length cap) L 0 := ⟨by rw [freeTo_zero]; exact hg.row, Keeps.refl _ _⟩
      clear hg hk1 hx hb hy
      go_wp2
      go_loopw [28] (fun i wr => ∃ k : Nat, i = .int .i64 k ∧ k ≤ L.length ∧ FreeMid w1 wr b g (.slice (some ⟨r, 0, none⟩) L.length cap) L k) (fun i _ => L.length - (intOf i).toNat)
      case atStart => exact ⟨0, rfl, by omega, hmid0⟩
      case round =>
        obtain ⟨k, rfl, hk, hmid⟩ := hrel
        have HM := Lib.hid hmid
        by_cases hlt : k < L.length
        · have hx2 := hmid.keep.cell' hx1 (fun e => hrb (by simpa [Value.ownBlock] using e))
          have hb2 := Nat.lt_of_lt_of_le hb1 hmid.keep.size
          have hcell : ∀ j, j < 5 → wr.cell? ⟨r, k * 5 + j, none⟩ = (oneEnc L[k])[j]? := fun j hj => by
            rw [hmid.row.cellAt (k * 5 + j) (by omega), flatMap_get oneEnc 5 oneEnc_len (freeTo L k) k j (by rw [freeTo_len]; exact hlt) hj, freeTo_at hlt]
          have c3 : wr.cell? ⟨r, k * 5 + 3, none⟩ = some (.bool L[k].joined) := hcell 3 (by omega)
          have c4 : wr.cell? ⟨r, k * 5 + 4, none⟩ = some L[k].pv := hcell 4 (by omega)
          have f3 := hmid.row.frozenAt (k * 5 + 3)
          have f4 := hmid.row.frozenAt (k * 5 + 4)
          have hrl2 := own_lt hmid.row rfl
          have hbr : b ≠ r := fun e => hrb e.symm
          clear hmid hcell
          generalize L[k].joined = q3 at c3
          generalize L[k].pv = q4 at c4
          have i0 : (0 : Int) ≤ k := by omega
          have i1 : (k : Int) < L.length := by omega
          go_wp2_with fail
          go_region
          all_goals
            go_wp2
            go_roundw
            case rel => exact ⟨k + 1, by go_num, by omega, HM.out.next hlt (by first | exact .inl rfl | exact .inr rfl) ⟨rfl, rfl, rfl⟩⟩
            case measure => simp [intOf]; omega
        · obtain rfl : k = L.length := by omega
          clear hmid
          go_wp2
          go_end0
          have HB : Hid (0 < L.length) := by show 0 < _; omega
          have e : anewG g now = { enterG g 1 (now + rb) with ones := g.ones.map freeO } := by rw [← HRB.out]; exact if_neg (by rw [hlen]; have := HB.out; omega)
          have hrow := HM.out.row
          rw [freeTo_all] at hrow
          have hstep := HG.out.step (g' := anewG g now) (L' := L.map freeV) HM.out.keep (fun k e => .inr e) (by
            rw [e]
            exact (HM.out.keep.block b (block_lt HG.out.blk) (fun e => hrb (by simpa [Value.ownBlock] using e))).trans HG.out.blk) (by rw [List.length_map]; exact hrow) (fun k e => .inl e)
            (by
              have h9 : L.map OneV.core = g.ones := HG.out.ones
              rw [e]
              show (L.map freeV).map OneV.core = g.ones.map freeO
              rw [← h9, List.map_map, List.map_map]
              rfl)
            (fun x hx => by obtain ⟨y, hy, rfl⟩ := List.mem_map.1 hx; exact .inl ⟨y, hy, rfl, rfl⟩)
            (fun x hx => by obtain ⟨y, hy, rfl⟩ := List.mem_map.1 hx; exact .inr (Out.nil _ _ _ _))
          refine ⟨rfl, _, ⟨_, _, hstep⟩, fun k e => e.elim .inl fun e => .inr (Nat.le_trans HK1.out.size e.1), ?_⟩
          exact (HK1.out.mono (S1 := F) fun k _ e => by subst e; exact HG.out.fb).trans HM.out.keep fun k _ e => (HG.out.own k e).1
end Go.Proofs.YtklhlffdpojkoaaGreat

/-
  Members let go of (slices.DeleteFunc).
-/
namespace Go.Proofs.YtklhlffdpojkoaaGreat
open Go.RowKit Go.Shelf Fx

theorem modify_const {α : Type} (l : List α) (i : Nat) (y : α) : l.modify i (fun _ => y) = l.set i y := by
  apply List.ext_getElem
  · simp
  · intro k h1 h2
    rw [List.getElem_modify, List.getElem_set]
theorem put_cells {C : List OneV} {i : Nat} (hi : i < C.length) (x : OneV) :
    (((((C.flatMap oneEnc).set (i * 5) (.int .i64 x.member)).set (i * 5 + 1) x.tv).set (i * 5 + 2) (.int .i64 x.til)).set (i * 5 + 3) (.bool x.joined)).set (i * 5 + 4) x.pv = (C.set i x).flatMap oneEnc := by
  have e0 := flat_set' oneEnc 5 oneEnc_len (fun y => { y with member := x.member }) 0 (.int .i64 x.member) (by omega) (fun _ => rfl) C i hi
  rw [Nat.add_zero] at e0
  rw [e0]
  rw [flat_set' oneEnc 5 oneEnc_len (fun y => { y with tv := x.tv, topics := x.topics }) 1 x.tv (by omega) (fun _ => rfl) _ _ (by simpa using hi)]
  rw [flat_set' oneEnc 5 oneEnc_len (fun y => { y with til := x.til }) 2 (.int .i64 x.til) (by omega) (fun _ => rfl) _ _ (by simpa using hi)]
  rw [flat_set' oneEnc 5 oneEnc_len (fun y => { y with joined := x.joined }) 3 (.bool x.joined) (by omega) (fun _ => rfl) _ _ (by simpa using hi)]
  rw [flat_set' oneEnc 5 oneEnc_len (fun y => { y with pv := x.pv, parts := x.parts }) 4 x.pv (by omega) (fun _ => rfl) _ _ (by simpa using hi)]
  rw [List.modify_modify_eq, List.modify_modify_eq, List.modify_modify_eq, List.modify_modify_eq, ← modify_const]
  rfl
/-- A shorter row in the same block. -/
theorem own_cut {w : World} {base : Nat} {e : TypeId} {size r n cap i : Nat} {xs : List Value} (h : w.ownsRow base e size (.slice (some ⟨r, 0, none⟩) n cap) n xs) (hi : i ≤ n) :
    w.ownsRow base e size (.slice (some ⟨r, 0, none⟩) i cap) i (xs.take (i * size)) := by
  have hle : i * size ≤ n * size := Nat.mul_le_mul_right _ hi
  refine ⟨by rw [List.length_take, h.1]; omega, ?_⟩
  rcases h.2 with ⟨e1, _⟩ | ⟨g, cap', cur, e1, hb, hg, hc, hm, hs, ht⟩
  · cases e1
  · simp only [Value.slice.injEq, Option.some.injEq, Addr.mk.injEq] at e1
    obtain ⟨⟨rfl, _⟩, _, rfl⟩ := e1
    refine .inr ⟨r, cap, cur, rfl, hb, hg, Nat.le_trans hi hc, hm, hs, ?_⟩
    rw [← ht, List.take_take, Nat.min_eq_left hle]
theorem own_tail {base : Nat} {e : TypeId} {size r n cap : Nat} {xs : List Value} : ∀ (Z : List Value) (o : Nat) (w : World), w.ownsRow base e size (.slice (some ⟨r, 0, none⟩) n cap) n xs → n * size ≤ o → (w.setCells r o Z).ownsRow base e size (.slice (some ⟨r, 0, none⟩) n cap) n xs
  | [], _, _, h, _ => h
  | u :: Z, o, w, h, ho => by
    have h1 := (h.stored o u).1
    rw [List.set_eq_of_length_le (by rw [h.1]; exact ho)] at h1
    exact own_tail Z (o + 1) _ h1 (by omega)
theorem keeps_tail {S : Nat → Prop} {r : Nat} (hr : S r) : ∀ (Z : List Value) (o : Nat) (w w1 : World), Keeps S w w1 → Keeps S w (w1.setCells r o Z)
  | [], _, _, _, h => h
  | _u :: Z, o, w, _w1, h => keeps_tail hr Z (o + 1) w _ (h.setC _ _ (fun _ => hr))
theorem zeroOne (w : World) : (zeroValue 94).run Tryz.prog w = .ok (.agg #[.int .i64 0, .slice none 0 0, .int .i64 0, .bool false, .slice none 0 0]) w := by
  obtain ⟨i, hi, hz, _⟩ := info_parts infoOne
  simp [zeroValue, typeInfo, hi, hz]
/-- What clearing the rest of a row comes to. -/
theorem clear_ones {w : World} {r n cap i : Nat} {xs : List Value} (h : w.ownsRow 0 94 5 (.slice (some ⟨r, 0, none⟩) n cap) n xs) (hi : i < n) (m c : Nat) (hm : i + m = n) :
    ∃ Z : List Value, ∀ ty, (Builtin.clear_ #[55] ty #[.slice (some ⟨r, i * 5, none⟩) m c]).run Tryz.prog w = .ok (.tuple #[]) (w.setCells r (i * 5) Z) := by
  refine ⟨(Builtin.zeroCells (Value.cells (.agg #[.int .i64 0, .slice none 0 0, .int .i64 0, .bool false, .slice none 0 0])) m).toList, fun ty => ?_⟩
  have hl : (Builtin.zeroCells (Value.cells (.agg #[.int .i64 0, .slice none 0 0, .int .i64 0, .bool false, .slice none 0 0])) m).toList.length = m * 5 := by simp [Builtin.zeroCells, Value.cells]
  have h1 : ∀ u ∈ (Builtin.zeroCells (Value.cells (.agg #[.int .i64 0, .slice none 0 0, .int .i64 0, .bool false, .slice none 0 0])) m).toList, u.oneCell' = true := by
    intro u hu
    simp only [Builtin.zeroCells, Value.cells, Array.toList_map, List.mem_map] at hu
    obtain ⟨j, _, rfl⟩ := hu
    have h5 : j % 5 = 0 ∨ j % 5 = 1 ∨ j % 5 = 2 ∨ j % 5 = 3 ∨ j % 5 = 4 := by omega
    show (#[Value.int .i64 0, .slice none 0 0, .int .i64 0, .bool false, .slice none 0 0][j % 5]!).oneCell' = true
    rcases h5 with h5 | h5 | h5 | h5 | h5 <;> rw [h5] <;> rfl
  have hst := run_storeCells_cells (P := Tryz.prog) r (i * 5) _ 0 w (fun j hj => by
    rw [hl] at hj
    rw [Nat.add_zero, h.cellAt (i * 5 + j) (by omega), List.getElem?_eq_getElem (by rw [h.1]; omega)]
    rfl) (fun j _ => h.frozenAt _) h1
  rw [Nat.add_zero] at hst
  obtain ⟨m', rfl⟩ : ∃ m', m = m' + 1 := ⟨m - 1, by omega⟩
  simp only [Value.cells] at hst
  simp [Builtin.clear_, run_underlying Tryz.underlying55, Value.cells, hst]
end Go.Proofs.YtklhlffdpojkoaaGreat

/-
  slices.DeleteFunc over the members' row: what it leaves.
-/
namespace Go.Proofs.YtklhlffdpojkoaaGreat
open Go.RowKit Go.Shelf Fx

/-- In the middle: j members have been looked at, i kept; they stand at the front. -/
structure DelMid (w wr : World) (v : Value) (L : List OneV) (p : OneV → Bool) (i j : Nat) (C : List OneV) : Prop where
  row : wr.ownsRow 0 94 5 v L.length (C.flatMap oneEnc)
  len : C.length = L.length
  kept : C.take i = (L.take j).filter fun x => !p x
  rest : ∀ k (h : k < L.length), j ≤ k → C[k]? = some L[k]
  lt : i < j
  le : j ≤ L.length
  keep : Keeps (fun k => v.ownBlock = some k) w wr
theorem filter_take {L : List OneV} {p : OneV → Bool} {j : Nat} (hj : j < L.length) : (L.take (j + 1)).filter (fun x => !p x) = (L.take j).filter (fun x => !p x) ++ if p L[j] then [] else [L[j]] := by
  rw [List.take_succ_eq_append_getElem hj, List.filter_append]
  congr 1
  cases h : p L[j] <;> simp [h]
theorem DelMid.start {w : World} {v : Value} {L : List OneV} {p : OneV → Bool} {i : Nat} (hrow : w.ownsRow 0 94 5 v L.length (L.flatMap oneEnc)) (hi : i < L.length) (h1 : ∀ j (h : j < L.length), j < i → p L[j] = false) (h2 : p L[i] = true) {w' : World} (hk : K0 w w') : DelMid w w' v L p i (i + 1) L := by
  refine ⟨own_keep hk hrow (fun _ _ e => e), rfl, ?_, fun k h _ => List.getElem?_eq_getElem h, by omega, by omega, hk.mono fun _ _ e => e.elim⟩
  rw [filter_take hi, h2]
  simp only [if_true, List.append_nil]
  symm
  rw [List.filter_eq_self]
  intro x hx
  obtain ⟨j, hj, rfl⟩ := List.mem_iff_getElem.1 hx
  have hj' : j < i ∧ j < L.length := by simp at hj; omega
  rw [List.getElem_take, h1 j hj'.2 hj'.1]
  rfl
/-- One more is let go. -/
theorem DelMid.drop {w wr wx : World} {v : Value} {L C : List OneV} {p : OneV → Bool} {i j : Nat} (h : DelMid w wr v L p i j C) (hj : j < L.length) (hp : p L[j] = true) (hk : K0 wr wx) : DelMid w wx v L p i (j + 1) C :=
  ⟨own_keep hk h.row (fun _ _ e => e), h.len, by rw [filter_take hj, hp]; simpa using h.kept, fun k hk' e => h.rest k hk' (by omega), by have := h.lt; omega, by omega, h.keep.trans hk fun _ _ e => e.elim⟩
/-- One more is kept. -/
theorem DelMid.hold {w wr wx : World} {r cap : Nat} {L C : List OneV} {p : OneV → Bool} {i j : Nat} (h : DelMid w wr (.slice (some ⟨r, 0, none⟩) L.length cap) L p i j C) (hj : j < L.length) (hp : p L[j] = false) (hk : K0 wr wx) :
    DelMid w (((((wx.setCell ⟨r, i * 5, none⟩ (.int .i64 L[j].member)).setCell ⟨r, i * 5 + 1, none⟩ L[j].tv).setCell ⟨r, i * 5 + 2, none⟩ (.int .i64 L[j].til)).setCell ⟨r, i * 5 + 3, none⟩ (.bool L[j].joined)).setCell ⟨r, i * 5 + 4, none⟩ L[j].pv)
      (.slice (some ⟨r, 0, none⟩) L.length cap) L p (i + 1) (j + 1) (C.set i L[j]) := by
  have hlt := h.lt
  have hi : i < C.length := by rw [h.len]; omega
  have h0 := own_keep hk h.row (fun _ _ e => e)
  have h1 := (((((h0.stored (i * 5) (.int .i64 L[j].member)).1.stored (i * 5 + 1) L[j].tv).1.stored (i * 5 + 2) (.int .i64 L[j].til)).1.stored (i * 5 + 3) (.bool L[j].joined)).1.stored (i * 5 + 4) L[j].pv).1
  rw [put_cells hi] at h1
  refine ⟨h1, by rw [List.length_set]; exact h.len, ?_, fun k hk' e => ?_, by omega, by omega, ?_⟩
  · rw [filter_take hj, hp, List.take_succ_eq_append_getElem (by rw [List.length_set]; exact hi), List.getElem_set_self, List.take_set, List.set_eq_of_length_le (by rw [List.length_take]; omega), h.kept]
    rfl
  · rw [List.getElem?_set_ne (by omega)]
    exact h.rest k hk' (by omega)
  · exact (((((h.keep.trans hk fun _ _ e => e.elim).setC _ _ (fun _ => rfl)).setC _ _ (fun _ => rfl)).setC _ _ (fun _ => rfl)).setC _ _ (fun _ => rfl)).setC _ _ (fun _ => rfl)
/-- What it leaves: the row of those that are kept, in the same block. -/
def DelPost (w : World) (v : Value) (L : List OneV) (p : OneV → Bool) (e : Ending) (w' : World) : Prop :=
  ∃ v', e = .returned v' ∧ w'.ownsRow 0 94 5 v' (L.filter fun x => !p x).length ((L.filter fun x => !p x).flatMap oneEnc) ∧ v'.ownBlock = v.ownBlock ∧ Keeps (fun k => v.ownBlock = some k) w w'
theorem DelMid.post {w wr : World} {r cap : Nat} {L C : List OneV} {p : OneV → Bool} {i : Nat} (h : DelMid w wr (.slice (some ⟨r, 0, none⟩) L.length cap) L p i L.length C) (Z : List Value) :
    DelPost w (.slice (some ⟨r, 0, none⟩) L.length cap) L p (.returned (.slice (some ⟨r, 0, none⟩) i cap)) (wr.setCells r (i * 5) Z) := by
  have hlt := h.lt
  have hk := h.kept
  rw [List.take_length] at hk
  have hl : (L.filter fun x => !p x).length = i := by rw [← hk, List.length_take, h.len]; omega
  refine ⟨_, rfl, ?_, rfl, keeps_tail (by rfl) Z _ _ _ h.keep⟩
  rw [hl, ← hk]
  have h1 := own_cut h.row (i := i) (by omega)
  have e : (C.flatMap oneEnc).take (i * 5) = (C.take i).flatMap oneEnc := by
    have e1 : C = C.take i ++ C.drop i := (List.take_append_drop i C).symm
    have e2 : ((C.take i).flatMap oneEnc).length = i * 5 := by rw [flat_len _ 5 oneEnc_len, List.length_take, h.len]; congr 1; omega
    rw [show C.flatMap oneEnc = (C.take i).flatMap oneEnc ++ (C.drop i).flatMap oneEnc by rw [← List.flatMap_append, List.take_append_drop]]
    rw [← e2, List.take_left]
  rw [e] at h1
  exact own_tail Z _ _ h1 (Nat.le_refl _)
set_option maxRecDepth 100000 in
set_option maxHeartbeats 4000000 in
theorem deleteFunc (w : World) (v : Value) (L : List OneV) (c : Nat) (caps : Array Value) (p : OneV → Bool) (hrow : w.ownsRow 0 94 5 v L.length (L.flatMap oneEnc)) (hv : RowV w v L) (h1c : ∀ x ∈ L, (∃ a n c, x.tv = .slice a n c) ∧ ∃ a n c, x.pv = .slice a n c) (hl : L.length ≤ 1000)
    (eg : ∀ args w, (callFunc c args).run Tryz.prog w = .ok (.enter c args) w) (hp : ∀ w1, Keeps (fun k => v.ownBlock = some k) w w1 → Tests c caps p w1) :
    Calls Tryz.prog 105 #[v, .func (.func c) #[] caps] w fun e w' => DelPost w v L p e w' := by
  have HI := Lib.hid (indexFunc w v L c caps p hv eg (fun w1 hk => hp w1 (hk.mono fun _ _ e => e.elim)))
  have HP := Lib.hid hp
  have HROW := Lib.hid hrow
  have HC := Lib.hid h1c
  have hform : (L = [] ∧ v = .slice none 0 0) ∨ ∃ r cap, v = .slice (some ⟨r, 0, none⟩) L.length cap ∧ r < w.heap.size ∧ L.length ≤ cap ∧ cap ≤ maxLen := by
    rcases hrow.2 with ⟨h1, h2⟩ | ⟨r, cap, cur, h1, _, hg, hcp, hm, _⟩
    · exact .inl ⟨List.eq_nil_of_length_eq_zero h2, h1⟩
    · exact .inr ⟨r, cap, h1, block_lt hg, hcp, hm⟩
  clear hrow hv hp h1c
  by_cases hex : ∃ k, ∃ h : k < L.length, (∀ j (h : j < L.length), j < k → p L[j] = false) ∧ p L[k] = true
  · obtain ⟨k0, hk0, ha, hb⟩ := hex
    rcases hform with ⟨rfl, _⟩ | ⟨r, cap, rfl, hr, hcp, hmx⟩
    · exact absurd hk0 (Nat.not_lt_zero _)
    · rw [idx_here hk0 ha hb] at HI
      have HST := Lib.hid (fun (w' : World) (hk : K0 w w') => DelMid.start (p := p) HROW.out hk0 ha hb hk)
      have HN := Lib.hid hmx
      clear ha hb hmx
      have hne : ((k0 : Int) == -1) = false := beq_eq_false_iff_ne.2 (by omega)
      go_enter Tryz.func105, Tryz.ntmps105
      go_wp2_with fail
      refine HI.out.mono ?_
      rintro e w1 ⟨rfl, hk1⟩
      have hst := HST.out _ hk1
      clear hk1
      go_wp2
      generalize hq0 : (k0 : Int) + 1 = q0
      have HQ0 := Lib.hid hq0
      clear hq0
      go_loopw [5, 6] (fun ii jj wr => ∃ (i j : Nat) (C : List OneV), ii = .int .i64 i ∧ jj = .int .i64 j ∧ DelMid w wr (.slice (some ⟨r, 0, none⟩) L.length cap) L p i j C) (fun _ jj _ => L.length - (intOf jj).toNat)
      case atStart => exact ⟨k0, k0 + 1, L, rfl, by rw [← HQ0.out]; go_num, hst⟩
      case round =>
        clear hst
        obtain ⟨i, j, C, rfl, rfl, hmid⟩ := hrel
        have HM := Lib.hid hmid
        have hij := hmid.lt
        have hjl := hmid.le
        have hrr := own_lt hmid.row rfl
        by_cases hlt : j < L.length
        · have hcj : ∀ q, q < 5 → wr.cell? ⟨r, j * 5 + q, none⟩ = (oneEnc L[j])[q]? := fun q hq => by
            have h5 : j < C.length := by rw [hmid.len]; exact hlt
            rw [hmid.row.cellAt (j * 5 + q) (by omega), flatMap_get oneEnc 5 oneEnc_len C j q h5 hq]
            have h6 := hmid.rest j hlt (Nat.le_refl _)
            rw [List.getElem?_eq_getElem h5] at h6
            rw [Option.some.inj h6]
          have c0 : wr.cell? ⟨r, j * 5, none⟩ = some (.int .i64 L[j].member) := hcj 0 (by omega)
          have c1 : wr.cell? ⟨r, j * 5 + 1, none⟩ = some L[j].tv := hcj 1 (by omega)
          have c2 : wr.cell? ⟨r, j * 5 + 2, none⟩ = some (.int .i64 L[j].til) := hcj 2 (by omega)
          have c3 : wr.cell? ⟨r, j * 5 + 3, none⟩ = some (.bool L[j].joined) := hcj 3 (by omega)
          have c4 : wr.cell? ⟨r, j * 5 + 4, none⟩ = some L[j].pv := hcj 4 (by omega)
          have hdi : ∀ q, q < 5 → ∃ u, wr.cell? ⟨r, i * 5 + q, none⟩ = some u := fun q hq => by
            rw [hmid.row.cellAt (i * 5 + q) (by omega)]
            exact ⟨_, List.getElem?_eq_getElem (by rw [hmid.row.1]; omega)⟩
          obtain ⟨u0, d0⟩ := hdi 0 (by omega)
          obtain ⟨u1, d1⟩ := hdi 1 (by omega)
          obtain ⟨u2, d2⟩ := hdi 2 (by omega)
          obtain ⟨u3, d3⟩ := hdi 3 (by omega)
          obtain ⟨u4, d4⟩ := hdi 4 (by omega)
          have d0 : wr.cell? ⟨r, i * 5, none⟩ = some u0 := d0
          have f0 := hmid.row.frozenAt (i * 5)
          have f1 := hmid.row.frozenAt (i * 5 + 1)
          have f2 := hmid.row.frozenAt (i * 5 + 2)
          have f3 := hmid.row.frozenAt (i * 5 + 3)
          have f4 := hmid.row.frozenAt (i * 5 + 4)
          have hone := HC.out _ (List.getElem_mem hlt)
          obtain ⟨⟨a1, n1, k1, o1⟩, a4, n4, k4, o4⟩ := hone
          have HT := Lib.hid (fun (wy : World) (hk : K0 wr wy) => HP.out wy (hmid.keep.trans hk fun _ _ e => e.elim) L[j])
          have HD := Lib.hid (fun (wy : World) (hk : K0 wr wy) (e : p L[j] = true) => hmid.drop hlt e hk)
          have HH := Lib.hid (fun (wy : World) (hk : K0 wr wy) (e : p L[j] = false) => hmid.hold hlt e hk)
          clear hmid hcj hdi
          have i0 : (0 : Int) ≤ j := by omega
          have i1 : (j : Int) < L.length := by omega
          have i2 : (0 : Int) ≤ i := by omega
          have i3 : (i : Int) < L.length := by omega
          cases hpj : p L[j] with
          | true =>
            have HQ := Lib.hid hpj
            rw [hpj] at HT
            clear hpj HH d0 d1 d2 d3 d4 f0 f1 f2 f3 f4
            generalize L[j].member = x0 at c0 HT
            generalize L[j].tv = x1 at c1 HT o1
            generalize L[j].til = x2 at c2 HT
            generalize L[j].joined = x3 at c3 HT
            generalize L[j].pv = x4 at c4 HT o4
            subst o1 o4
            go_wp2_with fail
            refine (HT.out _ ?hw).mono ?_
            case hw => exact (Keeps.refl _ _).alloc _
            rintro e w2 ⟨rfl, hk2⟩
            have HK2 := Lib.hid (((Keeps.refl (fun _ => False) wr).alloc (.cells #[.int .i64 x0, .slice a1 n1 k1, .int .i64 x2, .bool x3, .slice a4 n4 k4] 94)).trans hk2 fun _ _ e => e)
            clear hk2
            go_wp2
            go_roundw
            case rel => exact ⟨i, j + 1, C, rfl, by go_num, HD.out _ HK2.out HQ.out⟩
            case measure => simp [intOf]; omega
          | false =>
            have HQ := Lib.hid hpj
            rw [hpj] at HT
            clear hpj HD
            generalize hx0 : L[j].member = x0 at c0 HT HH
            generalize hx1 : L[j].tv = x1 at c1 HT o1 HH
            generalize hx2 : L[j].til = x2 at c2 HT HH
            generalize hx3 : L[j].joined = x3 at c3 HT HH
            generalize hx4 : L[j].pv = x4 at c4 HT o4 HH
            clear hx0 hx1 hx2 hx3 hx4
            subst o1 o4
            go_wp2_with fail
            refine (HT.out _ ?hw).mono ?_
            case hw => exact (Keeps.refl _ _).alloc _
            rintro e w2 ⟨rfl, hk2⟩
            have hb : (wr.alloc (.cells #[.int .i64 x0, .slice a1 n1 k1, .int .i64 x2, .bool x3, .slice a4 n4 k4] 94)).heap[wr.heap.size]? = some (.cells #[.int .i64 x0, .slice a1 n1 k1, .int .i64 x2, .bool x3, .slice a4 n4 k4] 94) := heap_new _ _ _ rfl
            have y0 : w2.cell? ⟨wr.heap.size, 0, none⟩ = some (.int .i64 x0) := hk2.cell' (block_cell hb 0) (fun e => e)
            have y1 : w2.cell? ⟨wr.heap.size, 1, none⟩ = some (.slice a1 n1 k1) := hk2.cell' (block_cell hb 1) (fun e => e)
            have y2 : w2.cell? ⟨wr.heap.size, 2, none⟩ = some (.int .i64 x2) := hk2.cell' (block_cell hb 2) (fun e => e)
            have y3 : w2.cell? ⟨wr.heap.size, 3, none⟩ = some (.bool x3) := hk2.cell' (block_cell hb 3) (fun e => e)
            have y4 : w2.cell? ⟨wr.heap.size, 4, none⟩ = some (.slice a4 n4 k4) := hk2.cell' (block_cell hb 4) (fun e => e)
            have hk3 := ((Keeps.refl (fun _ => False) wr).alloc (.cells #[.int .i64 x0, .slice a1 n1 k1, .int .i64 x2, .bool x3, .slice a4 n4 k4] 94)).trans hk2 fun _ _ e => e
            have hsz2 : wr.heap.size < w2.heap.size := cell_block1 y0
            have d0 := hk3.cell' d0 (fun e => e)
            have d1 := hk3.cell' d1 (fun e => e)
            have d2 := hk3.cell' d2 (fun e => e)
            have d3 := hk3.cell' d3 (fun e => e)
            have d4 := hk3.cell' d4 (fun e => e)
            have f0 := (hk3.frozen (p := ⟨r, i * 5, none⟩) hrr (fun e => e)).trans f0
            have f1 := (hk3.frozen (p := ⟨r, i * 5 + 1, none⟩) hrr (fun e => e)).trans f1
            have f2 := (hk3.frozen (p := ⟨r, i * 5 + 2, none⟩) hrr (fun e => e)).trans f2
            have f3 := (hk3.frozen (p := ⟨r, i * 5 + 3, none⟩) hrr (fun e => e)).trans f3
            have f4 := (hk3.frozen (p := ⟨r, i * 5 + 4, none⟩) hrr (fun e => e)).trans f4
            have hrr2 := Nat.lt_of_lt_of_le hrr hk3.size
            have hne2 : r ≠ wr.heap.size := by omega
            have HK3 := Lib.hid hk3
            clear hb hk2 hk3 c0 c1 c2 c3 c4
            go_wp2
            go_roundw
            case rel => exact ⟨i + 1, j + 1, _, by go_num, by go_num, HH.out _ HK3.out HQ.out⟩
            case measure => simp [intOf]; omega
        · obtain rfl : j = L.length := by omega
          obtain ⟨Z, hz⟩ := clear_ones hmid.row hij (L.length - i) (cap - i) (by omega)
          have i2 : (0 : Int) ≤ i := by omega
          have i3 : (i : Int) ≤ L.length := by omega
          have i4 : (i : Int) ≤ cap := by omega
          have hzz := hz
          clear hmid
          have h9 : ¬ (L.length : Int) < L.length := by omega
          go_wp2
          go_ret
          exact HM.out.post Z
  · have hall : ∀ j (h : j < L.length), p L[j] = false := fun j => by
      induction j using Nat.strongRecOn with
      | ind j ih =>
        intro h
        cases e : p L[j] with
        | false => rfl
        | true => exact absurd ⟨j, h, fun k hk hkj => ih k hkj hk, e⟩ hex
    have hfl : (L.filter fun x => !p x) = L := by
      rw [List.filter_eq_self]
      intro x hx
      obtain ⟨j, hj, rfl⟩ := List.mem_iff_getElem.1 hx
      rw [hall j hj]
      rfl
    have HFL := Lib.hid hfl
    rw [idx_none hall] at HI
    clear hall hfl hex hform
    go_enter Tryz.func105, Tryz.ntmps105
    go_wp2_with fail
    refine HI.out.mono ?_
    rintro e w1 ⟨rfl, hk1⟩
    go_wp2
    go_ret
    refine ⟨v, rfl, ?_, rfl, hk1.mono fun _ _ e => e.elim⟩
    rw [HFL.out]
    exact own_keep hk1 HROW.out (fun _ _ e => e)
end Go.Proofs.YtklhlffdpojkoaaGreat

/-
  A group closes; lets members go.
-/
namespace Go.Proofs.YtklhlffdpojkoaaGreat
open Go.RowKit Go.Shelf Fx

def filG (g : GroupC) (q : OneC → Bool) : GroupC := { g with ones := g.ones.filter fun o => !q o }
theorem GrpAt.slices {w : World} {F : Nat → Prop} {b : Nat} {g : GroupC} {v : Value} {L : List OneV} (h : GrpAt w F b g v L) : ∀ x ∈ L, (∃ a n c, x.tv = .slice a n c) ∧ ∃ a n c, x.pv = .slice a n c := fun x hx => by
  obtain ⟨⟨a, c, e, _⟩, a2, c2, e2, _⟩ := h.out x hx
  exact ⟨⟨a, _, c, e⟩, a2, _, c2, e2⟩
theorem GrpAt.glen {w : World} {F : Nat → Prop} {b : Nat} {g : GroupC} {v : Value} {L : List OneV} (h : GrpAt w F b g v L) : g.ones.length = L.length := by rw [← h.ones]; simp
/-- Behind the members' row cut down, and its value stored. -/
theorem GrpAt.del {w w1 : World} {F : Nat → Prop} {b : Nat} {g : GroupC} {v v' : Value} {L : List OneV} {p : OneV → Bool} {q : OneC → Bool} (h : GrpAt w F b g v L) (hpq : ∀ x, p x = q x.core)
    (hrow : w1.ownsRow 0 94 5 v' (L.filter fun x => !p x).length ((L.filter fun x => !p x).flatMap oneEnc)) (hown : v'.ownBlock = v.ownBlock) (hk : Keeps (fun k => v.ownBlock = some k) w w1) :
    ∃ F', GrpAt (w1.setCell ⟨b, 6, none⟩ v') F' b (filG g q) v' (L.filter fun x => !p x) ∧ (∀ k, F' k → F k ∨ w.heap.size ≤ k) ∧ Keeps F w (w1.setCell ⟨b, 6, none⟩ v') := by
  have hbk : ∀ k, v.ownBlock = some k → k ≠ b := fun k e => (h.own k e).2
  have hb1 : w1.heap[b]? = some (.cells (gCells g v) 107 (0, 0)) := (hk.block b (block_lt h.blk) (fun e => hbk b e rfl)).trans h.blk
  have hk2 : Keeps (fun k => k = b ∨ v.ownBlock = some k) w (w1.setCell ⟨b, 6, none⟩ v') := (hk.mono fun _ _ e => .inr e).setC 6 v' (fun _ => .inl rfl)
  have hk3 : Keeps (fun k => k = b) w1 (w1.setCell ⟨b, 6, none⟩ v') := (Keeps.refl (fun k => k = b) w1).setC 6 v' (fun _ => rfl)
  have hst := h.step (g' := filG g q) (v' := v') (L' := L.filter fun x => !p x) hk2 (fun k e => e) (setCell_block hb1 6 v') (own_keep hk3 hrow (fun k e => hbk k (by rw [← hown]; exact e)))
    (fun k e => .inl (by rw [← hown]; exact e)) (by
      show (L.filter fun x => !p x).map OneV.core = g.ones.filter fun o => !q o
      rw [← h.ones, List.filter_map]
      congr 1
      refine List.filter_congr fun x _ => ?_
      rw [hpq]
      rfl)
    (fun x hx => .inl ⟨x, (List.mem_filter.1 hx).1, rfl, rfl⟩) (fun x hx => .inl ⟨x, (List.mem_filter.1 hx).1, rfl, rfl⟩)
  exact ⟨_, hst, fun k e => e.elim .inl fun e => .inr e.1, hk2.mono fun k _ e => e.elim (fun e => e ▸ h.fb) fun e => (h.own k e).1⟩
def closeG (g : GroupC) (now : Int) : GroupC :=
  if (filG g fun o => !o.joined).ones.length = 0 then enterG (filG g fun o => !o.joined) 0 0
  else enterG { filG g fun o => !o.joined with gen := g.gen + 1 } 2 (now + g.rebalance)
set_option maxRecDepth 100000 in
set_option maxHeartbeats 2000000 in
theorem close_any (w : World) (F : Nat → Prop) (b : Nat) (g : GroupC) (v : Value) (L : List OneV) (now : Int) (h : GrpAt w F b g v L) (hl : L.length ≤ 1000) (hn : 0 ≤ now ∧ now ≤ 1099511627776) (hr : 0 ≤ g.rebalance ∧ g.rebalance ≤ 100000) (hg : 0 ≤ g.gen ∧ g.gen ≤ 1152921504606846976) :
    Calls Tryz.prog 68 #[.pointer (some ⟨b, 0, none⟩), .int .i64 now] w fun e w' => e = .returned (.tuple #[]) ∧ GrpPost w F b (closeG g now) w' := by
  have HD := Lib.hid (deleteFunc w v L 106 #[] (fun x => !x.joined) h.row (h.rowV (by omega)) h.slices hl enters_close (fun w1 _ => tests_close w1))
  have hx : w.cell? ⟨b, 6, none⟩ = some v := block_cell h.blk 6
  have hb := block_lt h.blk
  have HH := Lib.hid h
  have hfb := block_free h.blk 6
  have hvb : v.ownBlock ≠ some b := fun e => (h.own b e).2 rfl
  clear h
  go_enter Tryz.func68, Tryz.ntmps68
  go_wp2_with fail
  refine HD.out.mono ?_
  rintro e w1 ⟨v', rfl, hrow, hown, hk⟩
  obtain ⟨F', hG, hF', hkF⟩ := HH.out.del (q := fun o => !o.joined) (fun x => rfl) hrow hown hk
  have hx1 := hk.cell' hx hvb
  have hf1 := (hk.frozen (p := ⟨b, 6, none⟩) hb hvb).trans hfb
  have hb1 := Nat.lt_of_lt_of_le hb hk.size
  have w3 : w1.cell? ⟨b, 3, none⟩ = some (.int .i64 g.gen) := hk.cell' (block_cell HH.out.blk 3) hvb
  have w4 : w1.cell? ⟨b, 1, none⟩ = some (.int .i64 g.rebalance) := hk.cell' (block_cell HH.out.blk 1) hvb
  have w5 : w1.frozen? ⟨b, 3, none⟩ = false := (hk.frozen (p := ⟨b, 3, none⟩) hb hvb).trans (block_free HH.out.blk 3)
  have hform : ∃ a cap, v' = .slice a (L.filter fun x => !!x.joined).length cap := by
    rcases hrow.2 with ⟨h1, h2⟩ | ⟨r, cap, cur, h1, _⟩
    · rw [h2]; exact ⟨_, _, h1⟩
    · exact ⟨_, _, h1⟩
  obtain ⟨a', cap', rfl⟩ := hform
  have hlen : (filG g fun o => !o.joined).ones.length = (L.filter fun x => !!x.joined).length := hG.glen
  have HG := Lib.hid hG
  have HF' := Lib.hid hF'
  have HKF := Lib.hid hkF
  have HL := Lib.hid hlen
  have hle : (L.filter fun x => !!x.joined).length ≤ 1000 := Nat.le_trans (List.length_filter_le _ _) hl
  clear hG hF' hkF hrow hown hlen hk hx
  generalize hnn : (L.filter fun x => !!x.joined).length = n at hle HL
  have HN := Lib.hid hnn
  have HGn : Hid (GrpAt (w1.setCell ⟨b, 6, none⟩ (.slice a' n cap')) F' b (filG g fun o => !o.joined) (.slice a' n cap') (L.filter fun x => !!x.joined)) := by have h1 := HG.out; rw [hnn] at h1; exact h1
  have HKn : Hid (Keeps F w (w1.setCell ⟨b, 6, none⟩ (.slice a' n cap'))) := by have h1 := HKF.out; rw [hnn] at h1; exact h1
  clear hnn HG HKF
  by_cases h0 : n = 0
  · obtain rfl : n = 0 := h0
    have HE := Lib.hid (enter_any _ _ _ _ _ _ 0 0 HGn.out)
    go_wp2_with fail
    refine HE.out.mono ?_
    rintro e w2 ⟨rfl, hg2, hk2⟩
    go_wp2
    (try simp only [Exit.inBlock, Exit.then])
    refine bodyPost_ret (results_none rfl _ _ _) rfl ?_
    have e : closeG g now = enterG (filG g fun o => !o.joined) 0 0 := if_pos HL.out
    rw [e]
    exact ⟨rfl, F', ⟨_, _, hg2⟩, HF'.out, HKn.out.trans hk2 fun k hk' e => (HF'.out k (e ▸ HGn.out.fb)).elim id fun e2 => by omega⟩
  · have h0' : ¬ (n : Int) = 0 := by omega
    have hk3 : Keeps (fun k => k = b) (w1.setCell ⟨b, 6, none⟩ (.slice a' n cap')) ((w1.setCell ⟨b, 6, none⟩ (.slice a' n cap')).setCell ⟨b, 3, none⟩ (.int .i64 (g.gen + 1))) := (Keeps.refl (fun k => k = b) _).setC 3 _ (fun _ => rfl)
    have hG3 := HGn.out.head (g' := { filG g fun o => !o.joined with gen := g.gen + 1 }) hk3 (setCell_block HGn.out.blk 3 _) rfl
    have HE := Lib.hid (enter_any _ _ _ _ _ _ 2 (now + g.rebalance) hG3)
    have HK3 := Lib.hid hk3
    clear hG3 hk3
    generalize hrb : g.rebalance = rb at hr HE w4
    generalize hgg : g.gen = gg at hg HE w3 HK3
    have HRB := Lib.hid hrb
    have HGG := Lib.hid hgg
    clear hrb hgg
    go_wp2_with fail
    refine HE.out.mono ?_
    rintro e w2 ⟨rfl, hg2, hk2⟩
    (try go_wp2)
    go_end0
    have e : closeG g now = enterG { filG g fun o => !o.joined with gen := gg + 1 } 2 (now + rb) := by
      rw [← HGG.out, ← HRB.out]
      exact if_neg (by rw [HL.out]; exact h0)
    rw [e]
    exact ⟨rfl, F', ⟨_, _, hg2⟩, HF'.out, (HKn.out.trans HK3.out fun k hk' e => (HF'.out k (e ▸ HGn.out.fb)).elim id fun e2 => by omega).trans hk2 fun k hk' e => (HF'.out k (e ▸ HGn.out.fb)).elim id fun e2 => by omega⟩
end Go.Proofs.YtklhlffdpojkoaaGreat
