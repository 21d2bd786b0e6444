/-
  Whether all have joined; where a member is.
-/
import Derived.Test.YtlmajhkhlmkeiaaGc
namespace Go.Proofs.Ytlmajhkhlmkeiaa
open Go.RowKit Go.Shelf Fx

theorem idx_any (p : OneV → Bool) (L : List OneV) : decide (idxOf p L ≥ 0) = L.any p := by
  unfold idxOf
  cases h : L.findIdx? p with
  | none =>
    have := List.findIdx?_eq_none_iff.1 h
    have h2 : L.any p = false := List.any_eq_false.2 fun x hx => by simp [this x hx]
    rw [h2]
    rfl
  | some i =>
    obtain ⟨h1, h2, _⟩ := List.findIdx?_eq_some_iff_getElem.1 h
    have h3 : L.any p = true := List.any_eq_true.2 ⟨_, List.getElem_mem h1, h2⟩
    rw [h3]
    simp only [decide_eq_true_eq]
    omega
set_option maxRecDepth 100000 in
set_option maxHeartbeats 1000000 in
theorem containsFunc (w : World) (v : Value) (L : List OneV) (c : Nat) (caps : Array Value) (p : OneV → Bool) (hv : RowV w v L) (eg : ∀ args w, (callFunc c args).run Try.prog w = .ok (.enter c args) w) (hp : ∀ w1, K0 w w1 → Tests c caps p w1) :
    Calls Try.prog 51 #[v, .func (.func c) #[] caps] w fun e w' => Same w e (.bool (L.any p)) w' := by
  have HI := Lib.hid (indexFunc w v L c caps p hv eg hp)
  have HA := Lib.hid (idx_any p L)
  clear hv eg hp
  generalize idxOf p L = i at HI HA
  go_enter Try.func51, Try.ntmps51
  go_wp2_with fail
  refine HI.out.mono ?_
  rintro e w' ⟨rfl, hk'⟩
  go_wp2
  go_ret
  rw [← HA.out]
  exact ⟨rfl, hk'⟩
set_option maxRecDepth 100000 in
set_option maxHeartbeats 1000000 in
theorem complete_any (w : World) (F : Nat → Prop) (b : Nat) (g : GroupC) (v : Value) (L : List OneV) (h : GrpAt w F b g v L) (hl : L.length ≤ 1000) :
    Calls Try.prog 25 #[.pointer (some ⟨b, 0, none⟩)] w fun e w' => Same w e (.bool (g.ones.all (·.joined))) w' := by
  have HC := Lib.hid (containsFunc w v L _ #[] (fun x => !x.joined) (h.rowV (by omega)) enters_complete (fun w1 _ => tests_complete w1))
  have hb := block_lt h.blk
  have HA : Hid (g.ones.all (·.joined) = !(L.any fun x => !x.joined)) := by
    show _ = _
    rw [← h.ones, List.all_map, List.not_any_eq_all_not]
    congr 1
    funext x
    simp [OneV.core]
  have hx : w.cell? ⟨b, 6, none⟩ = some v := block_cell h.blk 6
  clear h hl
  generalize (L.any fun x => !x.joined) = q at HC HA
  go_enter Try.func25, Try.ntmps25
  go_wp2_with fail
  refine HC.out.mono ?_
  rintro e w' ⟨rfl, hk'⟩
  go_wp2
  go_ret
  rw [HA.out]
  exact ⟨rfl, hk'⟩

/-- How a member's number compares. -/
def cmpM (x m : Int) : Int := wrap64 (x - m)
theorem cmp_in {x m : Int} (hx : 0 ≤ x ∧ x ≤ 1152921504606846976) (hm : -1152921504606846976 ≤ m ∧ m ≤ 1152921504606846976) : cmpM x m = x - m := IntWalk.wrap64_in _ (by omega)
theorem cmp_zero {x m : Int} (hx : 0 ≤ x ∧ x ≤ 1152921504606846976) (hm : -9223372036854775808 ≤ m ∧ m ≤ 9223372036854775807) : (cmpM x m == 0) = (x == m) := by
  unfold cmpM wrap64
  by_cases e : x = m
  · subst e; simp
  · have h2 : ¬ (x - m + 9223372036854775808) % 18446744073709551616 - 9223372036854775808 = 0 := by omega
    rw [beq_false_of_ne h2, beq_false_of_ne e]
set_option maxHeartbeats 400000 in
theorem find_cmp (x : OneV) (m : Int) (w : World) : Calls Try.prog 49 #[.agg #[.int .i64 x.member, x.tv, .int .i64 x.til, .bool x.joined, x.pv], .int .i64 m] w fun e w' => Same w e (.int .i64 (cmpM x.member m)) w' := by
  obtain ⟨a, t, u, j, p, _, _⟩ := x
  go_enter Try.func49, Try.ntmps49
  go_wp2
  go_ret
  exact ⟨rfl, (Keeps.refl _ _).alloc _⟩
/-- Rising members. -/
structure RiseM (L : List OneV) : Prop where
  rise : ∀ i j (hi : i < L.length) (hj : j < L.length), i < j → L[i].member < L[j].member
  wf : ∀ i (hi : i < L.length), 0 ≤ L[i].member ∧ L[i].member ≤ 1152921504606846976
/-- Where the search ends: at a place, with an answer that is true just where the member is there. -/
def Found (L : List OneV) (m : Int) (e : Ending) : Prop :=
  ∃ (a : Nat) (f : Bool), e = .returned (.tuple #[.int .i64 a, .bool f]) ∧ a ≤ L.length ∧ (f = true → ∃ h : a < L.length, L[a].member = m) ∧ (f = false → ∀ i (h : i < L.length), L[i].member ≠ m)
/-- The search knows: all ahead of a are less, all from b on are not. -/
def Halves (L : List OneV) (m : Int) (a b : Nat) : Prop :=
  -1152921504606846976 ≤ m ∧ m ≤ 1152921504606846976 → (∀ k (h : k < L.length), k < a → L[k].member < m) ∧ (∀ k (h : k < L.length), b ≤ k → m ≤ L[k].member)
theorem Halves.low {L : List OneV} {m : Int} {a b c : Nat} (hr : RiseM L) (h : Halves L m a b) (hc : c < L.length) (hd : cmpM L[c].member m < 0) : Halves L m (c + 1) b := fun hm => by
  refine ⟨fun k hk hkc => ?_, (h hm).2⟩
  rw [cmp_in (hr.wf c hc) hm] at hd
  rcases Nat.lt_or_ge k c with h3 | h3
  · have := hr.rise k c hk hc h3
    omega
  · obtain rfl : k = c := by omega
    omega
theorem Halves.high {L : List OneV} {m : Int} {a b c : Nat} (hr : RiseM L) (h : Halves L m a b) (hc : c < L.length) (hd : ¬ cmpM L[c].member m < 0) : Halves L m a c := fun hm => by
  refine ⟨(h hm).1, fun k hk hkc => ?_⟩
  rw [cmp_in (hr.wf c hc) hm] at hd
  rcases Nat.lt_or_ge c k with h3 | h3
  · have := hr.rise c k hc hk h3
    omega
  · obtain rfl : k = c := by omega
    omega
theorem Halves.found {L : List OneV} {m : Int} {a : Nat} (hr : RiseM L) (hm : -9223372036854775808 ≤ m ∧ m ≤ 9223372036854775807) (h : Halves L m a a) (ha : a < L.length) : (cmpM L[a].member m == 0) = true → L[a].member = m := fun e => by
  rw [cmp_zero (hr.wf a ha) hm] at e
  exact eq_of_beq e
theorem Halves.none {L : List OneV} {m : Int} {a : Nat} (hr : RiseM L) (h : Halves L m a a) (ha : ∀ h : a < L.length, L[a].member ≠ m) : ∀ i (h : i < L.length), L[i].member ≠ m := fun i hi e => by
  have hm := hr.wf i hi
  obtain ⟨h1, h2⟩ := h (by omega)
  rcases Nat.lt_trichotomy i a with h3 | h3 | h3
  · have := h1 i hi h3
    omega
  · subst h3
    exact ha hi e
  · have := h2 a (by omega) (Nat.le_refl _)
    have := hr.rise a i (by omega) hi h3
    omega

set_option maxRecDepth 100000 in
set_option maxHeartbeats 2000000 in
theorem searchM (w : World) (v : Value) (L : List OneV) (m : Int) (hv : RowV w v L) (hr : RiseM L) (hm : -9223372036854775808 ≤ m ∧ m ≤ 9223372036854775807) (hn : L.length ≤ 1000) :
    Calls Try.prog 48 #[v, .int .i64 m, .func (.func 49) #[] #[]] w fun e w' => Found L m e ∧ K0 w w' := by
  have HV := Lib.hid hv
  have HR := Lib.hid hr
  have HM := Lib.hid hm
  obtain ⟨cap0, a0, rfl⟩ : ∃ cap a, v = .slice a L.length cap := by
    rcases hv.2 with ⟨rfl, rfl⟩ | ⟨r, cap, rfl, _⟩
    · exact ⟨_, _, rfl⟩
    · exact ⟨_, _, rfl⟩
  clear hv hr hm
  go_enter Try.func48, Try.ntmps48
  go_wp2
  go_loopw [9, 10] (fun i j wr => ∃ (a b : Nat), i = .int .i64 a ∧ j = .int .i64 b ∧ a ≤ b ∧ b ≤ L.length ∧ Halves L m a b ∧ K0 w wr) (fun i j _ => (intOf j - intOf i).toNat)
  case atStart => exact ⟨0, L.length, rfl, rfl, by omega, by omega, fun _ => ⟨fun k _ h => by omega, fun k _ h => by omega⟩, Keeps.refl _ _⟩
  case round =>
    obtain ⟨a, b, rfl, rfl, hab, hb, hh, hkw⟩ := hrel
    have HH := Lib.hid hh
    have HK := Lib.hid hkw
    clear hh
    by_cases hlt : a < b
    · have hc : (a + b) / 2 < L.length := by omega
      rcases HV.out.2 with ⟨h0, _⟩ | ⟨r, cap, e, hr, hcl⟩
      · subst h0; exact absurd hc (Nat.not_lt_zero _)
      · simp only [Value.slice.injEq, true_and] at e
        obtain ⟨rfl, rfl⟩ := e
        obtain ⟨c0, c1, c2, c3, c4⟩ := hcl _ hc
        have c0 := hkw.cell' c0 (fun e => e)
        have c1 := hkw.cell' c1 (fun e => e)
        have c2 := hkw.cell' c2 (fun e => e)
        have c3 := hkw.cell' c3 (fun e => e)
        have c4 := hkw.cell' c4 (fun e => e)
        have hr := Lib.hid (Nat.lt_of_lt_of_le hr hkw.size)
        have HT := Lib.hid (find_cmp L[(a + b) / 2] m wr)
        clear hcl hkw
        by_cases hd : cmpM L[(a + b) / 2].member m < 0
        · have HL := Lib.hid (HH.out.low HR.out hc hd)
          generalize cmpM L[(a + b) / 2].member m = d at HT hd
          generalize L[(a + b) / 2].member = x0 at c0 HT
          generalize L[(a + b) / 2].tv = x1 at c1 HT
          generalize L[(a + b) / 2].til = x2 at c2 HT
          generalize L[(a + b) / 2].joined = x3 at c3 HT
          generalize L[(a + b) / 2].pv = x4 at c4 HT
          go_wp2_with fail
          refine HT.out.mono ?_
          rintro e w' ⟨rfl, hk'⟩
          go_wp2
          go_roundw
          case rel => exact ⟨(a + b) / 2 + 1, b, by go_num, rfl, by omega, hb, HL.out, K0.tr HK.out hk'⟩
          case measure => simp [intOf]; omega
        · have HL := Lib.hid (HH.out.high HR.out hc hd)
          generalize cmpM L[(a + b) / 2].member m = d at HT hd
          generalize L[(a + b) / 2].member = x0 at c0 HT
          generalize L[(a + b) / 2].tv = x1 at c1 HT
          generalize L[(a + b) / 2].til = x2 at c2 HT
          generalize L[(a + b) / 2].joined = x3 at c3 HT
          generalize L[(a + b) / 2].pv = x4 at c4 HT
          go_wp2_with fail
          refine HT.out.mono ?_
          rintro e w' ⟨rfl, hk'⟩
          go_wp2
          go_roundw
          case rel => exact ⟨a, (a + b) / 2, rfl, by go_num, by omega, by omega, HL.out, K0.tr HK.out hk'⟩
          case measure => simp [intOf]; omega
    · obtain rfl : a = b := by omega
      by_cases hlt2 : a < L.length
      · rcases HV.out.2 with ⟨h0, _⟩ | ⟨r, cap, e, hr, hcl⟩
        · subst h0; exact absurd hlt2 (Nat.not_lt_zero _)
        · simp only [Value.slice.injEq, true_and] at e
          obtain ⟨rfl, rfl⟩ := e
          obtain ⟨c0, c1, c2, c3, c4⟩ := hcl _ hlt2
          have c0 := hkw.cell' c0 (fun e => e)
          have c1 := hkw.cell' c1 (fun e => e)
          have c2 := hkw.cell' c2 (fun e => e)
          have c3 := hkw.cell' c3 (fun e => e)
          have c4 := hkw.cell' c4 (fun e => e)
          have hr := Lib.hid (Nat.lt_of_lt_of_le hr hkw.size)
          have HT := Lib.hid (find_cmp L[a] m wr)
          have HF := Lib.hid (HH.out.found HR.out HM.out hlt2)
          have HZ := Lib.hid (cmp_zero (HR.out.wf a hlt2) HM.out)
          clear hcl hkw hab hlt
          have h9 : ¬ a < a := by omega
          have i0 : (0 : Int) ≤ a := by omega
          have i1 : (a : Int) < L.length := by omega
          cases hd : (cmpM L[a].member m == 0) with
          | true =>
            have HQ : Hid (L[a].member = m) := HF.out hd
            generalize cmpM L[a].member m = d at HT hd
            clear HF HZ
            generalize hx0 : L[a].member = x0 at c0 HT
            generalize L[a].tv = x1 at c1 HT
            generalize L[a].til = x2 at c2 HT
            generalize L[a].joined = x3 at c3 HT
            generalize L[a].pv = x4 at c4 HT
            have HX := Lib.hid hx0
            clear hx0
            go_wp2_with fail
            refine HT.out.mono ?_
            rintro e w' ⟨rfl, hk'⟩
            go_wp2
            go_ret2
            exact ⟨⟨a, true, rfl, by omega, fun _ => ⟨hlt2, HQ.out⟩, (fun h => by cases h)⟩, K0.tr HK.out hk'⟩
          | false =>
            have HQ : Hid (L[a].member ≠ m) := by
              intro e
              have h8 := HZ.out
              rw [hd, e] at h8
              simp at h8
            generalize cmpM L[a].member m = d at HT hd
            clear HF HZ
            generalize hx0 : L[a].member = x0 at c0 HT
            generalize L[a].tv = x1 at c1 HT
            generalize L[a].til = x2 at c2 HT
            generalize L[a].joined = x3 at c3 HT
            generalize L[a].pv = x4 at c4 HT
            have HX := Lib.hid hx0
            clear hx0
            go_wp2_with fail
            refine HT.out.mono ?_
            rintro e w' ⟨rfl, hk'⟩
            go_wp2
            go_ret2
            exact ⟨⟨a, false, rfl, by omega, (fun h => by cases h), fun _ => HH.out.none HR.out (fun _ => HQ.out)⟩, K0.tr HK.out hk'⟩
      · clear hab hlt hkw
        have h9 : ¬ a < a := by omega
        go_wp2
        go_ret2
        exact ⟨⟨a, false, rfl, by omega, (fun h => by cases h), fun _ => HH.out.none HR.out (fun h => absurd h hlt2)⟩, HK.out⟩
/-- The place of a member, if it is there. -/
def FindPost (w : World) (v : Value) (L : List OneV) (m : Int) (e : Ending) (w' : World) : Prop :=
  K0 w w' ∧ ((∃ (i : Nat) (hi : i < L.length) (r cap : Nat), L[i].member = m ∧ v = .slice (some ⟨r, 0, none⟩) L.length cap ∧ e = .returned (.pointer (some ⟨r, i * 5, none⟩))) ∨ ((∀ i (h : i < L.length), L[i].member ≠ m) ∧ e = .returned (.pointer none)))
set_option maxRecDepth 100000 in
set_option maxHeartbeats 2000000 in
theorem find_any (w : World) (F : Nat → Prop) (b : Nat) (g : GroupC) (v : Value) (L : List OneV) (m : Int) (h : GrpAt w F b g v L) (hr : RiseM L) (hm : -9223372036854775808 ≤ m ∧ m ≤ 9223372036854775807) (hn : L.length ≤ 1000) :
    Calls Try.prog 22 #[.pointer (some ⟨b, 0, none⟩), .int .i64 m] w fun e w' => FindPost w v L m e w' := by
  have HS := Lib.hid (searchM w v L m (h.rowV (by omega)) hr hm hn)
  have hx : w.cell? ⟨b, 6, none⟩ = some v := block_cell h.blk 6
  have hb := block_lt h.blk
  have HF := Lib.hid h.form
  clear h hr hm
  go_enter Try.func22, Try.ntmps22
  go_wp2_with fail
  refine HS.out.mono ?_
  rintro e w' ⟨⟨a, f, rfl, ha, h1, h2⟩, hk'⟩
  have H1 := Lib.hid h1
  have H2 := Lib.hid h2
  clear h1 h2
  cases f with
  | false =>
    have H3 := Lib.hid (H2.out rfl)
    clear H2 H1
    go_wp2
    go_ret
    exact ⟨hk', .inr ⟨H3.out, rfl⟩⟩
  | true =>
    obtain ⟨h3, h4⟩ := H1.out rfl
    rcases HF.out with ⟨h0, _⟩ | ⟨r, cap, rfl, _, hrl, _, _⟩
    · subst h0; exact absurd h3 (Nat.not_lt_zero _)
    · have hx' := hk'.cell' hx (fun e => e)
      have hb' := Nat.lt_of_lt_of_le hb hk'.size
      have hk2 := Lib.hid hk'
      clear hx hb hk'
      have i0 : (0 : Int) ≤ a := by omega
      have i1 : (a : Int) < L.length := by omega
      go_wp2
      go_ret
      exact ⟨hk2.out, .inl ⟨a, h3, r, cap, h4, rfl, rfl⟩⟩
end Go.Proofs.Ytlmajhkhlmkeiaa
