/-
  Whether members and topics may be: the package assign's Check.
-/
import Derived.Test.YtlmajhkhlmkeiaaAb
namespace Go.Proofs.Ytlmajhkhlmkeiaa
open Go.RowKit Fx

def subOk (s : SubC) : Bool := decide (0 ≤ s.member) && decide (s.member ≤ 1073741824) && decide (s.topics.length ≤ 20) && chain sltB s.topics
def topOk (t : TopC) : Bool := decide (1 ≤ t.parts) && decide (t.parts ≤ 16)
def checkB (subs : List SubC) (tops : List TopC) : Bool :=
  decide (subs.length ≤ 20) && decide (tops.length ≤ 20) && chain (fun a b : Int => decide (a < b)) (subs.map SubC.member) && chain sltB (tops.map TopC.name) && subs.all subOk && tops.all topOk
def chk (subs : List SubC) (tops : List TopC) : Int := if checkB subs tops then 0 else 1

theorem subOk_cases (s : SubC) (h : ¬ subOk s = true) :
    s.member < 0 ∨ (0 ≤ s.member ∧ 1073741824 < s.member) ∨ (0 ≤ s.member ∧ s.member ≤ 1073741824 ∧ 20 < s.topics.length) ∨ (0 ≤ s.member ∧ s.member ≤ 1073741824 ∧ s.topics.length ≤ 20 ∧ chain sltB s.topics = false) := by
  by_cases h1 : 0 ≤ s.member
  · by_cases h2 : s.member ≤ 1073741824
    · by_cases h3 : s.topics.length ≤ 20
      · exact .inr (.inr (.inr ⟨h1, h2, h3, by cases hc : chain sltB s.topics; rfl; exact absurd (by simp [subOk, h1, h2, h3, hc]) h⟩))
      · exact .inr (.inr (.inl ⟨h1, h2, by omega⟩))
    · exact .inr (.inl ⟨h1, by omega⟩)
  · exact .inl (by omega)
theorem subOk_parts (s : SubC) (h : subOk s = true) : 0 ≤ s.member ∧ s.member ≤ 1073741824 ∧ s.topics.length ≤ 20 ∧ chain sltB s.topics = true := by
  simp only [subOk, Bool.and_eq_true, decide_eq_true_eq] at h
  exact ⟨h.1.1.1, h.1.1.2, h.1.2, h.2⟩
theorem topOk_cases (t : TopC) (h : ¬ topOk t = true) : t.parts < 1 ∨ (1 ≤ t.parts ∧ 16 < t.parts) := by
  simp only [topOk, Bool.and_eq_true, decide_eq_true_eq, not_and] at h
  by_cases h1 : 1 ≤ t.parts
  · exact .inr ⟨h1, by have := h h1; omega⟩
  · exact .inl (by omega)
theorem topOk_parts (t : TopC) (h : topOk t = true) : 1 ≤ t.parts ∧ t.parts ≤ 16 := by
  simp only [topOk, Bool.and_eq_true, decide_eq_true_eq] at h
  exact h
theorem chk_sub {subs : List SubC} {tops : List TopC} {k : Nat} (hk : k < subs.length) (h : ¬ subOk subs[k] = true) : chk subs tops = 1 := by
  have : subs.all subOk = false := List.all_eq_false.2 ⟨subs[k], List.getElem_mem hk, h⟩
  simp [chk, checkB, this]
theorem chk_top {subs : List SubC} {tops : List TopC} {k : Nat} (hk : k < tops.length) (h : ¬ topOk tops[k] = true) : chk subs tops = 1 := by
  have : tops.all topOk = false := List.all_eq_false.2 ⟨tops[k], List.getElem_mem hk, h⟩
  simp [chk, checkB, this]
theorem all_of {α : Type} {p : α → Bool} {l : List α} (h : ∀ j (h : j < l.length), p l[j] = true) : l.all p = true := by
  rw [List.all_eq_true]
  intro x hx
  obtain ⟨j, hj, rfl⟩ := List.mem_iff_getElem.1 hx
  exact h j hj

set_option maxRecDepth 100000 in
set_option maxHeartbeats 2000000 in
theorem check14 (w0 w : World) (sa ta : Option Addr) (sc tc : Nat) (subs : List SubC) (tops : List TopC) (hs : SlAt 2 rSub w0 sa sc subs) (ht : SlAt 2 rTop w0 ta tc tops) (hb : Below w0.heap.size w0 w) :
    Calls Try.prog 21 #[.slice sa subs.length sc, .slice ta tops.length tc] w fun e w' => Same w e (.int .i64 (chk subs tops)) w' := by
  by_cases hlen : subs.length ≤ 20 ∧ tops.length ≤ 20
  · obtain ⟨l1, l2⟩ := hlen
    have R25 := Lib.hid (rises25 w0 w sa sc subs hs hb)
    have R27 := Lib.hid (fun (w1 : World) (k : K0 w w1) => rises27 w0 w1 ta tc tops ht (k.after hb))
    have HS := Lib.hid hs
    have HT := Lib.hid ht
    have HB := Lib.hid hb
    clear hs ht hb
    cases h1 : chain (fun a b : Int => decide (a < b)) (subs.map SubC.member) with
    | false =>
      have HF : Hid (chk subs tops = 1) := by simp [Hid, chk, checkB, h1]
      rw [h1] at R25
      clear h1
      go_enter Try.func21, Try.ntmps21
      go_wp2_with (go_at_call 42; refine R25.out.mono ?_; rintro e w1 ⟨rfl, k1⟩)
      go_ret
      rw [HF.out]
      exact ⟨rfl, k1⟩
    | true =>
      rw [h1] at R25
      cases h2 : chain sltB (tops.map TopC.name) with
      | false =>
        have HF : Hid (chk subs tops = 1) := by simp [Hid, chk, checkB, h2]
        rw [h2] at R27
        clear h1 h2
        go_enter Try.func21, Try.ntmps21
        go_wp2_with fail
        refine R25.out.mono ?_
        rintro e w1 ⟨rfl, k1⟩
        go_wp2_with fail
        refine (R27.out w1 k1).mono ?_
        rintro e w2 ⟨rfl, k2⟩
        go_wp2
        go_ret
        rw [HF.out]
        exact ⟨rfl, K0.tr k1 k2⟩
      | true =>
        rw [h2] at R27
        have HF : Hid (chk subs tops = if subs.all subOk && tops.all topOk then 0 else 1) := by simp [Hid, chk, checkB, h1, h2, l1, l2]
        clear h1 h2
        go_enter Try.func21, Try.ntmps21
        go_wp2_with fail
        refine R25.out.mono ?_
        rintro e w1 ⟨rfl, k1⟩
        go_wp2_with fail
        refine (R27.out w1 k1).mono ?_
        rintro e w2 ⟨rfl, k2⟩
        have k12 := K0.tr k1 k2
        clear k1 k2
        go_wp2_with fail
        go_loopw [27] (fun i wr => ∃ k : Nat, k ≤ subs.length ∧ i = .int .i64 k ∧ (∀ j (h : j < subs.length), j < k → subOk subs[j] = true) ∧ K0 w wr) (fun i _ => subs.length - (intOf i).toNat)
        case atStart => exact ⟨0, by omega, rfl, fun j _ h => by omega, k12⟩
        case round =>
          clear k12
          obtain ⟨k, hk, rfl, hq, hkw⟩ := hrel
          have HQ := Lib.hid hq
          have hbr := hkw.after HB.out
          have HK := Lib.hid hkw
          clear hq hkw
          by_cases hlt : k < subs.length
          · obtain ⟨b, off, rfl, hr'⟩ := HS.out.row hlt
            obtain ⟨a1, cap1, c0, c1, hbl, hsl⟩ := sub_cells hr' hbr k hlt
            have RR := Lib.hid (fun o => rises29 w0 (wr.alloc o) a1 cap1 subs[k].topics hsl (hbr.alloc hbr.size o))
            clear hr' hsl hbr
            by_cases hok : subOk subs[k] = true
            · have HO := Lib.hid hok
              obtain ⟨o1, o2, o3, o4⟩ := subOk_parts _ hok
              rw [o4] at RR
              clear o4 hok
              generalize subs[k].member = m at c0 o1 o2
              generalize subs[k].topics.length = n at c1 o3 RR
              go_wp2_with (go_at_call 46; refine (RR.out _).mono ?_; rintro e w3 ⟨rfl, k3⟩)
              go_roundw
              case rel => exact ⟨k + 1, by omega, by go_num, fun j h hj => (Nat.lt_succ_iff_lt_or_eq.1 hj).elim (HQ.out j h) fun e => by subst e; exact HO.out, (K0.tr (w1 := wr.alloc _) (HK.out.alloc _) k3)⟩
              case measure => simp [intOf]; omega
            · have HF1 := Lib.hid (chk_sub (tops := tops) hlt hok)
              rcases subOk_cases _ hok with h | ⟨h, h'⟩ | ⟨h, h', h''⟩ | ⟨h, h', h'', h3⟩
              rotate_right
              · rw [h3] at RR
                clear hok h3
                generalize subs[k].member = m at c0 h h'
                generalize subs[k].topics.length = n at c1 h'' RR
                go_wp2_with (go_at_call 46; refine (RR.out _).mono ?_; rintro e w3 ⟨rfl, k3⟩)
                go_ret
                rw [HF1.out]
                exact ⟨rfl, (K0.tr (w1 := wr.alloc _) (HK.out.alloc _) k3)⟩
              all_goals
                clear hok RR
                generalize subs[k].member = m at *
                generalize subs[k].topics.length = n at *
                go_wp2
                go_ret
                rw [HF1.out]
                exact ⟨rfl, HK.out.alloc _⟩
          · have HA : Hid (subs.all subOk = true) := all_of (fun j h => HQ.out j h (by omega))
            obtain ⟨wo, rfl⟩ : ∃ wo : World, wo = wr := ⟨_, rfl⟩
            have hbr2 := hbr
            clear hbr
            go_wp2_with fail
            go_loopw [54] (fun i wq => ∃ k : Nat, k ≤ tops.length ∧ i = .int .i64 k ∧ (∀ j (h : j < tops.length), j < k → topOk tops[j] = true) ∧ K0 wo wq) (fun i _ => tops.length - (intOf i).toNat)
            case atStart => exact ⟨0, by omega, rfl, fun j _ h => by omega, Keeps.refl _ _⟩
            case round =>
              obtain ⟨k, hk, rfl, hq, hkw⟩ := hrel
              have HQ := Lib.hid hq
              have hbr := hkw.after hbr2
              have HK := Lib.hid (K0.tr HK.out hkw)
              have HKo := Lib.hid hkw
              clear hq hkw hbr2
              by_cases hlt2 : k < tops.length
              · obtain ⟨b, off, rfl, hr'⟩ := HT.out.row hlt2
                obtain ⟨c0, c1, hbl⟩ := top_cells hr' hbr k hlt2
                clear hr' hbr
                by_cases hok : topOk tops[k] = true
                · have HO := Lib.hid hok
                  obtain ⟨o1, o2⟩ := topOk_parts _ hok
                  clear hok
                  generalize tops[k].parts = p at c1 o1 o2
                  generalize tops[k].name = s at c0
                  go_wp2
                  go_roundw
                  case rel => exact ⟨k + 1, by omega, by go_num, fun j h hj => (Nat.lt_succ_iff_lt_or_eq.1 hj).elim (HQ.out j h) fun e => by subst e; exact HO.out, HKo.out.alloc _⟩
                  case measure => simp [intOf]; omega
                · have HF1 := Lib.hid (chk_top (subs := subs) hlt2 hok)
                  rcases topOk_cases _ hok with h | ⟨h, h'⟩
                  all_goals
                    clear hok
                    generalize tops[k].parts = p at *
                    generalize tops[k].name = s at *
                    go_wp2
                    go_ret
                    rw [HF1.out]
                    exact ⟨rfl, HK.out.alloc _⟩
              · have HA2 : Hid (chk subs tops = 0) := by
                  have : tops.all topOk = true := all_of (fun j h => HQ.out j h (by omega))
                  show chk subs tops = 0
                  rw [HF.out, HA.out, this]; rfl
                clear hbr
                go_wp2
                go_ret
                rw [HA2.out]
                exact ⟨rfl, HK.out⟩
  · have hf : Hid (chk subs tops = 1) := by
      simp only [chk, checkB, Hid]
      by_cases h : subs.length ≤ 20
      · have : ¬ tops.length ≤ 20 := fun h' => hlen ⟨h, h'⟩
        simp [this]
      · simp [h]
    clear hs ht
    by_cases h2 : subs.length ≤ 20
    · have h3 : 20 < tops.length := by omega
      clear hlen
      go_enter Try.func21, Try.ntmps21
      go_wp2
      go_ret
      rw [hf.out]
      exact ⟨rfl, Keeps.refl _ _⟩
    · clear hlen
      go_enter Try.func21, Try.ntmps21
      go_wp2
      go_ret
      rw [hf.out]
      exact ⟨rfl, Keeps.refl _ _⟩
end Go.Proofs.Ytlmajhkhlmkeiaa
