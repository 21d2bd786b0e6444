/-
  The reference's Check.
-/
import Derived.Test.YtlmajhkhlmkeiaaAl
namespace Go.Proofs.Ytlmajhkhlmkeiaa
open Go.RowKit Fx

set_option maxRecDepth 100000 in
set_option maxHeartbeats 1000000 in
theorem rises31q (w0 w : World) (sa : Option Addr) (sc : Nat) (l : List ByteArray) (hs : SlAt 1 rStr w0 sa sc l) (hb : Below w0.heap.size w0 w) :
    Calls Try.prog 80 #[.slice sa l.length sc] w fun e w' => e = .returned (.bool (chain sltB l)) ∧ ∃ n, w' = w.drewN n := by
  have hm := hs.len
  have HS := Lib.hid hs
  have HB := Lib.hid hb
  clear hs hb
  go_enter Try.func80, Try.ntmps80
  go_wp2
  go_loopw [3] (fun i wr => ∃ k : Nat, i = .int .i64 (k + 1 : Int) ∧ k ≤ l.length ∧ (∀ j (h : j + 1 < l.length), j < k → sltB l[j] l[j + 1] = true) ∧ ∃ n, wr = w.drewN n) (fun i _ => l.length - (intOf i).toNat)
  case atStart => exact ⟨0, rfl, by omega, fun j _ h => by omega, 0, rfl⟩
  case round =>
    obtain ⟨k, rfl, hk, hq, hn⟩ := hrel
    have HQ := Lib.hid hq
    have hbr : Below w0.heap.size w0 wr := by
      obtain ⟨n, rfl⟩ := hn
      exact ⟨HB.out.os, HB.out.tape, HB.out.output, HB.out.size, HB.out.block⟩
    have HK := Lib.hid hn
    clear hq hn
    by_cases hlt : k + 1 < l.length
    · obtain ⟨b, off, rfl, hr'⟩ := HS.out.row hlt
      obtain ⟨c0, hbl⟩ := str_cells hr' hbr k (by omega)
      obtain ⟨d0, _⟩ := str_cells hr' hbr (k + 1) hlt
      generalize hx : l[k] = x at c0
      generalize hy : l[k + 1] = y at d0
      have HX := Lib.hid hx
      have HY := Lib.hid hy
      clear hx hy
      clear hr' hbr
      have hI : IntKind.i64.wrap (k : Int) = k := IntWalk.i64_in _ (by omega)
      have i0 : (0 : Int) ≤ k := by omega
      have i1 : (k : Int) < l.length := by omega
      have i2 : (0 : Int) ≤ (k : Int) + 1 := by omega
      have i3 : (k : Int) + 1 < l.length := by omega
      have i4 : ((k : Int) + 1).toNat = k + 1 := by omega
      by_cases hd : sltB x y = true
      · have HD := Lib.hid hd
        have hd' : Op.bytesLess x.toList y.toList = true := hd
        go_wp2_with fail
        go_quiet (fail)
        go_wp2
        go_roundw
        case rel =>
          obtain ⟨n, rfl⟩ := HK.out
          exact ⟨k + 1, by go_num, by omega, fun j h hj => (Nat.lt_succ_iff_lt_or_eq.1 hj).elim (HQ.out j h) fun e => by subst e; rw [HX.out, HY.out]; exact HD.out, _, World.drewN_drewN _ _ _⟩
        case measure => simp [intOf]; omega
      · have HD : Hid (chain sltB l = false) := chain_false _ _ k hlt (by rw [HX.out, HY.out]; simpa using hd)
        have hd' : Op.bytesLess x.toList y.toList = false := by simpa [sltB] using hd
        go_wp2_with fail
        go_quiet (fail)
        go_wp2
        go_ret
        rw [HD.out]
        obtain ⟨n, rfl⟩ := HK.out
        exact ⟨rfl, _, World.drewN_drewN _ _ _⟩
    · have HD : Hid (chain sltB l = true) := (chain_iff _ _).2 (fun j h => HQ.out j h (lt_of_not' hlt h))
      clear hbr
      go_wp2
      go_ret
      rw [HD.out]
      exact ⟨rfl, HK.out⟩

theorem chk_chain {subs : List SubC} {tops : List TopC} {k : Nat} (hk : k < subs.length) (h0 : 0 < k) (h : ¬ (subs[k - 1]'(by omega)).member < subs[k].member) : chk subs tops = 1 := by
  have : chain (fun a b : Int => decide (a < b)) (subs.map SubC.member) = false := chain_false _ _ (k - 1) (by simp; omega) (by
    simp only [List.getElem_map, show k - 1 + 1 = k by omega]
    simpa using h)
  simp [chk, checkB, this]
theorem chk_chain2 {subs : List SubC} {tops : List TopC} {k : Nat} (hk : k < tops.length) (h0 : 0 < k) (h : ¬ sltB (tops[k - 1]'(by omega)).name tops[k].name = true) : chk subs tops = 1 := by
  have : chain sltB (tops.map TopC.name) = false := chain_false _ _ (k - 1) (by simp; omega) (by
    simp only [List.getElem_map, show k - 1 + 1 = k by omega]
    simpa using h)
  simp [chk, checkB, this]

set_option maxRecDepth 100000 in
set_option maxHeartbeats 4000000 in
theorem check15 (w0 w : World) (sa ta : Option Addr) (sc tc : Nat) (subs : List SubC) (tops : List TopC) (hs : SlAt 2 rSub w0 sa sc subs) (ht : SlAt 2 rTop w0 ta tc tops) (hb : Below w0.heap.size w0 w) :
    Calls Try.prog 73 #[.slice sa subs.length sc, .slice ta tops.length tc] w fun e w' => Same w e (.int .i64 (chk subs tops)) w' := by
  by_cases hlen : subs.length ≤ 20 ∧ tops.length ≤ 20
  · obtain ⟨l1, l2⟩ := hlen
    have HS := Lib.hid hs
    have HT := Lib.hid ht
    have HB := Lib.hid hb
    clear hs ht hb
    go_enter Try.func73, Try.ntmps73
    go_wp2
    go_loopw [5] (fun i wr => ∃ k : Nat, k ≤ subs.length ∧ i = .int .i64 k ∧ (∀ j (h : j < subs.length), j < k → subOk subs[j] = true ∧ (0 < j → (subs[j - 1]'(by omega)).member < subs[j].member)) ∧ K0 w wr) (fun i _ => subs.length - (intOf i).toNat)
    case atStart => exact ⟨0, by omega, rfl, fun j _ h => by omega, Keeps.refl _ _⟩
    case round =>
      obtain ⟨k, hk, rfl, hq, hkw⟩ := hrel
      have HQ := Lib.hid hq
      have hbr := hkw.after HB.out
      have HK := Lib.hid hkw
      clear hq hkw
      by_cases hlt : k < subs.length
      · obtain ⟨b, off, rfl, hr'⟩ := HS.out.row hlt
        obtain ⟨a1, cap1, c0, c1, hbl, hsl⟩ := sub_cells hr' hbr k hlt
        have RR := Lib.hid (fun (wx : World) (hx : Below w0.heap.size w0 wx) => rises31q w0 wx a1 cap1 subs[k].topics hsl hx)
        have hbx : Hid (∀ o n, Below w0.heap.size w0 ((wr.alloc o).drewN n)) := fun o n => by
          have := hbr.alloc hbr.size o
          exact ⟨this.os, this.tape, this.output, this.size, this.block⟩
        by_cases hok : subOk subs[k] = true
        · have HO := Lib.hid hok
          obtain ⟨o1, o2, o3, o4⟩ := subOk_parts _ hok
          rw [o4] at RR
          clear o4 hok
          by_cases h0 : 0 < k
          · obtain ⟨a2, cap2, d0, d1, _, _⟩ := sub_cells hr' hbr (k - 1) (by omega)
            clear hr' hbr hsl
            have i0 : (0 : Int) < k := by omega
            have i1 : (0 : Int) ≤ (k : Int) - 1 := by omega
            have i2 : (k : Int) - 1 < subs.length := by omega
            have i3 : ((k : Int) - 1).toNat = k - 1 := by omega
            have i4 : IntKind.i64.wrap ((k : Int) - 1) = (k : Int) - 1 := IntWalk.i64_in _ (by omega)
            by_cases hlt2 : subs[k - 1].member < subs[k].member
            · have HL := Lib.hid hlt2
              generalize subs[k - 1].member = pm at d0 hlt2
              generalize subs[k].member = m at c0 o1 o2 hlt2
              generalize subs[k].topics.length = n at c1 o3 RR
              have t1 : decide (m < 0) = false := by simp; omega
              have t2 : decide (1073741824 < m) = false := by simp; omega
              have t3 : decide (20 < (n : Int)) = false := by simp; omega
              have t4 : decide ((0 : Int) < k) = true := by simp; omega
              have t5 : decide (m ≤ pm) = false := by simp; omega
              go_wp2_with fail
              go_quiet ((go_at_call 80; exact Calls.quiet_of (RR.out _ (hbx.out _ _))))
              go_wp2
              go_roundw
              case rel => exact ⟨k + 1, by omega, by go_num, fun j h hj => (Nat.lt_succ_iff_lt_or_eq.1 hj).elim (HQ.out j h) fun e => by subst e; exact ⟨HO.out, fun _ => HL.out⟩, (HK.out.alloc _).drewN _⟩
              case measure => simp [intOf]; omega
            · have HF1 := Lib.hid (chk_chain (tops := tops) hlt h0 hlt2)
              have hlt3 : subs[k].member ≤ subs[k - 1].member := by omega
              clear hlt2
              generalize subs[k - 1].member = pm at d0 hlt3
              generalize subs[k].member = m at c0 o1 o2 hlt3
              generalize subs[k].topics.length = n at c1 o3 RR
              have t1 : decide (m < 0) = false := by simp; omega
              have t2 : decide (1073741824 < m) = false := by simp; omega
              have t3 : decide (20 < (n : Int)) = false := by simp; omega
              have t4 : decide ((0 : Int) < k) = true := by simp; omega
              have t5 : decide (m ≤ pm) = true := by simp; omega
              go_wp2_with fail
              go_quiet ((go_at_call 80; exact Calls.quiet_of (RR.out _ (hbx.out _ _))))
              go_wp2
              go_ret
              rw [HF1.out]
              exact ⟨rfl, (HK.out.alloc _).drewN _⟩
          · have t4 : decide ((0 : Int) < k) = false := by simp; omega
            clear hr' hbr hsl
            generalize subs[k].member = m at c0 o1 o2
            generalize subs[k].topics.length = n at c1 o3 RR
            have t1 : decide (m < 0) = false := by simp; omega
            have t2 : decide (1073741824 < m) = false := by simp; omega
            have t3 : decide (20 < (n : Int)) = false := by simp; omega
            go_wp2_with fail
            go_quiet ((go_at_call 80; exact Calls.quiet_of (RR.out _ (hbx.out _ _))))
            go_wp2
            go_roundw
            case rel => exact ⟨k + 1, by omega, by go_num, fun j h hj => (Nat.lt_succ_iff_lt_or_eq.1 hj).elim (HQ.out j h) fun e => by subst e; exact ⟨HO.out, fun h => absurd h h0⟩, (HK.out.alloc _).drewN _⟩
            case measure => simp [intOf]; omega
        · have HF1 := Lib.hid (chk_sub (tops := tops) hlt hok)
          clear hr' hbr hsl
          rcases subOk_cases _ hok with h | ⟨h, h'⟩ | ⟨h, h', h''⟩ | ⟨h, h', h'', h3⟩
          rotate_right
          · rw [h3] at RR
            clear hok h3
            generalize subs[k].member = m at c0 h h'
            generalize subs[k].topics.length = n at c1 h'' RR
            have t1 : decide (m < 0) = false := by simp; omega
            have t2 : decide (1073741824 < m) = false := by simp; omega
            have t3 : decide (20 < (n : Int)) = false := by simp; omega
            go_wp2_with fail
            go_quiet ((go_at_call 80; exact Calls.quiet_of (RR.out _ (hbx.out _ _))))
            go_wp2
            go_ret
            rw [HF1.out]
            exact ⟨rfl, (HK.out.alloc _).drewN _⟩
          all_goals
            clear hok RR hbx
            generalize subs[k].member = m at *
            generalize subs[k].topics.length = n at *
            try have t1 : decide (m < 0) = false := by simp; omega
            try have t1 : decide (m < 0) = true := by simp; omega
            try have t2 : decide (1073741824 < m) = false := by simp; omega
            try have t2 : decide (1073741824 < m) = true := by simp; omega
            try have t3 : decide (20 < (n : Int)) = true := by simp; omega
            go_wp2_with fail
            go_quiet (fail)
            go_wp2
            go_ret
            rw [HF1.out]
            exact ⟨rfl, (HK.out.alloc _).drewN _⟩
      · have HA : Hid (∀ j (h : j < subs.length), subOk subs[j] = true ∧ (0 < j → (subs[j - 1]'(by omega)).member < subs[j].member)) := fun j h => HQ.out j h (by omega)
        obtain ⟨wo, rfl⟩ : ∃ wo : World, wo = wr := ⟨_, rfl⟩
        have hbr2 := hbr
        clear hbr
        go_wp2_with fail
        go_loopw [7] (fun i wq => ∃ k : Nat, k ≤ tops.length ∧ i = .int .i64 k ∧ (∀ j (h : j < tops.length), j < k → topOk tops[j] = true ∧ (0 < j → sltB (tops[j - 1]'(by omega)).name tops[j].name = true)) ∧ K0 wo wq) (fun i _ => tops.length - (intOf i).toNat)
        case atStart => exact ⟨0, by omega, rfl, fun j _ h => by omega, Keeps.refl _ _⟩
        case round =>
          obtain ⟨k, hk, rfl, hq, hkw⟩ := hrel
          have HQ2 := Lib.hid hq
          have hbr := hkw.after hbr2
          have HK2 := Lib.hid (K0.tr HK.out hkw)
          have HKo := Lib.hid hkw
          clear hq hkw hbr2
          by_cases hlt2 : k < tops.length
          · obtain ⟨b, off, rfl, hr'⟩ := HT.out.row hlt2
            obtain ⟨c0, c1, hbl⟩ := top_cells hr' hbr k hlt2
            have j0 : (0 : Int) ≤ k := by omega
            have j1 : (k : Int) < tops.length := by omega
            by_cases hok : topOk tops[k] = true
            · have HO := Lib.hid hok
              obtain ⟨o1, o2⟩ := topOk_parts _ hok
              clear hok
              by_cases h0 : 0 < k
              · obtain ⟨d0, d1, _⟩ := top_cells hr' hbr (k - 1) (by omega)
                clear hr' hbr
                have i0 : (0 : Int) < k := by omega
                have i1 : (0 : Int) ≤ (k : Int) - 1 := by omega
                have i2 : (k : Int) - 1 < tops.length := by omega
                have i3 : ((k : Int) - 1).toNat = k - 1 := by omega
                have i4 : IntKind.i64.wrap ((k : Int) - 1) = (k : Int) - 1 := IntWalk.i64_in _ (by omega)
                by_cases hd : sltB tops[k - 1].name tops[k].name = true
                · have HD := Lib.hid hd
                  have hd' : Op.bytesLess tops[k - 1].name.toList tops[k].name.toList = true := hd
                  generalize tops[k - 1].name = ps at d0 hd'
                  generalize tops[k].name = s at c0 hd'
                  generalize tops[k].parts = p at c1 o1 o2
                  clear hd
                  have t1 : decide (p < 1) = false := by simp; omega
                  have t2 : decide (16 < p) = false := by simp; omega
                  have t4 : decide ((0 : Int) < k) = true := by simp; omega
                  go_wp2_with fail
                  go_quiet (fail)
                  go_wp2
                  go_roundw
                  case rel => exact ⟨k + 1, by omega, by go_num, fun j h hj => (Nat.lt_succ_iff_lt_or_eq.1 hj).elim (HQ2.out j h) fun e => by subst e; exact ⟨HO.out, fun _ => HD.out⟩, HKo.out.drewN _⟩
                  case measure => simp [intOf]; omega
                · have HF1 := Lib.hid (chk_chain2 (subs := subs) hlt2 h0 hd)
                  have hd' : Op.bytesLess tops[k - 1].name.toList tops[k].name.toList = false := by simpa [sltB] using hd
                  generalize tops[k - 1].name = ps at d0 hd'
                  generalize tops[k].name = s at c0 hd'
                  generalize tops[k].parts = p at c1 o1 o2
                  clear hd
                  have t1 : decide (p < 1) = false := by simp; omega
                  have t2 : decide (16 < p) = false := by simp; omega
                  have t4 : decide ((0 : Int) < k) = true := by simp; omega
                  go_wp2_with fail
                  go_quiet (fail)
                  go_wp2
                  go_ret
                  rw [HF1.out]
                  exact ⟨rfl, HK2.out.drewN _⟩
              · clear hr' hbr
                generalize tops[k].name = s at c0
                generalize tops[k].parts = p at c1 o1 o2
                have t1 : decide (p < 1) = false := by simp; omega
                have t2 : decide (16 < p) = false := by simp; omega
                have t4 : decide ((0 : Int) < k) = false := by simp; omega
                go_wp2_with fail
                go_quiet (fail)
                go_wp2
                go_roundw
                case rel => exact ⟨k + 1, by omega, by go_num, fun j h hj => (Nat.lt_succ_iff_lt_or_eq.1 hj).elim (HQ2.out j h) fun e => by subst e; exact ⟨HO.out, fun h => absurd h h0⟩, HKo.out.drewN _⟩
                case measure => simp [intOf]; omega
            · have HF1 := Lib.hid (chk_top (subs := subs) hlt2 hok)
              clear hr' hbr
              rcases topOk_cases _ hok with h | ⟨h, h'⟩
              all_goals
                clear hok
                generalize tops[k].name = s at *
                generalize tops[k].parts = p at *
                try have t1 : decide (p < 1) = false := by simp; omega
                try have t1 : decide (p < 1) = true := by simp; omega
                try have t2 : decide (16 < p) = true := by simp; omega
                go_wp2_with fail
                go_quiet (fail)
                go_wp2
                go_ret
                rw [HF1.out]
                exact ⟨rfl, HK2.out.drewN _⟩
          · have HA2 : Hid (chk subs tops = 0) := by
              show chk subs tops = 0
              have e1 : subs.all subOk = true := all_of (fun j h => (HA.out j h).1)
              have e2 : tops.all topOk = true := all_of (fun j h => (HQ2.out j h (by omega)).1)
              have e3 : chain (fun a b : Int => decide (a < b)) (subs.map SubC.member) = true := (chain_iff _ _).2 (fun j h => by
                simp only [List.getElem_map]
                have := (HA.out (j + 1) (by simpa using h)).2 (by omega)
                simpa using this)
              have e4 : chain sltB (tops.map TopC.name) = true := (chain_iff _ _).2 (fun j h => by
                simp only [List.getElem_map]
                have h9 : j + 1 < tops.length := by simpa using h
                have := (HQ2.out (j + 1) h9 (by omega)).2 (by omega)
                simpa using this)
              simp [chk, checkB, l1, l2, e1, e2, e3, e4]
            clear hbr
            go_wp2
            go_ret
            rw [HA2.out]
            exact ⟨rfl, HK2.out⟩
  · have hf : Hid (chk subs tops = 1) := by
      simp only [chk, checkB, Hid]
      by_cases h : subs.length ≤ 20
      · have : ¬ tops.length ≤ 20 := fun h' => hlen ⟨h, h'⟩
        simp [this]
      · simp [h]
    clear hs ht
    by_cases h2 : subs.length ≤ 20
    · have h3 : 20 < tops.length := by omega
      clear hlen
      go_enter Try.func73, Try.ntmps73
      go_wp2
      go_ret
      rw [hf.out]
      exact ⟨rfl, Keeps.refl _ _⟩
    · clear hlen
      go_enter Try.func73, Try.ntmps73
      go_wp2
      go_ret
      rw [hf.out]
      exact ⟨rfl, Keeps.refl _ _⟩
end Go.Proofs.Ytlmajhkhlmkeiaa
