/-
  MemberSettles: the walk itself.
-/
import Derived.Test.YtlmajhkhlmkeiaaLe
namespace Go.Proofs.Ytlmajhkhlmkeiaa
open Go.RowKit Go.Shelf Fx

theorem between_end {tp : List ByteArray} {N : Nat} (h : 1 ≤ N) : between tp N (N - 1) = settled tp N := by
  unfold between settled
  by_cases e : N = 1
  · subst e; rfl
  · rw [if_neg (by omega), if_neg e]
set_option maxRecDepth 100000 in
set_option maxHeartbeats 4000000 in
theorem settles_any (w : World) (n : Int) (ta : Option Addr) (tc : Nat) (tp : List ByteArray) (pa : Option Addr) (pc : Nat) (tops : List TopC) (rd : Bool) (ht : Out 1 rStr w (fun _ => True) (.slice ta tp.length tc) tp) (hp : Out 2 rTop w (fun _ => True) (.slice pa tops.length pc) tops) :
    Calls Try.prog 3 #[.agg #[.int .i64 n, .slice ta tp.length tc, .slice pa tops.length pc, .bool rd]] w fun e w' => Same w e (.bool true) w' := by
  have HT := Lib.hid ht
  have HP := Lib.hid hp
  have HB : Hid ((w.alloc (.cells #[.int .i64 n, .slice ta tp.length tc, .slice pa tops.length pc, .bool rd] 25)).heap[w.heap.size]? = some (.cells #[.int .i64 n, .slice ta tp.length tc, .slice pa tops.length pc, .bool rd] 25)) := heap_new _ _ _ rfl
  have vf0 := view_field0
  clear ht hp
  go_enter Try.func3, Try.ntmps3
  go_upto_region 1 with fail
  go_cut [3, 4, 5, 6] (fun a b c d wq => a = .int .i64 n ∧ b = .slice ta tp.length tc ∧ c = .slice pa tops.length pc ∧ d = .bool rd ∧ K0 w wq)
  case first =>
    go_quiet (fail)
    go_wp2
    go_meet
    case rel => exact ⟨rfl, rfl, rfl, rfl, ((Keeps.refl _ _).alloc _).drewN _⟩
  case rest =>
    obtain ⟨w0, rfl⟩ : ∃ w0 : World, w0 = wc := ⟨_, rfl⟩
    obtain ⟨rfl, rfl, rfl, rfl, hk0⟩ := hcut
    have HK0 := Lib.hid hk0
    have HT0 := Lib.hid (HT.out.keep still_str hk0 (G' := fun _ => True) (fun _ _ _ e => e) (fun _ _ _ => trivial))
    have HP0 := Lib.hid (HP.out.keep still_top hk0 (G' := fun _ => True) (fun _ _ _ e => e) (fun _ _ _ => trivial))
    clear hk0 HT HP HB
    by_cases h1 : n < 1
    · go_wp2_with fail
      refine (live_any _).mono ?_
      rintro e w2 ⟨rfl, k2⟩
      have HK2 := Lib.hid (K0.tr HK0.out k2)
      clear k2
      go_wp2
      go_ret
      exact ⟨rfl, HK2.out⟩
    · by_cases h2 : 10 < n
      · go_wp2_with fail
        refine (live_any _).mono ?_
        rintro e w2 ⟨rfl, k2⟩
        have HK2 := Lib.hid (K0.tr HK0.out k2)
        clear k2
        go_wp2
        go_ret
        exact ⟨rfl, HK2.out⟩
      · obtain ⟨N, rfl⟩ : ∃ N : Nat, n = N := ⟨n.toNat, by omega⟩
        have HN : Hid (1 ≤ N ∧ N ≤ 10) := ⟨by omega, by omega⟩
        have H0 := Lib.hid (st_new (w := w0) 100 100 (by omega) (by omega))
        go_wp2_with fail
        refine H0.out.mono ?_
        rintro e w1 ⟨rfl, s1⟩
        have HS1 := Lib.hid s1
        clear s1 H0
        rcases chk_cases [⟨0, tp⟩] [] with hc | hc
        · have HC := Lib.hid hc
          clear hc
          go_wp2
          go_loopw [9] (fun i wr => ∃ k : Nat, i = .int .i64 k ∧ k ≤ N ∧ St w0 wr w0.heap.size (jn tp k)) (fun i _ => N - (intOf i).toNat)
          case atStart => exact ⟨0, rfl, by omega, HS1.out⟩
          case round =>
            obtain ⟨k, rfl, hk, hs⟩ := hrel
            by_cases hlt : k < N
            · have J := st_join (n := 1000 - (k + 1)) (-1) 1 _ tp hs ((jn_ok HC.out k (by have := HN.out; omega)).le (by have := HN.out; omega)) (rng _ (.inl rfl)) HT0.out
              have hnx := jn_next tp k (by have := HN.out; omega)
              rw [jn_join HC.out (by have := HN.out; omega), if_pos rfl, if_pos rfl, show nextM (jn tp k) (-1) = k from hnx] at J
              have J := Lib.hid J
              clear hs hnx
              go_wp2_with fail
              refine J.out.mono ?_
              rintro e w2 ⟨rfl, s2⟩
              have HS2 := Lib.hid s2
              have hne : ((k : Int) != (k : Int)) = false := by simp
              clear s2
              go_wp2
              go_roundw
              case rel => exact ⟨k + 1, by go_num, by omega, HS2.out⟩
              case measure => simp [intOf]; omega
            · obtain rfl : k = N := by omega
              have HSN : Hid (St w0 wr w0.heap.size (between tp k 0)) := hs
              have hn1 : ((k : Int) - 1) = ((k - 1 : Nat) : Int) := by have := HN.out; omega
              have hn2 : k - 1 ≤ 9 := by have := HN.out; omega
              clear hs
              go_wp2
              go_loopw [12] (fun i wq => ∃ j : Nat, i = .int .i64 j ∧ j ≤ k - 1 ∧ St w0 wq w0.heap.size (between tp k j)) (fun i _ => k - 1 - (intOf i).toNat)
              case atStart => exact ⟨0, rfl, by omega, HSN.out⟩
              case round =>
                obtain ⟨wo, rfl⟩ : ∃ wo : World, wo = wr := ⟨_, rfl⟩
                obtain ⟨j, rfl, hj, hs⟩ := hrel
                by_cases hlt2 : j < k - 1
                · have hlt3 : (j : Int) < (k : Int) - 1 := by omega
                  by_cases hj0 : j = 0
                  · subst hj0
                    have hs : St w0 wo w0.heap.size (jn tp k) := hs
                    have V := Lib.hid (st_view hs (jn_ok HC.out k HN.out.2))
                    have hph := (jn_phase tp k (by omega) HN.out.2).1
                    clear hs
                    go_wp2_with fail
                    refine V.out.mono ?_
                    rintro e w2 ⟨⟨va, vc, rfl, _, _⟩, s2⟩
                    rw [hph]
                    have J := st_join (n := 900) 0 2 _ tp s2 ((jn_ok HC.out k HN.out.2).le (by have := HN.out; omega)) (rng _ (.inr (.inl rfl))) HT0.out
                    rw [fn_join HC.out (by omega) HN.out.2, if_pos rfl, if_pos rfl] at J
                    have J := Lib.hid J
                    clear s2 hph
                    generalize (jn tp k).gen = x1
                    generalize (jn tp k).next = x2
                    generalize (jn tp k).til = x3
                    generalize (jn tp k).ones.length = x4
                    go_wp2_with fail
                    refine J.out.mono ?_
                    rintro e w3 ⟨rfl, s3⟩
                    have HS3 : Hid (St w0 w3 w0.heap.size (between tp k 1)) := s3
                    clear s3
                    go_wp2
                    go_roundw
                    case rel => exact ⟨1, by go_num, by omega, HS3.out⟩
                    case measure => simp [intOf]; omega
                  · have hb : between tp k j = fn tp k := if_neg hj0
                    have hb2 : between tp k (j + 1) = fn tp k := if_neg (by omega)
                    rw [hb] at hs
                    have V := Lib.hid (st_view hs (fn_okk HC.out (by omega) HN.out.2))
                    have hph := (fn_ok tp k (by omega) HN.out.2).phase
                    have HB2 := Lib.hid hb2
                    clear hs hb hb2 hj0
                    go_wp2_with fail
                    refine V.out.mono ?_
                    rintro e w2 ⟨⟨va, vc, rfl, _, _⟩, s2⟩
                    rw [hph]
                    have HS3 : Hid (St w0 w2 w0.heap.size (between tp k (j + 1))) := by rw [HB2.out]; exact s2
                    clear s2 hph
                    generalize (fn tp k).gen = x1
                    generalize (fn tp k).next = x2
                    generalize (fn tp k).til = x3
                    generalize (fn tp k).ones.length = x4
                    go_wp2
                    go_roundw
                    case rel => exact ⟨j + 1, by go_num, by omega, HS3.out⟩
                    case measure => simp [intOf]; omega
                · obtain rfl : j = k - 1 := by omega
                  rw [between_end HN.out.1] at hs
                  have hlt3 : ¬ ((k - 1 : Nat) : Int) < (k : Int) - 1 := by omega
                  have OK := Lib.hid (settled_okk HC.out HN.out.1 HN.out.2)
                  have SO := Lib.hid (settled_ok tp HN.out.1 HN.out.2)
                  have V := Lib.hid (st_view hs OK.out)
                  have hph := SO.out.phase
                  have hln := SO.out.len
                  have SS := Lib.hid (set_sync SO.out tops rd)
                  clear hs hlt2
                  generalize settled tp k = g at *
                  go_wp2_with fail
                  refine V.out.mono ?_
                  rintro e w2 ⟨⟨va, vc, rfl, _, _⟩, s2⟩
                  rw [hph, hln]
                  have s3 := s2.keep ((Keeps.refl (fun _ => False) w2).alloc (.cells #[.int .i64 2, .int .i64 g.gen, .int .i64 g.next, .int .i64 g.til, .slice va k vc] 35))
                  have Y := st_sync (n := 900) 0 g.gen 3 _ tops rd s3 OK.out (rng _ (.inr (.inl rfl))) HP0.out
                  rw [SS.out.1] at Y
                  have Y := Lib.hid Y
                  have OK2 := Lib.hid (OK.out.sync 0 g.gen tops rd 3)
                  have hkk : ((k : Int) != (k : Int)) = false := by simp
                  clear s2 s3 hph hln
                  have HPH := Lib.hid SS.out.2
                  rcases chk_cases (subsOf (syncTouch g 0 3)) tops with hcc | hcc
                  · have HPH := Lib.hid (HPH.out hcc)
                    rw [hcc] at Y
                    clear hcc SS
                    generalize syncG g 0 g.gen tops rd 3 = g2 at *
                    generalize g.gen = gg at *
                    go_wp2_with fail
                    refine Y.out.mono ?_
                    rintro e w4 ⟨pv, rfl, s4, _, _⟩
                    have V2 := Lib.hid (st_view s4 OK2.out)
                    have hph2 := HPH.out
                    clear s4
                    go_wp2_with fail
                    refine V2.out.mono ?_
                    rintro e w5 ⟨⟨vb, vd, rfl, _, _⟩, s5⟩
                    rw [hph2]
                    have HF := Lib.hid s5.k0
                    clear s5 hph2
                    generalize g2.gen = y1
                    generalize g2.next = y2
                    generalize g2.til = y3
                    generalize g2.ones.length = y4
                    go_wp2_with fail
                    refine (live_any _).mono ?_
                    rintro e w6 ⟨rfl, k6⟩
                    have HK9 := Lib.hid (K0.tr HK0.out (K0.tr HF.out k6))
                    clear k6
                    go_wp2
                    go_ret
                    exact ⟨rfl, HK9.out⟩
                  · rw [hcc] at Y
                    clear hcc SS HPH
                    generalize syncG g 0 g.gen tops rd 3 = g2 at *
                    generalize g.gen = gg at *
                    go_wp2_with fail
                    refine Y.out.mono ?_
                    rintro e w4 ⟨pv, rfl, s4, _, hpv⟩
                    obtain rfl := hpv (by decide)
                    have HF := Lib.hid s4.k0
                    clear s4 hpv
                    go_wp2_with fail
                    refine (live_any _).mono ?_
                    rintro e w6 ⟨rfl, k6⟩
                    have HK9 := Lib.hid (K0.tr HK0.out (K0.tr HF.out k6))
                    clear k6
                    go_wp2
                    go_ret
                    exact ⟨rfl, HK9.out⟩
        · have hj : joinE (newG 100 100) (-1) tp 1 = 1 := joinE_bad (bad_check hc)
          have J := fun (wx : World) (s : St w0 wx w0.heap.size (newG 100 100)) => st_join (n := 900) (-1) 1 _ tp s ((Ok.new (s := 100) (r := 100) (by omega) (by omega)).le (by omega)) (rng _ (.inl rfl)) HT0.out
          rw [hj] at J
          have J := Lib.hid J
          clear hj hc
          go_wp2
          go_loopw [9] (fun i wr => i = .int .i64 0 ∧ St w0 wr w0.heap.size (newG 100 100)) (fun i _ => 0)
          case atStart => exact ⟨rfl, HS1.out⟩
          case round =>
            obtain ⟨rfl, hs⟩ := hrel
            have hlt : (0 : Int) < N := by have := HN.out; omega
            have J2 := Lib.hid (J.out _ hs)
            clear hs
            go_wp2_with fail
            refine J2.out.mono ?_
            rintro e w2 ⟨rfl, s2⟩
            have HF := Lib.hid s2.k0
            clear s2
            go_wp2_with fail
            refine (live_any _).mono ?_
            rintro e w6 ⟨rfl, k6⟩
            have HK9 := Lib.hid (K0.tr HK0.out (K0.tr HF.out k6))
            clear k6
            go_wp2
            go_ret
            exact ⟨rfl, HK9.out⟩
end Go.Proofs.Ytlmajhkhlmkeiaa
