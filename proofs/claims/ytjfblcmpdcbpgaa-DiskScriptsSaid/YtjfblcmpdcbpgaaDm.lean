/-
  DiskApart, walked.
-/
import Derived.Test.YtjfblcmpdcbpgaaDj
import Derived.Deep.DeepCutAuto
namespace Go.Proofs.Ytjfblcmpdcbpgaa
open Go.RowKit Fx

def tC : ByteArray := ⟨#[99]⟩
theorem tA_named' : namedB tA = true := by kernel_rfl
theorem tB_named : namedB tB = true := by kernel_rfl
theorem tC_named : namedB tC = true := by kernel_rfl
theorem ab : (tA = tB) = False := by simp [tA, tB]
theorem ba : (tB = tA) = False := by simp [tA, tB]
theorem ac : (tA = tC) = False := by simp [tA, tC]
theorem ca : (tC = tA) = False := by simp [tA, tC]
theorem bc : (tB = tC) = False := by simp [tB, tC]
theorem cb : (tC = tB) = False := by simp [tB, tC]
/-- Two files. -/
def two (u : Int) (a : ByteArray) (sa : Int) (n : ByteArray) (b : ByteArray) (sb : Int) : DiskC := ⟨2000, u, -1, [(tA, ⟨a, sa⟩), (n, ⟨b, sb⟩)]⟩
theorem apart1 {one : ByteArray} (h : one.size ≤ 300) : dappC (newD 2000) tA one = ⟨2000, one.size, -1, [(tA, ⟨one, 0⟩)]⟩ := by
  rw [dapp_eq rfl tA_named' (by show (0 : Int) + _ ≤ 2000; omega)]
  simp [newD, oldF, aget, aput, noFile, empty_app]
theorem apart2 {one t : ByteArray} (h : one.size ≤ 300) (h2 : t.size ≤ 300) : dappC ⟨2000, one.size, -1, [(tA, ⟨one, 0⟩)]⟩ tB t = two (one.size + t.size) one 0 tB t 0 := by
  rw [dapp_eq rfl tB_named (by show ((one.size : Int)) + _ ≤ 2000; omega)]
  simp [two, oldF, aget, aput, noFile, empty_app, ab]
theorem apart3 (u : Int) (one t : ByteArray) : dsyncC (two u one 0 tB t 0) tA = two u one one.size tB t 0 := by
  rw [dsync_eq rfl (x := ⟨one, 0⟩) (by simp [two, aget])]
  simp [two, aput]
theorem apart4 {one t : ByteArray} (h : one.size ≤ 300) (h2 : t.size ≤ 300) : dappC (two (one.size + t.size) one one.size tB t 0) tB one = two (one.size + t.size + one.size) one one.size tB (t ++ one) 0 := by
  rw [dapp_eq rfl tB_named (by show ((one.size : Int)) + t.size + _ ≤ 2000; omega)]
  simp [two, oldF, aget, aput, ab]
/-- What the cut leaves. -/
def cutB (b : ByteArray) (n : Int) : ByteArray := if 0 ≤ n ∧ n ≤ b.size then b.extract 0 n.toNat else b
theorem apart5 (u : Int) (one b : ByteArray) (n : Int) : ∃ u', dcutC (two u one one.size tB b 0) tB n = two u' one one.size tB (cutB b n) 0 := by
  have hg : aget (two u one one.size tB b 0).files tB = some ⟨b, 0⟩ := by simp [two, aget, ab]
  have ho : oldF (two u one one.size tB b 0) tB = ⟨b, 0⟩ := by unfold oldF; rw [hg]; rfl
  have hf : fileE (two u one one.size tB b 0) tB = 0 := fileE_one rfl hg
  unfold dcutC dcutE
  rw [if_pos hf, ho]
  dsimp only
  by_cases h : 0 ≤ n ∧ n ≤ b.size
  · rw [if_pos h, if_pos rfl]
    refine ⟨u - (b.size - n.toNat), ?_⟩
    unfold keepD
    rw [ho]
    have hk : keepF ⟨b, 0⟩ n.toNat = ⟨b.extract 0 n.toNat, 0⟩ := by unfold keepF; simp; omega
    rw [hk]
    have hc : cutB b n = b.extract 0 n.toNat := by unfold cutB; rw [if_pos h]
    rw [hc]
    simp [two, burn, aput, ab]
  · rw [if_neg h, if_neg (by decide)]
    refine ⟨u, ?_⟩
    have hc : cutB b n = b := by unfold cutB; rw [if_neg h]
    rw [hc]
theorem apart6 (u : Int) (one b : ByteArray) : drenC (two u one one.size tB b 0) tB tC = two u one one.size tC b 0 ∧ drenE (two u one one.size tB b 0) tB tC = 0 := by
  have hg : aget (two u one one.size tB b 0).files tB = some ⟨b, 0⟩ := by simp [two, aget, ab]
  have ho : oldF (two u one one.size tB b 0) tB = ⟨b, 0⟩ := by unfold oldF; rw [hg]; rfl
  have hf : fileE (two u one one.size tB b 0) tB = 0 := fileE_one rfl hg
  have he : drenE (two u one one.size tB b 0) tB tC = 0 := by unfold drenE; rw [if_pos hf, if_pos tC_named]
  refine ⟨?_, he⟩
  unfold drenC
  rw [if_pos he, clearD_none (.inr (by simp [two, aget, ac, bc])), ho]
  simp [two, burn, adel, aput, ab, ac]
/-- Behind the crash. -/
theorem apart7 {u : Int} {one b : ByteArray} {keep : List Int} {names : List ByteArray} (hp : names.Perm ((two u one one.size tC b 0).files.map (·.1))) :
    ∃ x : ByteArray, x.size ≤ b.size ∧ b.extract 0 x.size = x ∧ dreadV (upD (crashL keep (two u one one.size tC b 0) names).1) tA = one ∧ fileE (upD (crashL keep (two u one one.size tC b 0) names).1) tA = 0 ∧
      dreadV (upD (crashL keep (two u one one.size tC b 0) names).1) tC = x ∧ fileE (upD (crashL keep (two u one one.size tC b 0) names).1) tC = 0 ∧ fileE (upD (crashL keep (two u one one.size tC b 0) names).1) tB = 6 := by
  have hp' : names.Perm [tA, tC] := hp
  have hnd : names.Nodup := hp'.nodup_iff.2 (by simp [ac])
  have hA : tA ∈ names := hp'.mem_iff.2 (by simp)
  have hC : tC ∈ names := hp'.mem_iff.2 (by simp)
  have hB : tB ∉ names := fun e => by have := hp'.mem_iff.1 e; simp [ba, bc] at this
  obtain ⟨N, _, h2, h3, h4⟩ := crashL_get (keep := keep) (s := tA) (x := ⟨one, one.size⟩) ⟨by simp, by simp⟩ (two u one one.size tC b 0, 0) hnd hA (by simp [two, aget])
  obtain ⟨M, _, g2, _, g4⟩ := crashL_get (keep := keep) (s := tC) (x := ⟨b, 0⟩) ⟨by simp, by simp⟩ (two u one one.size tC b 0, 0) hnd hC (by simp [two, aget, ac])
  have k5 := crashL_out (keep := keep) (two u one one.size tC b 0, 0) hB
  have hN := h3 rfl
  simp only at hN
  subst hN
  have hbx : (b.extract 0 M).size = M := by
    simp only at g2
    simp
    omega
  have a1 : aget (upD (crashL keep (two u one one.size tC b 0) names).1).files tA = some ⟨one.extract 0 one.size, one.size⟩ := h4
  have a2 : aget (upD (crashL keep (two u one one.size tC b 0) names).1).files tC = some ⟨b.extract 0 M, M⟩ := g4
  have a3 : aget (upD (crashL keep (two u one one.size tC b 0) names).1).files tB = none := by
    refine Eq.trans k5 ?_
    simp [two, aget, ab, cb]
  refine ⟨b.extract 0 M, by rw [hbx]; exact g2, by rw [hbx], ?_, fileE_one rfl a1, dread_eq rfl a2, fileE_one rfl a2, fileE_out rfl a3⟩
  rw [dread_eq rfl a1]
  simp
set_option maxRecDepth 100000 in
set_option maxHeartbeats 4000000 in
theorem apart_any (one t : ByteArray) (cut : Int) (keep : List Int) (a : Option Addr) (cap : Nat) (w : World) (hI : Ints w (fun _ => True) a keep) (hs1 : one.size ≤ maxLen) (hs2 : t.size ≤ maxLen) :
    Calls Try.prog 6 #[.agg #[.string one, .string t, .int .i64 cut, .slice a keep.length cap]] w fun e w' => Same w e (.bool true) w' := by
  have HI := Lib.hid hI
  have HB : Hid ((w.alloc (.cells #[.string one, .string t, .int .i64 cut, .slice a keep.length cap] 41)).heap[w.heap.size]? = some (.cells #[.string one, .string t, .int .i64 cut, .slice a keep.length cap] 41)) := heap_new _ _ _ rfl
  have b1 : (one.size : Int) ≤ 9223372036854775807 := by unfold maxLen at hs1; omega
  have b2 : (t.size : Int) ≤ 9223372036854775807 := by unfold maxLen at hs2; omega
  clear hI hs1 hs2
  go_enter Try.func6, Try.ntmps6
  go_upto_region 1 with fail
  go_cut [3, 4, 5, 6] (fun c1 c2 c3 c4 wq => c1 = .string one ∧ c2 = .string t ∧ c3 = .int .i64 cut ∧ c4 = .slice a keep.length cap ∧ K0 w wq)
  case first =>
    go_quiet (fail)
    go_wp2
    go_meet
    case rel => exact ⟨rfl, rfl, rfl, rfl, ((Keeps.refl _ _).alloc _).drewN _⟩
  case rest =>
    obtain ⟨w0, rfl⟩ : ∃ w0 : World, w0 = wc := ⟨_, rfl⟩
    obtain ⟨rfl, rfl, rfl, rfl, hk0⟩ := hcut
    have HK0 := Lib.hid hk0
    have HI0 := Lib.hid (HI.out.keep hk0 (G' := fun _ => True) (fun _ _ _ e => e) (fun _ _ _ => trivial))
    clear hk0 HI HB
    by_cases q1 : 300 < (one.size : Int)
    · go_wp2_with fail
      refine (live_any _).mono ?_
      rintro e w2 ⟨rfl, k2⟩
      have HF := Lib.hid (K0.tr HK0.out k2)
      clear k2
      go_wp2
      go_ret
      exact ⟨rfl, HF.out⟩
    · by_cases q2 : 300 < (t.size : Int)
      · go_wp2_with fail
        refine (live_any _).mono ?_
        rintro e w2 ⟨rfl, k2⟩
        have HF := Lib.hid (K0.tr HK0.out k2)
        clear k2
        go_wp2
        go_ret
        exact ⟨rfl, HF.out⟩
      · have z1 : one.size ≤ 300 := by omega
        have z2 : t.size ≤ 300 := by omega
        have Z1 := Lib.hid z1
        have Z2 := Lib.hid z2
        have H0 := Lib.hid (st_new 2000 w0 (by omega))
        obtain ⟨u5, h5c⟩ := apart5 (one.size + t.size + one.size) one (t ++ one) cut
        have H5C := Lib.hid h5c
        clear h5c
        have HCUT := Lib.hid (rfl : cutB (t ++ one) cut = cutB (t ++ one) cut)
        go_wp2_with fail
        refine H0.out.mono ?_
        rintro e w1 ⟨db, rfl, h1⟩
        have A1 := st_app h1 tA one (by omega)
        rw [apart1 z1] at A1
        have A1 := Lib.hid A1
        clear h1
        go_wp2_with fail
        refine A1.out.mono ?_
        rintro e w2 ⟨rfl, h2⟩
        have A2 := st_app h2 tB t (by omega)
        rw [apart2 z1 z2] at A2
        have A2 := Lib.hid A2
        clear h2
        go_wp2_with fail
        refine A2.out.mono ?_
        rintro e w3 ⟨rfl, h3⟩
        have S1 := st_sync h3 tA
        rw [apart3] at S1
        have S1 := Lib.hid S1
        clear h3
        go_wp2_with fail
        refine S1.out.mono ?_
        rintro e w4 ⟨rfl, h4⟩
        have A3 := st_app h4 tB one (by omega)
        rw [apart4 z1 z2] at A3
        have A3 := Lib.hid A3
        clear h4
        go_wp2_with fail
        refine A3.out.mono ?_
        rintro e w5 ⟨rfl, h5⟩
        have C1 := st_cut h5 tB cut
        rw [H5C.out] at C1
        have C1 := Lib.hid C1
        clear h5
        go_wp2_with fail
        refine C1.out.mono ?_
        rintro e w6 ⟨rfl, h6⟩
        have N1 := st_ren h6 tB tC
        rw [(apart6 _ _ _).1, (apart6 _ _ _).2] at N1
        have N1 := Lib.hid N1
        clear h6
        go_wp2_with fail
        refine N1.out.mono ?_
        rintro e w7 ⟨rfl, h7⟩
        have R1 := st_read h7 tA
        rw [dread_eq (x := ⟨one, one.size⟩) rfl (by simp [two, aget]), fileE_one (x := ⟨one, one.size⟩) rfl (by simp [two, aget])] at R1
        have R1 := Lib.hid R1
        clear h7
        go_wp2_with fail
        refine R1.out.mono ?_
        rintro e w8 ⟨rfl, h8⟩
        have C2 := Lib.hid (st_crash h8 keep a cap HI0.out (by simp [two]))
        clear h8
        go_wp2_with fail
        refine C2.out.mono ?_
        rintro e w9 ⟨names, hp, rfl, h9⟩
        obtain ⟨x, e1, e2, e3, e4, e5, e6, e7⟩ := apart7 (keep := keep) hp
        have R2 := st_read h9 tA
        rw [e3, e4] at R2
        have R2 := Lib.hid R2
        have E5 := Lib.hid e5
        have E6 := Lib.hid e6
        have E7 := Lib.hid e7
        have E1 := Lib.hid e1
        have E2 := Lib.hid e2
        generalize (crashL keep (two u5 one one.size tC (cutB (t ++ one) cut) 0) names).2 = cn
        clear h9 hp e1 e2 e3 e4 e5 e6 e7
        go_wp2_with fail
        refine R2.out.mono ?_
        rintro e w10 ⟨rfl, h10⟩
        have R3 := st_read h10 tC
        rw [E5.out, E6.out] at R3
        have R3 := Lib.hid R3
        clear h10
        go_wp2_with fail
        refine R3.out.mono ?_
        rintro e w11 ⟨rfl, h11⟩
        have R4 := st_read h11 tB
        rw [E7.out] at R4
        have R4 := Lib.hid R4
        generalize dreadV (upD (crashL keep (two u5 one one.size tC (cutB (t ++ one) cut) 0) names).1) tB = xx at R4
        clear h11
        go_wp2_with fail
        refine R4.out.mono ?_
        rintro e w12 ⟨rfl, h12⟩
        have HK := Lib.hid (K0.tr HK0.out h12.1.k0)
        have HL := Lib.hid (fun w => live_any w)
        clear h12 E5 E6 E7
        by_cases hc1 : 0 ≤ cut
        · obtain ⟨c, rfl⟩ : ∃ c : Nat, cut = c := ⟨cut.toNat, by omega⟩
          by_cases hc2 : (c : Int) ≤ t.size + one.size
          · have hc3 : c ≤ t.size + one.size := by omega
            have hcb : cutB (t ++ one) c = (t ++ one).extract 0 c := by unfold cutB; rw [if_pos ⟨by omega, by simp only [ByteArray.size_append]; omega⟩]; rfl
            rw [hcb] at E1 E2
            obtain ⟨bb, hbb⟩ : ∃ bb, (t ++ one).extract 0 c = bb := ⟨_, rfl⟩
            rw [hbb] at E1 E2
            have e1 := E1.out
            have e1i : (x.size : Int) ≤ bb.size := by omega
            have e2 := E2.out
            go_wp2_with fail
            refine (HL.out _).mono ?_
            rintro e w13 ⟨rfl, k13⟩
            have HF := Lib.hid (K0.tr HK.out k13)
            clear k13
            go_wp2
            go_ret
            exact ⟨rfl, HF.out⟩
          · have hc2' : (t.size : Int) + one.size < c := by omega
            have hcb : cutB (t ++ one) c = t ++ one := by unfold cutB; rw [if_neg (by simp only [ByteArray.size_append]; omega)]
            rw [hcb] at E1 E2
            have e1 := E1.out
            simp only [ByteArray.size_append] at e1
            have e1i : (x.size : Int) ≤ t.size + one.size := by omega
            have e2 := E2.out
            go_wp2_with fail
            refine (HL.out _).mono ?_
            rintro e w13 ⟨rfl, k13⟩
            have HF := Lib.hid (K0.tr HK.out k13)
            clear k13
            go_wp2
            go_ret
            exact ⟨rfl, HF.out⟩
        · have hc1' : cut < 0 := by omega
          have hcb : cutB (t ++ one) cut = t ++ one := by unfold cutB; rw [if_neg (by omega)]
          rw [hcb] at E1 E2
          have e1 := E1.out
          simp only [ByteArray.size_append] at e1
          have e1i : (x.size : Int) ≤ t.size + one.size := by omega
          have e2 := E2.out
          go_wp2_with fail
          refine (HL.out _).mono ?_
          rintro e w13 ⟨rfl, k13⟩
          have HF := Lib.hid (K0.tr HK.out k13)
          clear k13
          go_wp2
          go_ret
          exact ⟨rfl, HF.out⟩
end Go.Proofs.Ytjfblcmpdcbpgaa
