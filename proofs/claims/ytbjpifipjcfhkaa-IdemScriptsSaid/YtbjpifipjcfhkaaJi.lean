/-
  Print: the program's.
-/
import Derived.Test.YtbjpifipjcfhkaaJf
import Derived.Test.YtbjpifipjcfhkaaIh
namespace Go.Proofs.Ytbjpifipjcfhkaa
open Go.RowKit Go.Maps Go.Sort Fx

theorem wf_small {x : Int} (h1 : 0 ≤ x) (h2 : x ≤ 9223372036854775807) : (Lit.int .i64 x).wf = true := by
  have e1 : IntKind.i64.min = -9223372036854775808 := by decide
  have e2 : IntKind.i64.max = 9223372036854775807 := by decide
  show (decide (IntKind.i64.min ≤ x) && decide (x ≤ IntKind.i64.max)) = true
  rw [e1, e2, decide_eq_true (by omega), decide_eq_true (by omega)]
  rfl
theorem ids_any {w : World} {mb : Nat} {L : List (Int × Value)} {R : List (Int × HeardC)} (h : MapAt (.int .i64) w mb L) (hk : (L.map (·.1)).Perm (R.map (·.1))) (ho : SortI R) (hr : ∀ p ∈ R, 0 ≤ p.1 ∧ p.1 ≤ 1073741824) (hl : R.length ≤ 10000) :
    Calls Try.prog 33 #[.func (.func 41) #[] #[.pointer (some ⟨w.heap.size, 0, none⟩)]] (w.alloc (.cells #[.map (some mb)] 56)) fun e w' => ∃ a c, e = .returned (.slice a R.length c) ∧ w'.ownsRow (w.alloc (.cells #[.map (some mb)] 56)).heap.size 3 1 (.slice a R.length c) R.length ((R.map (·.1)).map fun x => Value.int .i64 x) ∧ K0 (w.alloc (.cells #[.map (some mb)] 56)) w' := by
  have hlen : L.length = R.length := by have := hk.length_eq; simpa using this
  obtain ⟨D0, h1, h2, h3⟩ := owns_of h (fun p hp => by
    have : p.1 ∈ R.map (·.1) := hk.subset (List.mem_map.2 ⟨p, hp, rfl⟩)
    obtain ⟨q, hq, e⟩ := List.mem_map.1 this
    have := hr q hq
    rw [← e]
    exact wf_small this.1 (by omega)) (by omega)
  refine (callsIn_wide.1 (skSorted mb L.length D0 anyR w h1 (by rw [h2]; unfold maxLen; omega) (by rw [h2]; omega))).mono ?_
  rintro e w' ⟨v, ss, rfl, hp, hr2, hn, hb⟩
  have hperm : (ss.mergeSort (fun x y => decide (x ≤ y))).Perm (R.map (·.1)) := (List.mergeSort_perm _ _).trans ((hp.trans h3).trans hk)
  have hpw := List.pairwise_mergeSort (le := fun x y : Int => decide (x ≤ y)) (fun a b c => by simpa using Int.le_trans) (fun a b => by simpa using Int.le_total a b) ss
  have hpw : (ss.mergeSort (fun x y => decide (x ≤ y))).Pairwise (fun x y => x ≤ y) := hpw.imp (fun h => by simpa using h)
  have heq := List.Perm.eq_of_pairwise (le := fun x y : Int => x ≤ y) (fun a b _ _ h1 h2 => Int.le_antisymm h1 h2) hpw (List.Pairwise.imp (fun h => Int.le_of_lt h) ho) hperm
  rw [heq] at hr2
  have hsl : ss.length = R.length := by have := (hp.trans (h3.trans hk)).length_eq; simpa using this
  rw [hsl] at hr2
  obtain ⟨a, c, rfl⟩ := own_slice hr2
  exact ⟨a, c, rfl, hr2, K0.of_below hb⟩
set_option maxRecDepth 100000 in
set_option maxHeartbeats 16000000 in
theorem print_any {w0 w : World} {pb mb : Nat} {M R : List (Int × HeardC)} {L : List (Int × (Nat × HeardC))} (h : PAt w0 w pb M mb L) (hs : SimI M R) (wf : WfR R) (hl : R.length ≤ 10000) :
    Calls Try.prog 17 #[.pointer (some ⟨pb, 0, none⟩)] w fun e w' => Same w e (.string (printI R)) w' := by
  have c0 : w.cell? ⟨pb, 0, none⟩ = some (.map (some mb)) := block_cell h.blk 0
  have hlt := block_lt h.blk
  have hm := Lib.hid h.map
  have HH := Lib.hid h
  have HS := Lib.hid hs
  have HW := Lib.hid wf
  have hcl := congrArg List.length h.core
  have HLL : Hid ((avals hptr L).length = R.length) := by
    show _ = _
    have := hs.len
    simp only [amap, avals, List.length_map] at hcl ⊢
    omega
  have HKP : Hid (((avals hptr L).map (·.1)).Perm (R.map (·.1))) := by
    show List.Perm _ _
    have h1 := hs.perm.map (·.1)
    rw [← h.core, amap_keys] at h1
    have h2 : (avals hptr L).map (·.1) = L.map (·.1) := by simp [avals, Function.comp_def]
    rw [h2]
    exact h1
  have HPUT : Hid (∀ x wx, 0 ≤ x ∧ x ≤ 9223372036854775807 → Calls Try.prog 32 #[.int .i64 x] wx fun e w' => e = .returned (.string (putB x)) ∧ K0 wx w') := by
    show ∀ _ _, _ → _
    intro x wx hx
    exact vput_any x wx hx.1 hx.2
  clear h hs wf hcl
  go_enter Try.func17, Try.ntmps17
  go_wp2_with (at_len; refine wpList_len rfl rfl Try.underlying56 rfl hm.out ?_)
  rw [HLL.out]
  refine (HPUT.out _ _ (by omega)).mono ?_
  rintro e w1 ⟨rfl, k1⟩
  rw [← prI_zero]
  have H1 := Lib.hid (HH.out.keep k1)
  have c1 : w1.cell? ⟨pb, 0, none⟩ = some (.map (some mb)) := block_cell H1.out.blk 0
  have l1 := block_lt H1.out.blk
  have K1 := Lib.hid k1
  clear k1 c0 hlt
  go_wp2_with fail
  refine (keys_any (some mb) w1).mono ?_
  rintro e w2 ⟨rfl, rfl⟩
  go_wp2_with fail
  refine (ids_any H1.out.map HKP.out HS.out.ord (fun p hp => (HW.out.mem HS.out.ord.kd p hp).1) hl).mono ?_
  rintro e w3 ⟨a, c, rfl, hrow, k3⟩
  have K3 := Lib.hid (K0.tr ((Keeps.refl (fun _ => False) w1).alloc _) k3)
  have H3 := Lib.hid (H1.out.keep K3.out)
  have HROW := Lib.hid hrow
  clear k3 hrow c1 l1
  go_wp2
  go_loopw [3, 25] (fun s i wr => ∃ k : Nat, i = .int .i64 k ∧ k ≤ R.length ∧ s = .string (prI R k) ∧ K0 w3 wr) (fun _ i _ => R.length - (intOf i).toNat)
  case atStart => exact ⟨0, rfl, by omega, rfl, Keeps.refl _ _⟩
  case round =>
    obtain ⟨k, rfl, hk, rfl, hkk⟩ := hrel
    have hr := H3.out.keep hkk
    have d0 : wr.cell? ⟨pb, 0, none⟩ = some (.map (some mb)) := block_cell hr.blk 0
    have l0 := block_lt hr.blk
    have HKR := Lib.hid hkk
    by_cases hlt : k < R.length
    · have hrow := HROW.out
      obtain ⟨g, rfl⟩ : ∃ g, a = some ⟨g, 0, none⟩ := by
        rcases hrow.2 with ⟨_, h2⟩ | ⟨r, cp, cur, h1, _⟩
        · omega
        · simp only [Value.slice.injEq] at h1
          exact ⟨r, h1.1⟩
      have hc1 : w3.cell? ⟨g, k, none⟩ = some (.int .i64 R[k].1) := by
        rw [hrow.cellAt k (by omega), List.getElem?_map, List.getElem?_map, List.getElem?_eq_getElem hlt]
        rfl
      have cg := hkk.cell' hc1 (fun e => e)
      have lg := World.block_lt_of_cell? wr _ cg
      have hg : aget M R[k].1 = some R[k].2 := by rw [HS.out.look]; exact agetI_at HS.out.ord.kd hlt
      obtain ⟨hb, hLb⟩ : ∃ hb, aget L R[k].1 = some (hb, R[k].2) := by
        rw [hr.agetL] at hg
        cases e : aget L R[k].1 with
        | none => rw [e] at hg; cases hg
        | some q => rw [e] at hg; obtain ⟨b, x⟩ := q; cases hg; exact ⟨b, rfl⟩
      have hh : HAt wr hb R[k].2 := hr.her _ _ hLb
      have HV : Hid (aget (avals hptr L) R[k].1 = some (.pointer (some ⟨hb, 0, none⟩))) := by show _ = _; rw [aget_avals, hLb]; rfl
      have HM3 := Lib.hid hr.map
      have HOK := Lib.hid (HW.out.mem HS.out.ord.kd R[k] (List.getElem_mem hlt))
      have HNX := Lib.hid (prI_next hlt)
      have HPS := Lib.hid (prI_size HW.out HS.out.ord.kd hl k)
      have HLT := Lib.hid hlt
      clear hg hLb hc1 hrow hr
      generalize R[k] = p at HOK HNX HV cg hh
      obtain ⟨⟨o1, o2⟩, o3⟩ := HOK.out
      have o4 := o3.ep
      have o5 := o3.ok.c
      have HOKH := Lib.hid o3
      have HHH := Lib.hid hh
      have e0 : wr.cell? ⟨hb, 0, none⟩ = some (.int .i64 p.2.epoch) := block_cell hh 0
      have e17 : wr.cell? ⟨hb, 17, none⟩ = some (.int .i64 p.2.count) := block_cell hh 17
      have lh := block_lt hh
      have i0 : (0 : Int) ≤ k := by omega
      have i1 : (k : Int) < R.length := by omega
      have HEND : Hid (∀ Pr : ByteArray, Pr ++ (putB p.1 ++ putB p.2.epoch ++ putB (p.2.count : Int)) = prW Pr p 0) := by
        show ∀ _, _
        intro Pr
        rw [prW_zero]
        unfold headI
        simp only [ByteArray.append_assoc]
      have HPWS : Hid (∀ j, (prW (prI R k) p j).size ≤ 1800200) := by
        show ∀ _, _
        exact fun j => prW_size HPS.out ⟨o1, o2⟩ o3 j
      have HPWN : Hid (∀ Pr j, j < (winL p.2).length → ∃ h : j < (winL p.2).length, prW Pr p (j + 1) = prW Pr p j ++ sBy (winL p.2)[j]) := by
        show ∀ _ _, _ → _
        exact fun Pr j h => ⟨h, prW_next Pr p h⟩
      have HPWA : Hid (∀ Pr, prW Pr p (winL p.2).length = Pr ++ oneI p) := by
        show ∀ _, _
        exact fun Pr => prW_all Pr p
      have hq1 := putB_size (n := p.1) ⟨by omega, by omega⟩
      have hq2 := putB_size (n := p.2.epoch) ⟨by omega, by omega⟩
      have hq3 := putB_size (n := (p.2.count : Int)) ⟨by omega, by omega⟩
      have hps := HPS.out
      clear o3 hh hkk
      generalize hPr : prI R k = Pr at HPWS HNX hps ⊢
      have a1 : ¬ 9223372036854775807 < (putB p.1).size + (putB p.2.epoch).size := by omega
      have a2 : ¬ 9223372036854775807 < (putB p.1).size + (putB p.2.epoch).size + (putB (p.2.count : Int)).size := by omega
      have a3 : ¬ 9223372036854775807 < Pr.size + ((putB p.1).size + (putB p.2.epoch).size + (putB (p.2.count : Int)).size) := by omega
      have b2 : ¬ 9223372036854775807 < (putB p.1 ++ putB p.2.epoch).size + (putB (p.2.count : Int)).size := by rw [ByteArray.size_append]; exact a2
      have b3 : ¬ 9223372036854775807 < Pr.size + (putB p.1 ++ putB p.2.epoch ++ putB (p.2.count : Int)).size := by rw [ByteArray.size_append, ByteArray.size_append]; exact a3
      clear hPr hq1 hq2 hq3 hps
      have HCS : Hid (∀ wx, K0 wr wx → wx.cell? ⟨hb, 0, none⟩ = some (.int .i64 p.2.epoch) ∧ wx.cell? ⟨hb, 17, none⟩ = some (.int .i64 p.2.count) ∧ hb < wx.heap.size ∧ K0 wr wx) := by
        show ∀ _, _ → _
        intro wx hk
        have h1 := (hk.block _ (block_lt HHH.out) (fun e => e)).trans HHH.out
        exact ⟨block_cell h1 0, block_cell h1 17, block_lt h1, hk⟩
      obtain ⟨x0, x1, x2, x3⟩ := HCS.out wr.drew (Keeps.refl _ _).drew
      go_upto_region 8 with (at_lookup; refine wpList_look (intKey Try.underlying3) rfl rfl Try.underlying56 zeroHeard rfl _ rfl HM3.out _ HV.out ?_)
      go_region_held3 (fun w' => w'.cell? ⟨hb, 0, none⟩ = some (.int .i64 p.2.epoch) ∧ w'.cell? ⟨hb, 17, none⟩ = some (.int .i64 p.2.count) ∧ hb < w'.heap.size ∧ K0 wr w')
        (first | go_keep | (refine ⟨?_, ?_, ?_, ?_⟩ <;> assumption))
        (first | (go_at_call 32; go_split_ands; refine (HPUT.out _ _ (by omega)).mono ?_; rintro e w' ⟨rfl, hk⟩; obtain ⟨d1, d2, d3, d4⟩ := HCS.out w' (K0.tr (by assumption) hk)))
      all_goals
        go_split_ands
        rw [HEND.out]
        have k4 : K0 wr w' := by assumption
        obtain ⟨y0, y1, y2, _⟩ := HCS.out w' k4
        have HK4 := Lib.hid k4
        clear k4 a1 a2 a3 b2 b3 x0 x1 x2 x3 e0 e17 lh d0 l0 cg lg
        go_wp2
        go_loopw [3, 55] (fun sv i wx => ∃ j : Nat, i = .int .i64 j ∧ j ≤ p.2.count ∧ sv = .string (prW Pr p j) ∧ K0 wr wx) (fun _ i _ => p.2.count - (intOf i).toNat)
        case atStart => exact ⟨0, rfl, Nat.zero_le _, rfl, HK4.out⟩
        case round =>
          obtain ⟨wo, rfl⟩ : ∃ wo : World, wo = wr := ⟨_, rfl⟩
          obtain ⟨j, rfl, hj, rfl, hkj⟩ := hrel
          have HKJ := Lib.hid hkj
          by_cases hjl : j < p.2.count
          · have hjw : j < (winL p.2).length := by rw [winL_len]; exact hjl
            have hho := (hkj.block _ (block_lt HHH.out) (fun e => e)).trans HHH.out
            have A := Lib.hid (at_any (w := wo) hho HOKH.out.ok j (by omega))
            have hsl := slot_lt p.2 j
            have hnt : (winL p.2)[j] = nth p.2 j := winL_get p.2 j hjw
            have HWC : Hid (∀ wx, K0 wo wx → wx.cell? ⟨hb, 1 + slot p.2 j * 3, none⟩ = some (.int .i64 (winL p.2)[j].seq) ∧ wx.cell? ⟨hb, 1 + slot p.2 j * 3 + 1, none⟩ = some (.int .i64 (winL p.2)[j].base) ∧ wx.cell? ⟨hb, 1 + slot p.2 j * 3 + 2, none⟩ = some (.int .i64 (winL p.2)[j].span) ∧ hb < wx.heap.size ∧ K0 wo wx) := by
              show ∀ _, _ → _
              intro wx hk
              have h1 := (hk.block _ (block_lt hho) (fun e => e)).trans hho
              have cs := hcells_at p.2 hsl
              rw [hnt]
              exact ⟨(block_cell h1 _).trans cs.1, (block_cell h1 _).trans cs.2.1, (block_cell h1 _).trans cs.2.2, block_lt h1, hk⟩
            obtain ⟨_, hpn⟩ := HPWN.out Pr j hjw
            have HPN := Lib.hid hpn
            have hok := HOKH.out.all (winL p.2)[j] (List.getElem_mem hjw)
            have hsz := HPWS.out j
            clear hpn hho hkj hnt hsl
            generalize (winL p.2)[j] = x at HWC HPN hok
            obtain ⟨t1, t2, t3, t4, t5, t6⟩ := hok
            have hs1 := putB_size (n := x.seq) ⟨by omega, by omega⟩
            have hs2 := putB_size (n := x.base) ⟨by omega, by omega⟩
            have hs3 := putB_size (n := x.span) ⟨by omega, by omega⟩
            have HE2 : Hid (∀ Qr : ByteArray, Qr ++ (putB x.seq ++ putB x.base ++ putB x.span) = Qr ++ sBy x) := by
              show ∀ _, _
              intro Qr
              unfold sBy
              simp only [ByteArray.append_assoc]
            have HJL := Lib.hid hjl
            generalize hQr : prW Pr p j = Qr at hsz HPN ⊢
            have a1 : ¬ 9223372036854775807 < (putB x.seq).size + (putB x.base).size := by omega
            have a2 : ¬ 9223372036854775807 < (putB x.seq).size + (putB x.base).size + (putB x.span).size := by omega
            have a3 : ¬ 9223372036854775807 < Qr.size + ((putB x.seq).size + (putB x.base).size + (putB x.span).size) := by omega
            have b2 : ¬ 9223372036854775807 < (putB x.seq ++ putB x.base).size + (putB x.span).size := by rw [ByteArray.size_append]; exact a2
            have b3 : ¬ 9223372036854775807 < Qr.size + (putB x.seq ++ putB x.base ++ putB x.span).size := by rw [ByteArray.size_append, ByteArray.size_append]; exact a3
            have u0 : (0 : Int) ≤ j := by omega
            have u1 : (j : Int) < p.2.count := by omega
            clear hQr hs1 hs2 hs3 hsz hjw
            go_wp2_with fail
            refine A.out.mono ?_
            rintro e w5 ⟨rfl, k5⟩
            have HK5 := Lib.hid (K0.tr HKJ.out k5)
            have HWC5 : Hid (∀ wx, K0 w5 wx → wx.cell? ⟨hb, 1 + slot p.2 j * 3, none⟩ = some (.int .i64 x.seq) ∧ wx.cell? ⟨hb, 1 + slot p.2 j * 3 + 1, none⟩ = some (.int .i64 x.base) ∧ wx.cell? ⟨hb, 1 + slot p.2 j * 3 + 2, none⟩ = some (.int .i64 x.span) ∧ hb < wx.heap.size ∧ K0 w5 wx) := by
              show ∀ _, _ → _
              intro wx hk
              obtain ⟨z0, z1, z2, z3, _⟩ := HWC.out wx (K0.tr k5 hk)
              exact ⟨z0, z1, z2, z3, hk⟩
            obtain ⟨f1, f2, f3, f4, f5⟩ := HWC5.out w5 (Keeps.refl _ _)
            obtain ⟨g1, g2, g3, g4, g5⟩ := HWC5.out w5.drew (Keeps.refl _ _).drew
            clear k5
            go_upto_region 13 with fail
            go_region_held3 (fun w' => w'.cell? ⟨hb, 1 + slot p.2 j * 3, none⟩ = some (.int .i64 x.seq) ∧ w'.cell? ⟨hb, 1 + slot p.2 j * 3 + 1, none⟩ = some (.int .i64 x.base) ∧ w'.cell? ⟨hb, 1 + slot p.2 j * 3 + 2, none⟩ = some (.int .i64 x.span) ∧ hb < w'.heap.size ∧ K0 w5 w')
              (first | go_keep | (refine ⟨?_, ?_, ?_, ?_, ?_⟩ <;> assumption))
              (first | (go_at_call 32; go_split_ands; refine (HPUT.out _ _ (by omega)).mono ?_; rintro e w' ⟨rfl, hk⟩; obtain ⟨d1, d2, d3, d4, d5⟩ := HWC5.out w' (K0.tr (by assumption) hk)))
            all_goals
              go_split_ands
              go_wp2
              go_roundw
              case rel => exact ⟨j + 1, by go_num, HJL.out, by rw [HPN.out, ← HE2.out], K0.tr HK5.out (by assumption)⟩
              case measure => have := HJL.out; simp [intOf]; omega
          · have hje : j = (winL p.2).length := by rw [winL_len]; omega
            have hjc : j = p.2.count := by omega
            have HFI : Hid (prW Pr p j = prI R (k + 1)) := by show _ = _; rw [HNX.out, hje, HPWA.out]
            clear hje hkj
            subst hjc
            go_wp2
            go_roundw
            case rel => exact ⟨k + 1, by go_num, HLT.out, by rw [HFI.out], K0.tr HKR.out HKJ.out⟩
            case measure => have := HLT.out; simp [intOf]; omega
    · obtain rfl : k = R.length := by omega
      rw [prI_all]
      clear hr hkk
      go_wp2
      go_ret
      exact ⟨rfl, K0.tr (K0.tr K1.out K3.out) HKR.out⟩
end Go.Proofs.Ytbjpifipjcfhkaa
