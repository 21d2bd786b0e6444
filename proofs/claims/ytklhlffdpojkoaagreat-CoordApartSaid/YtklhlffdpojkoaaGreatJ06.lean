/-
  The document's offsets: Commit, whole.
-/
import Derived.Test.YtklhlffdpojkoaaGreatJ05
namespace Go.Proofs.YtklhlffdpojkoaaGreat
open Go.RowKit Fx

set_option maxRecDepth 100000 in
set_option maxHeartbeats 8000000 in
theorem rocommit_full {w : World} {F : Nat → Prop} {b : Nat} {R : OffC} (g t : ByteArray) (ix at_ : Int) (h : ROst w F b R) (hd : KD R.all) (_hl : R.all.length ≤ 100000) (hg : g.size ≤ 9223372036854775807) (ht : t.size ≤ 9223372036854775807) (hm : mayB ⟨g, t, ix⟩ = true) (hi : inB at_ 0 = true) (ha : aget R.all ⟨g, t, ix⟩ = none) (hfu : R.room ≤ R.all.length) :
    Calls Tryz.prog 32 #[.pointer (some ⟨b, 0, none⟩), .string g, .agg #[.string t, .int .i64 ix], .int .i64 at_] w (RComP w F b R ⟨g, t, ix⟩ at_) := by
  have HP : Hid (∀ wx, K0 w wx → RComP w F b R ⟨g, t, ix⟩ at_ (.returned (.int .i64 5)) wx) := fun wx hk => RComP.same h hd hk (by unfold commitE; rw [if_pos ⟨hm, hi⟩, if_pos ⟨by rw [ha]; rfl, hfu⟩]) (by decide)
  have HKEY := Lib.hid (fun wx => keyR_any g t ix wx hg ht)
  rw [hm] at HKEY
  obtain ⟨v, h⟩ := h
  have HF := Lib.hid (fun (wx : World) (hk : K0 w wx) => rofind_any g t ix (h.keep hk (fun _ _ e => e)))
  have HH := Lib.hid h
  have HD := Lib.hid hd
  have HA := Lib.hid ha
  unfold inB at hi
  have h1 : ¬ at_ < 0 := by simp only [decide_eq_true_eq] at hi; omega
  have h2 : ¬ 1099511627776 < at_ := by simp only [decide_eq_true_eq] at hi; omega
  clear h hd ha hm hi
  go_enter Tryz.func32, Tryz.ntmps32
  go_wp2_with fail
  refine (HKEY.out _).mono ?_
  rintro e w1 ⟨rfl, k1⟩
  have bx := (k1.block w.heap.size (by simp) (fun e => e)).trans (heap_new _ _ _ rfl)
  have p0 : w1.cell? ⟨w.heap.size, 0, none⟩ = some (.string t) := block_cell bx 0
  have p1 : w1.cell? ⟨w.heap.size, 1, none⟩ = some (.int .i64 ix) := block_cell bx 1
  have pl := block_lt bx
  have HBX := Lib.hid bx
  have HK1 := Lib.hid (K0.tr ((Keeps.refl _ w).alloc _) k1)
  clear k1 bx
  go_wp2_with fail
  refine (HF.out _ HK1.out).mono ?_
  rintro e w2 ⟨x, rfl, hk2, hf⟩
  have HK2 := Lib.hid (K0.tr HK1.out hk2)
  rcases hf with ⟨i, hi, rfl, he⟩ | ⟨rfl, hn⟩
  · exact absurd he (knot HA.out hi)
  have HX2 := Lib.hid (HH.out.keep HK2.out (fun _ _ e => e))
  have bx2 := (hk2.block w.heap.size pl (fun e => e)).trans HBX.out
  have HBX2 := Lib.hid bx2
  have x0 : w2.cell? ⟨b, 0, none⟩ = some (.int .i64 R.room) := block_cell HX2.out.blk 0
  have x1 : w2.cell? ⟨b, 1, none⟩ = some v := block_cell HX2.out.blk 1
  have xl := block_lt HX2.out.blk
  obtain ⟨va, vc, rfl⟩ := y_own_slice HX2.out.row
  clear hn hk2 bx2 p0 p1 pl
  go_wp2
  go_quiet (fail)
  generalize hwq : w2.drewN _ = wq
  have HKQ : Hid (K0 w2 wq) := by show Keeps _ _ _; rw [← hwq]; exact (Keeps.refl _ _).drewN _
  clear hwq x0 x1 xl
  have HK3 := Lib.hid (K0.tr HK2.out HKQ.out)
  have H2 := Lib.hid (HX2.out.keep HKQ.out (fun _ _ e => e))
  have bx3 := (HKQ.out.block w.heap.size (block_lt HBX2.out) (fun e => e)).trans HBX2.out
  have x0 : wq.cell? ⟨b, 0, none⟩ = some (.int .i64 R.room) := block_cell H2.out.blk 0
  have x1 : wq.cell? ⟨b, 1, none⟩ = some (.slice va R.all.length vc) := block_cell H2.out.blk 1
  have xl := block_lt H2.out.blk
  clear bx3
  go_wp2
  go_ret
  exact HP.out _ HK3.out
set_option maxRecDepth 100000 in
set_option maxHeartbeats 8000000 in
theorem rocommit_new {w : World} {F : Nat → Prop} {b : Nat} {R : OffC} (g t : ByteArray) (ix at_ : Int) (h : ROst w F b R) (hd : KD R.all) (hl : R.all.length ≤ 100000) (hg : g.size ≤ 9223372036854775807) (ht : t.size ≤ 9223372036854775807) (hm : mayB ⟨g, t, ix⟩ = true) (hi : inB at_ 0 = true) (ha : aget R.all ⟨g, t, ix⟩ = none) (hfu : ¬ R.room ≤ R.all.length) :
    Calls Tryz.prog 32 #[.pointer (some ⟨b, 0, none⟩), .string g, .agg #[.string t, .int .i64 ix], .int .i64 at_] w (RComP w F b R ⟨g, t, ix⟩ at_) := by
  have HC0 : Hid (commitE R ⟨g, t, ix⟩ at_ = 0) := by show _ = _; unfold commitE; rw [if_pos ⟨hm, hi⟩, if_neg (fun e => hfu e.2)]
  have HKEY := Lib.hid (fun wx => keyR_any g t ix wx hg ht)
  rw [hm] at HKEY
  obtain ⟨v, h⟩ := h
  have HF := Lib.hid (fun (wx : World) (hk : K0 w wx) => rofind_any g t ix (h.keep hk (fun _ _ e => e)))
  have HH := Lib.hid h
  have HD := Lib.hid hd
  have HA := Lib.hid ha
  unfold inB at hi
  have h1 : ¬ at_ < 0 := by simp only [decide_eq_true_eq] at hi; omega
  have h2 : ¬ 1099511627776 < at_ := by simp only [decide_eq_true_eq] at hi; omega
  clear h hd ha hm hi
  go_enter Tryz.func32, Tryz.ntmps32
  go_wp2_with fail
  refine (HKEY.out _).mono ?_
  rintro e w1 ⟨rfl, k1⟩
  have bx := (k1.block w.heap.size (by simp) (fun e => e)).trans (heap_new _ _ _ rfl)
  have p0 : w1.cell? ⟨w.heap.size, 0, none⟩ = some (.string t) := block_cell bx 0
  have p1 : w1.cell? ⟨w.heap.size, 1, none⟩ = some (.int .i64 ix) := block_cell bx 1
  have pl := block_lt bx
  have HBX := Lib.hid bx
  have HK1 := Lib.hid (K0.tr ((Keeps.refl _ w).alloc _) k1)
  clear k1 bx
  go_wp2_with fail
  refine (HF.out _ HK1.out).mono ?_
  rintro e w2 ⟨x, rfl, hk2, hf⟩
  have HK2 := Lib.hid (K0.tr HK1.out hk2)
  rcases hf with ⟨i, hi, rfl, he⟩ | ⟨rfl, hn⟩
  · exact absurd he (knot HA.out hi)
  have HX2 := Lib.hid (HH.out.keep HK2.out (fun _ _ e => e))
  have bx2 := (hk2.block w.heap.size pl (fun e => e)).trans HBX.out
  have HBX2 := Lib.hid bx2
  have x0 : w2.cell? ⟨b, 0, none⟩ = some (.int .i64 R.room) := block_cell HX2.out.blk 0
  have x1 : w2.cell? ⟨b, 1, none⟩ = some v := block_cell HX2.out.blk 1
  have xl := block_lt HX2.out.blk
  obtain ⟨va, vc, rfl⟩ := y_own_slice HX2.out.row
  clear hn hk2 bx2 p0 p1 pl
  go_wp2
  go_quiet (fail)
  generalize hwq : w2.drewN _ = wq
  have HKQ : Hid (K0 w2 wq) := by show Keeps _ _ _; rw [← hwq]; exact (Keeps.refl _ _).drewN _
  clear hwq x0 x1 xl
  have HK3 := Lib.hid (K0.tr HK2.out HKQ.out)
  have H2 := Lib.hid (HX2.out.keep HKQ.out (fun _ _ e => e))
  have bx3 := (HKQ.out.block w.heap.size (block_lt HBX2.out) (fun e => e)).trans HBX2.out
  have x0 : wq.cell? ⟨b, 0, none⟩ = some (.int .i64 R.room) := block_cell H2.out.blk 0
  have x1 : wq.cell? ⟨b, 1, none⟩ = some (.slice va R.all.length vc) := block_cell H2.out.blk 1
  have xl := block_lt H2.out.blk
  have HFIN : Hid (∀ w4 va vc k, k ≤ R.all.length → K0 wq w4 → w4.ownsRow wq.heap.size 115 4 (.slice va (R.all.length + 1) vc) (R.all.length + 1) ((R.all.take k).flatMap encR ++ encR (⟨g, t, ix⟩, at_) ++ (R.all.drop k).flatMap encR) →
      RComP w F b R ⟨g, t, ix⟩ at_ (.returned (.int .i64 0)) (w4.setCell ⟨b, 1, none⟩ (.slice va (R.all.length + 1) vc))) := by
    show ∀ _ _ _ _, _ → _ → _ → _
    intro w4 va vc k hkl hk4 ho4
    have h9 := H2.out.newrow1 (l := R.all.take k ++ (⟨g, t, ix⟩, at_) :: R.all.drop k) hk4 (nv := .slice va (R.all.length + 1) vc) (by
      rw [show (R.all.take k ++ (⟨g, t, ix⟩, at_) :: R.all.drop k).length = R.all.length + 1 by simp; omega, List.flatMap_append, List.flatMap_cons, ← List.append_assoc]
      exact ho4)
    exact RComP.put HD.out HC0.out (put_perm HA.out at_ k) (ROpost.trans (fun k e => .inl e) (HK3.out.mono (fun _ _ e => e.elim)) h9)
  have hown0 : wq.ownsRow wq.heap.size 115 4 (.slice none 0 0) 0 [] := World.ownsRow_nil _ _ _ _
  have fr1 := block_free H2.out.blk 1
  have p0' : wq.cell? ⟨w.heap.size, 0, none⟩ = some (.string t) := block_cell bx3 0
  have p1' : wq.cell? ⟨w.heap.size, 1, none⟩ = some (.int .i64 ix) := block_cell bx3 1
  have pl' := block_lt bx3
  have HB2 := Lib.hid bx3
  have HPF : Hid (∀ wx, K0 wq wx → wx.cell? ⟨w.heap.size, 0, none⟩ = some (.string t) ∧ wx.cell? ⟨w.heap.size, 1, none⟩ = some (.int .i64 ix) ∧ w.heap.size < wx.heap.size) := fun wx hk => by
    have h9 := (hk.block w.heap.size (block_lt HB2.out) (fun e => e)).trans HB2.out
    exact ⟨block_cell h9 0, block_cell h9 1, block_lt h9⟩
  have hform := H2.out.form
  clear bx3
  rcases hform with ⟨hnil, hv⟩ | ⟨r, cap, hv, hrb, hrl, hcap, hFr, hcm⟩
  · simp only [Value.slice.injEq] at hv
    obtain ⟨rfl, _, rfl⟩ := hv
    have HN := Lib.hid hnil
    rw [hnil] at x1
    have x1 : wq.cell? ⟨b, 1, none⟩ = some (.slice none 0 0) := x1
    have HTN : Hid (∀ wx, K0 wq wx → NilO wq wx b R.room) := fun wx hk => by
      have h9 := H2.out
      rw [HN.out] at h9
      exact h9.nilO hk
    have q0 : ¬ R.room ≤ 0 := by rw [hnil] at hfu; simpa using hfu
    clear hnil hfu
    go_wp2
    refine wp_loop_once ?_
    go_wp2
    go_quiet (fail)
    generalize hwe : wq.drewN _ = we
    have hke : K0 wq we := by rw [← hwe]; exact (Keeps.refl _ _).drewN _
    have hown0 : we.ownsRow wq.heap.size 115 4 (.slice none 0 0) 0 [] := World.ownsRow_nil _ _ _ _
    obtain ⟨_, s0, s1, s2, s3, s4⟩ := HTN.out we hke
    obtain ⟨r0, r1, r2⟩ := HPF.out we hke
    have hzq := hke.size
    clear hwe
    go_wp2_with (at_builtin; first | (refine wpList_appZ rfl rfl Tryz.underlying71 infoRow rfl hown0 rfl ?_) | (refine wpList_app1 rfl rfl Tryz.underlying71 infoRow rfl (by decide) rfl (hown0.alloc _) rfl (heap_new _ _ _ rfl) rfl rfl ⟨by omega, by decide⟩ (by first | (simp; done) | (simp; omega)) ?_; intro g2 c2 w3 hA2; have hk2 : K0 wq w3 := (hke.alloc _).grown hA2.grown (fun k e => by cases e); have HK4 := Lib.hid hk2; have ho2 := hA2.own; have HV2 := Lib.hid ho2; obtain ⟨_, y0, y1, y2, y3, y4⟩ := HTN.out w3 hk2; clear hk2 hA2) | (refine wpList_appZ rfl rfl Tryz.underlying71 infoRow rfl ho2 rfl ?_; clear ho2))
    go_ret
    have h9 := HFIN.out _ (some ⟨g2, 0, none⟩) c2 0 (Nat.zero_le _) HK4.out
    rw [HN.out] at h9
    exact h9 HV2.out
  · simp only [Value.slice.injEq] at hv
    obtain ⟨rfl, _, rfl⟩ := hv
    have HTF : Hid (∀ k wx, K0 wq wx → TabO wq wx b r R.room (.slice (some ⟨r, 0, none⟩) R.all.length vc) R.all k k) := fun k wx hk => H2.out.tabO hk k k
    clear p0' p1' pl' x0 x1 fr1 hown0 xl
    go_wp2
    go_loopw [10] (fun i wr => ∃ k : Nat, i = .int .i64 k ∧ k ≤ R.all.length ∧ K0 wq wr) (fun i _ => R.all.length - (intOf i).toNat)
    case atStart => exact ⟨0, rfl, by omega, Keeps.refl _ _⟩
    case round =>
      obtain ⟨k, rfl, hk, hkr⟩ := hrel
      have HKR := Lib.hid hkr
      have HKL := Lib.hid hk
      have i0 : (0 : Int) ≤ k := by omega
      have HR := Lib.hid (H2.out.keep hkr (fun _ _ e => e))
      have HRD := Lib.hid (HR.out.keep ((Keeps.refl (fun _ => False) wr).drew) (fun _ _ e => e))
      have HKD : Keeps (fun _ => False) wr wr.drew := (Keeps.refl _ _).drew
      have x1 : wr.cell? ⟨b, 1, none⟩ = some (.slice (some ⟨r, 0, none⟩) R.all.length vc) := block_cell HR.out.blk 1
      have xl := block_lt HR.out.blk
      clear hkr
      by_cases hlt2 : k < R.all.length
      · obtain ⟨c0, c1, c2, c3⟩ := HR.out.cell rfl k hlt2
        obtain ⟨d0, d1, d2, d3⟩ := HRD.out.cell rfl k hlt2
        have x2 : wr.drew.cell? ⟨b, 1, none⟩ = some (.slice (some ⟨r, 0, none⟩) R.all.length vc) := block_cell HRD.out.blk 1
        have xl2 := block_lt HRD.out.blk
        obtain ⟨p0, p1, pl⟩ := HPF.out wr HKR.out
        obtain ⟨o0, o1, ol⟩ := HPF.out wr.drew (K0.tr HKR.out HKD)
        have i1 : (k : Int) < R.all.length := by omega
        have HAH : Hid (∀ wx, Calls Tryz.prog 58 #[.agg #[.string R.all[k].1.group, .string R.all[k].1.topic, .int .i64 R.all[k].1.index, .int .i64 R.all[k].2], .string g, .agg #[.string t, .int .i64 ix]] wx fun e w' => e = .returned (.bool (aheadB R.all[k].1.group R.all[k].1.topic R.all[k].1.index g t ix)) ∧ K0 wx w') := fun wx => ahead_any _ _ _ _ _ _ _ wx
        generalize R.all[k].1.group = xg at *
        generalize R.all[k].1.topic = xt at *
        generalize R.all[k].1.index = xi at *
        generalize R.all[k].2 = xv at *
        have HLT := Lib.hid hlt2
        cases hah : aheadB xg xt xi g t ix with
        | true =>
          rw [hah] at HAH
          clear hah
          go_wp2
          go_region_held3 (fun w' => w'.cell? ⟨b, 1, none⟩ = some (.slice (some ⟨r, 0, none⟩) R.all.length vc) ∧ w'.cell? ⟨r, k * 4, none⟩ = some (.string xg) ∧ w'.cell? ⟨r, k * 4 + 1, none⟩ = some (.string xt) ∧ w'.cell? ⟨r, k * 4 + 2, none⟩ = some (.int .i64 xi) ∧ w'.cell? ⟨r, k * 4 + 3, none⟩ = some (.int .i64 xv) ∧ w'.cell? ⟨w.heap.size, 0, none⟩ = some (.string t) ∧ w'.cell? ⟨w.heap.size, 1, none⟩ = some (.int .i64 ix) ∧ K0 wr w')
            (first | go_keep | (go_split_ands; refine ⟨?_, ?_, ?_, ?_, ?_, ?_, ?_, ?_⟩ <;> first | assumption | exact Keeps.cell' (by assumption) (by assumption) (fun e => e) | exact K0.tr (by assumption) (by assumption)))
            (first | (go_at_call 58; refine (HAH.out _).mono ?_; rintro e w' ⟨he, hk⟩; subst he))
          go_split_ands
          have kk : K0 wr w' := by assumption
          have HKN := Lib.hid kk
          clear kk
          go_wp2
          go_roundw
          case rel => exact ⟨k + 1, by go_num, HLT.out, K0.tr HKR.out HKN.out⟩
          case measure => have := HLT.out; simp [intOf]; omega
        | false =>
          rw [hah] at HAH
          clear hah
          go_wp2
          go_region_held3 (fun w' => w'.cell? ⟨b, 1, none⟩ = some (.slice (some ⟨r, 0, none⟩) R.all.length vc) ∧ w'.cell? ⟨r, k * 4, none⟩ = some (.string xg) ∧ w'.cell? ⟨r, k * 4 + 1, none⟩ = some (.string xt) ∧ w'.cell? ⟨r, k * 4 + 2, none⟩ = some (.int .i64 xi) ∧ w'.cell? ⟨r, k * 4 + 3, none⟩ = some (.int .i64 xv) ∧ w'.cell? ⟨w.heap.size, 0, none⟩ = some (.string t) ∧ w'.cell? ⟨w.heap.size, 1, none⟩ = some (.int .i64 ix) ∧ K0 wr w')
            (first | go_keep | (go_split_ands; refine ⟨?_, ?_, ?_, ?_, ?_, ?_, ?_, ?_⟩ <;> first | assumption | exact Keeps.cell' (by assumption) (by assumption) (fun e => e) | exact K0.tr (by assumption) (by assumption)))
            (first | (go_at_call 58; refine (HAH.out _).mono ?_; rintro e w' ⟨he, hk⟩; subst he))
          go_split_ands
          have kk : K0 wr w' := by assumption
          have hke : K0 wq w' := K0.tr HKR.out kk
          clear kk
          generalize w' = we at *
          have hown0 : we.ownsRow wq.heap.size 115 4 (.slice none 0 0) 0 [] := World.ownsRow_nil _ _ _ _
          have HTK := Lib.hid (HTF.out k)
          obtain ⟨_, s0, s1, s2, s3, s4, _, _⟩ := HTK.out we hke
          obtain ⟨r0, r1, r2⟩ := HPF.out we hke
          have hn1 := (HTK.out we hke).n1
          have hl1 : ((R.all.take k).flatMap encR).length = k * 4 := by rw [y_flat_len encR 4 encR_len, List.length_take]; congr 1; omega
          have hl2 : ((R.all.drop k).flatMap encR).length = (R.all.length - k) * 4 := by rw [y_flat_len encR 4 encR_len, List.length_drop]
          have hc1 : ∀ u ∈ (R.all.take k).flatMap encR, u.oneCell' = true := fun u hu => by
            obtain ⟨y, hy, hu⟩ := List.mem_flatMap.1 hu
            exact encR_one y u hu
          have hc2 : ∀ u ∈ (R.all.drop k).flatMap encR, u.oneCell' = true := fun u hu => by
            obtain ⟨y, hy, hu⟩ := List.mem_flatMap.1 hu
            exact encR_one y u hu
          have k1 : (k : Int) ≤ vc := by omega
          have k2 : (k : Int) ≤ R.all.length := by omega
          have k4 : (R.all.length : Int) ≤ vc := by omega
          have hce : ¬ vc = k := by omega
          go_wp2_with (at_builtin; first | (refine y_wpList_appN rfl rfl Tryz.underlying71 infoRow rfl (by decide) rfl hown0 rfl hl1 hn1 hc1 ⟨by omega, by decide⟩ hke.size ?_; intro v1 w3 hv1 hg1; simp only [Nat.zero_add, List.nil_append] at hv1; obtain ⟨va1, vc1, rfl⟩ := y_own_slice hv1; have hk1 : K0 wq w3 := K0.tr hke (y_grown1 hg1); have hz1 := hk1.size; obtain ⟨_, t0, t1, t2, t3, t4, t5, t6⟩ := HTK.out w3 hk1; obtain ⟨u0, u1, u2⟩ := HPF.out w3 hk1; clear hn1) | (refine wpList_app1 rfl rfl Tryz.underlying71 infoRow rfl (by decide) rfl (hv1.alloc _) rfl (heap_new _ _ _ rfl) rfl rfl ⟨by omega, by decide⟩ (by first | (simp; done) | (simp; omega)) ?_; intro g2 c2 w4 hA2; have hk2 : K0 wq w4 := (hk1.alloc _).grown hA2.grown (fun k e hlt => absurd (hv1.lt k e).1 (by omega)); have hz2 := hk2.size; have ho2 := hA2.own; obtain ⟨_, y0, y1, y2, y3, y4, y5, y6⟩ := HTK.out w4 hk2; clear t0 t1 t2 t3 t4 t5 t6 u0 u1 u2 hv1 hg1 hA2) | (refine y_wpList_appN rfl rfl Tryz.underlying71 infoRow rfl (by decide) rfl ho2 rfl hl2 y6 hc2 ⟨by omega, by decide⟩ hz2 ?_; intro v3 w5 hv3 hg3; obtain ⟨va3, vc3, rfl⟩ := y_own_slice hv3; have hk3 : K0 wq w5 := hk2.grown hg3 (fun k e hlt => absurd (ho2.lt k e).1 (by omega)); have HK4 := Lib.hid hk3; have HV3 := Lib.hid hv3; obtain ⟨_, z0, z1, z2, z3, z4, _, _⟩ := HTK.out w5 hk3; clear y0 y1 y2 y3 y4 y5 y6 hv3 hg3 ho2))
          go_ret
          have h9 := HFIN.out _ va3 vc3 k HKL.out HK4.out
          rw [show R.all.length + 1 = k + 1 + (R.all.length - k) by omega] at h9
          exact h9 HV3.out
      · have i1 : ¬ (k : Int) < R.all.length := by omega
        go_wp2
        go_quiet (fail)
        generalize hwe : wr.drewN _ = we
        have hke : K0 wq we := by rw [← hwe]; exact HKR.out.drewN _
        clear hwe x1 xl HKD
        have hown0 : we.ownsRow wq.heap.size 115 4 (.slice none 0 0) 0 [] := World.ownsRow_nil _ _ _ _
        have HTK := Lib.hid (HTF.out k)
        obtain ⟨_, s0, s1, s2, s3, s4, _, _⟩ := HTK.out we hke
        obtain ⟨r0, r1, r2⟩ := HPF.out we hke
        have hn1 := (HTK.out we hke).n1
        have hl1 : ((R.all.take k).flatMap encR).length = k * 4 := by rw [y_flat_len encR 4 encR_len, List.length_take]; congr 1; omega
        have hl2 : ((R.all.drop k).flatMap encR).length = (R.all.length - k) * 4 := by rw [y_flat_len encR 4 encR_len, List.length_drop]
        have hc1 : ∀ u ∈ (R.all.take k).flatMap encR, u.oneCell' = true := fun u hu => by
          obtain ⟨y, hy, hu⟩ := List.mem_flatMap.1 hu
          exact encR_one y u hu
        have hc2 : ∀ u ∈ (R.all.drop k).flatMap encR, u.oneCell' = true := fun u hu => by
          obtain ⟨y, hy, hu⟩ := List.mem_flatMap.1 hu
          exact encR_one y u hu
        have k1 : (k : Int) ≤ vc := by omega
        have k2 : (k : Int) ≤ R.all.length := by omega
        have k4 : (R.all.length : Int) ≤ vc := by omega
        by_cases hce : vc = k
        · obtain rfl : k = R.all.length := by omega
          subst hce
          have hdn : (R.all.drop R.all.length).flatMap encR = [] := by rw [List.drop_length]; rfl
          have HDN := Lib.hid hdn
          clear hdn k1 k2 k4 hl2
          go_wp2_with (at_builtin; first | (refine y_wpList_appN rfl rfl Tryz.underlying71 infoRow rfl (by decide) rfl hown0 rfl hl1 hn1 hc1 ⟨by omega, by decide⟩ hke.size ?_; intro v1 w3 hv1 hg1; simp only [Nat.zero_add, List.nil_append] at hv1; obtain ⟨va1, vc1, rfl⟩ := y_own_slice hv1; have hk1 : K0 wq w3 := K0.tr hke (y_grown1 hg1); have hz1 := hk1.size; obtain ⟨_, t0, t1, t2, t3, t4, t5, t6⟩ := HTK.out w3 hk1; obtain ⟨u0, u1, u2⟩ := HPF.out w3 hk1; clear hn1) | (refine wpList_app1 rfl rfl Tryz.underlying71 infoRow rfl (by decide) rfl (hv1.alloc _) rfl (heap_new _ _ _ rfl) rfl rfl ⟨by omega, by decide⟩ (by first | (simp; done) | (simp; omega)) ?_; intro g2 c2 w4 hA2; have hk2 : K0 wq w4 := (hk1.alloc _).grown hA2.grown (fun k e hlt => absurd (hv1.lt k e).1 (by omega)); have hz2 := hk2.size; have ho2 := hA2.own; obtain ⟨_, y0, y1, y2, y3, y4, y5, y6⟩ := HTK.out w4 hk2; clear t0 t1 t2 t3 t4 t5 t6 u0 u1 u2 hv1 hg1 hA2) | (refine wpList_appZ rfl rfl Tryz.underlying71 infoRow rfl ho2 rfl ?_; have HK4 := Lib.hid hk2; have HV3 := Lib.hid ho2; clear ho2))
          go_ret
          have h9 := HFIN.out _ (some ⟨g2, 0, none⟩) c2 _ HKL.out HK4.out
          rw [HDN.out, List.append_nil] at h9
          exact h9 HV3.out
        · go_wp2_with (at_builtin; first | (refine y_wpList_appN rfl rfl Tryz.underlying71 infoRow rfl (by decide) rfl hown0 rfl hl1 hn1 hc1 ⟨by omega, by decide⟩ hke.size ?_; intro v1 w3 hv1 hg1; simp only [Nat.zero_add, List.nil_append] at hv1; obtain ⟨va1, vc1, rfl⟩ := y_own_slice hv1; have hk1 : K0 wq w3 := K0.tr hke (y_grown1 hg1); have hz1 := hk1.size; obtain ⟨_, t0, t1, t2, t3, t4, t5, t6⟩ := HTK.out w3 hk1; obtain ⟨u0, u1, u2⟩ := HPF.out w3 hk1; clear hn1) | (refine wpList_app1 rfl rfl Tryz.underlying71 infoRow rfl (by decide) rfl (hv1.alloc _) rfl (heap_new _ _ _ rfl) rfl rfl ⟨by omega, by decide⟩ (by first | (simp; done) | (simp; omega)) ?_; intro g2 c2 w4 hA2; have hk2 : K0 wq w4 := (hk1.alloc _).grown hA2.grown (fun k e hlt => absurd (hv1.lt k e).1 (by omega)); have hz2 := hk2.size; have ho2 := hA2.own; obtain ⟨_, y0, y1, y2, y3, y4, y5, y6⟩ := HTK.out w4 hk2; clear t0 t1 t2 t3 t4 t5 t6 u0 u1 u2 hv1 hg1 hA2) | (refine y_wpList_appN rfl rfl Tryz.underlying71 infoRow rfl (by decide) rfl ho2 rfl hl2 y6 hc2 ⟨by omega, by decide⟩ hz2 ?_; intro v3 w5 hv3 hg3; obtain ⟨va3, vc3, rfl⟩ := y_own_slice hv3; have hk3 : K0 wq w5 := hk2.grown hg3 (fun k e hlt => absurd (ho2.lt k e).1 (by omega)); have HK4 := Lib.hid hk3; have HV3 := Lib.hid hv3; obtain ⟨_, z0, z1, z2, z3, z4, _, _⟩ := HTK.out w5 hk3; clear y0 y1 y2 y3 y4 y5 y6 hv3 hg3 ho2))
          go_ret
          have h9 := HFIN.out _ va3 vc3 k HKL.out HK4.out
          rw [show R.all.length + 1 = k + 1 + (R.all.length - k) by omega] at h9
          exact h9 HV3.out
theorem rocommit_any {w : World} {F : Nat → Prop} {b : Nat} {R : OffC} (g t : ByteArray) (ix at_ : Int) (h : ROst w F b R) (hd : KD R.all) (hl : R.all.length ≤ 100000) (hg : g.size ≤ 9223372036854775807) (ht : t.size ≤ 9223372036854775807) :
    Calls Tryz.prog 32 #[.pointer (some ⟨b, 0, none⟩), .string g, .agg #[.string t, .int .i64 ix], .int .i64 at_] w (RComP w F b R ⟨g, t, ix⟩ at_) := by
  by_cases hm : mayB ⟨g, t, ix⟩ = true ∧ inB at_ 0 = true
  · cases ha : aget R.all ⟨g, t, ix⟩ with
    | some y => exact rocommit_there g t ix at_ h hd hg ht hm.1 hm.2 ha
    | none =>
      by_cases hf : R.room ≤ R.all.length
      · exact rocommit_full g t ix at_ h hd hl hg ht hm.1 hm.2 ha hf
      · exact rocommit_new g t ix at_ h hd hl hg ht hm.1 hm.2 ha hf
  · exact rocommit_bad g t ix at_ h hd hg ht hm
end Go.Proofs.YtklhlffdpojkoaaGreat
