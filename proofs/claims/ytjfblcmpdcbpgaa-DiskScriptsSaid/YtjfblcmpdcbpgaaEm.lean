/-
  The document's disk: Crash.
-/
import Derived.Test.YtjfblcmpdcbpgaaEl
namespace Go.Proofs.Ytjfblcmpdcbpgaa
open Go.RowKit Fx

/-- Where a crash is, behind k files. -/
structure RCr (w : World) (F : Nat → Prop) (b : Nat) (R : DiskC) (keep : List Int) (r cap k : Nat) (wr : World) : Prop where
  at_ : RAt wr F b (crashL keep R ((keysF R.files).take k)).1 (.slice (some ⟨r, 0, none⟩) R.files.length cap)
  kp : Keeps F w wr
  keys : keysF (crashL keep R ((keysF R.files).take k)).1.files = keysF R.files
  wf : WfD (crashL keep R ((keysF R.files).take k)).1
section
variable {w wr : World} {F : Nat → Prop} {b r cap k : Nat} {R : DiskC} {keep : List Int}
theorem RCr.same (h : RCr w F b R keep r cap k wr) {wx : World} (hk : K0 wr wx) : RCr w F b R keep r cap k wx :=
  ⟨h.at_.keep hk (fun _ _ e => e), h.kp.trans hk (fun _ _ e => e.elim), h.keys, h.wf⟩
theorem keysF_len (l : List (ByteArray × FileC)) : (keysF l).length = l.length := by simp [keysF]
/-- What is so of the k-th file. -/
structure RFil (w : World) (F : Nat → Prop) (b : Nat) (R : DiskC) (keep : List Int) (r cap k : Nat) (wr : World) (s : ByteArray) (x : FileC) : Prop where
  key : ∀ h : k < (keysF R.files).length, (keysF R.files)[k] = s
  old : oldF (crashL keep R ((keysF R.files).take k)).1 s = x
  has : aget (crashL keep R ((keysF R.files).take k)).1.files s = some x
  c0 : wr.cell? ⟨r, k * 3, none⟩ = some (.string s)
  c1 : wr.cell? ⟨r, k * 3 + 1, none⟩ = some (.string x.bytes)
  c2 : wr.cell? ⟨r, k * 3 + 2, none⟩ = some (.int .i64 x.safe)
theorem RCr.len (h : RCr w F b R keep r cap k wr) : (crashL keep R ((keysF R.files).take k)).1.files.length = R.files.length := by rw [← keysF_len, h.keys, keysF_len]
theorem keysF_get {l : List (ByteArray × FileC)} {k : Nat} (h : k < l.length) (h' : k < (keysF l).length) : (keysF l)[k] = l[k].1 := by simp [keysF]
theorem RCr.fil (h : RCr w F b R keep r cap k wr) (hk : k < R.files.length) : ∃ s x, RFil w F b R keep r cap k wr s x := by
  have hl := h.len
  have hkl : k < (crashL keep R ((keysF R.files).take k)).1.files.length := by omega
  have hc := h.at_.cell (by rw [hl]) k hkl
  have e1 : ∀ hh : k < (keysF R.files).length, (keysF R.files)[k] = (crashL keep R ((keysF R.files).take k)).1.files[k].1 := fun hh => by
    have hh2 : k < (keysF (crashL keep R ((keysF R.files).take k)).1.files).length := by rw [h.keys]; exact hh
    exact (List.getElem_of_eq h.keys hh2).symm.trans (keysF_get hkl hh2)
  exact ⟨_, _, e1, oldF_at h.wf.keys hkl rfl, aget_atI h.wf.keys hkl, hc.1, hc.2.1, hc.2.2⟩
theorem RCr.skip (h : RCr w F b R keep r cap k wr) (hk : k < R.files.length) {s : ByteArray} {x : FileC} (hf : RFil w F b R keep r cap k wr s x) (hs : x.safe = x.bytes.size) :
    RCr w F b R keep r cap (k + 1) wr ∧ (crashL keep R ((keysF R.files).take (k + 1))).2 = (crashL keep R ((keysF R.files).take k)).2 := by
  have hkl : k < (keysF R.files).length := by rw [keysF_len]; exact hk
  have hn : crashL keep R ((keysF R.files).take (k + 1)) = crashL keep R ((keysF R.files).take k) := by
    rw [crashL_next keep R _ hkl, hf.key hkl]
    unfold crashS
    rw [hf.old, if_pos hs]
  rw [hn]
  exact ⟨⟨by rw [hn]; exact h.at_, h.kp, by rw [hn]; exact h.keys, by rw [hn]; exact h.wf⟩, rfl⟩
theorem RCr.step (h : RCr w F b R keep r cap k wr) (hFr : F r) (hk : k < R.files.length) {s : ByteArray} {x : FileC} (hf : RFil w F b R keep r cap k wr s x) (hs : ¬ x.safe = x.bytes.size) {N : Nat} (hN : N = x.safe.toNat + kOf keep (crashL keep R ((keysF R.files).take k)).2 x) {wx : World} (hx : K0 wr wx) :
    RCr w F b R keep r cap (k + 1) ((wx.setCell ⟨r, k * 3 + 1, none⟩ (.string (x.bytes.extract 0 N))).setCell ⟨r, k * 3 + 2, none⟩ (.int .i64 (N : Nat))) ∧ (crashL keep R ((keysF R.files).take (k + 1))).2 = (crashL keep R ((keysF R.files).take k)).2 + 1 := by
  have hkl : k < (keysF R.files).length := by rw [keysF_len]; exact hk
  have hsf := h.wf.safe s x hf.has
  have hNs : N ≤ x.bytes.size := by rw [hN]; exact kOf_le hsf
  have hNm : x.safe ≤ N := by rw [hN]; omega
  have hkF : keepF x N = ⟨x.bytes.extract 0 N, x.safe⟩ := by unfold keepF; rw [if_pos hNm]
  have hn : crashL keep R ((keysF R.files).take (k + 1)) = (safeD (keepD (crashL keep R ((keysF R.files).take k)).1 s N) s, (crashL keep R ((keysF R.files).take k)).2 + 1) := by
    rw [crashL_next keep R _ hkl, hf.key hkl]
    unfold crashS
    rw [hf.old, if_neg hs, hN]
  have hz : (x.bytes.extract 0 N).size = N := by simp; omega
  have hfl : (safeD (keepD (crashL keep R ((keysF R.files).take k)).1 s N) s).files = aput (crashL keep R ((keysF R.files).take k)).1.files s ⟨x.bytes.extract 0 N, N⟩ := by
    unfold safeD keepD
    rw [hf.old, hkF, oldF_put]
    show aput (aput _ _ _) _ (⟨x.bytes.extract 0 N, ((x.bytes.extract 0 N).size : Nat)⟩ : FileC) = _
    rw [aput_aput, hz]
  have hl := h.len
  have hkl2 : k < (crashL keep R ((keysF R.files).take k)).1.files.length := by omega
  have ek : (crashL keep R ((keysF R.files).take k)).1.files[k].1 = s := by
    have hh2 : k < (keysF (crashL keep R ((keysF R.files).take k)).1.files).length := by rw [h.keys]; exact hkl
    exact (keysF_get hkl2 hh2).symm.trans ((List.getElem_of_eq h.keys hh2).trans (hf.key hkl))
  have hwf : WfD (crashL keep R ((keysF R.files).take (k + 1))).1 := by
    have h1 := crashS_ok (keep := keep) (p := crashL keep R ((keysF R.files).take k)) h.wf hf.has
    rw [crashL_next keep R _ hkl, hf.key hkl]
    exact h1.1
  have hat := RAt.turn2 (R := (crashL keep R ((keysF R.files).take k)).1) (by rw [hl]; exact h.at_.keep hx (fun _ _ e => e)) h.wf hkl2 ek (x.bytes.extract 0 N) (N : Nat) (safeD (keepD (crashL keep R ((keysF R.files).take k)).1 s N) s).used
  rw [hl, ← hfl] at hat
  refine ⟨⟨?_, ((h.kp.trans hx (fun _ _ e => e.elim)).setC _ _ (fun _ => hFr)).setC _ _ (fun _ => hFr), ?_, hwf⟩, by rw [hn]⟩
  · rw [hn]
    exact hat
  · rw [hn, hfl, keys_aput (by rw [hf.has]; rfl)]
    exact h.keys
set_option maxRecDepth 100000 in
set_option maxHeartbeats 4000000 in
theorem rcrash_any {w : World} {F : Nat → Prop} {b : Nat} {R : DiskC} (h : RSt w F b R) (wf : WfD R) (hl : R.files.length ≤ 1000) (keep : List Int) (a : Option Addr) (c : Nat) (hI : Ints w (fun k => ¬ F k) a keep) :
    Calls Try.prog 39 #[.pointer (some ⟨b, 0, none⟩), .slice a keep.length c] w fun e w' => e = .returned (.int .i64 ((crashL keep R (keysF R.files)).2 : Nat)) ∧ RPost w F b (upD (crashL keep R (keysF R.files)).1) w' := by
  obtain ⟨v, h⟩ := h
  have HH := Lib.hid h
  have HW := Lib.hid wf
  have HI := Lib.hid hI
  have HKL := Lib.hid hI.len
  have hb := block_lt h.blk
  have hx : w.cell? ⟨b, 1, none⟩ = some v := block_cell h.blk 1
  rcases h.form with ⟨hnil, rfl⟩ | ⟨r, cap, rfl, hrb, hrl, hcap, hFr⟩
  · have HZ : Hid ((crashL keep R (keysF R.files)).2 = 0 ∧ (crashL keep R (keysF R.files)).1 = R) := by show _ ∧ _; rw [hnil]; exact ⟨rfl, rfl⟩
    have hfr := block_free h.blk 2
    have c2 : w.cell? ⟨b, 2, none⟩ = some (.int .i64 R.fuse) := block_cell h.blk 2
    have HP : Hid (RPost w F b (upD R) (w.setCell ⟨b, 2, none⟩ (.int .i64 (-1)))) := ⟨F, ⟨_, h.head (R' := upD R) ((Keeps.refl (fun k => k = b) w).setC 2 _ (fun _ => rfl)) (setCell_block h.blk 2 _) rfl⟩, fun k e => .inl e, (Keeps.refl F w).setC 2 _ (fun _ => h.fb)⟩
    rw [HZ.out.1, HZ.out.2]
    clear h hnil wf hI
    go_enter Try.func39, Try.ntmps39
    go_wp2
    refine wp_loop_once ?_
    go_wp2
    go_ret
    exact ⟨rfl, HP.out⟩
  · have HR0 : Hid (RCr w F b R keep r cap 0 w) := ⟨h, Keeps.refl _ _, rfl, wf⟩
    have hk0 : keep.length ≤ 9223372036854775807 := by have := hI.len; unfold maxLen at this; omega
    clear h hx hb hrl wf hI
    go_enter Try.func39, Try.ntmps39
    go_wp2
    go_loopw [5, 6] (fun n i wr => ∃ k : Nat, i = .int .i64 k ∧ k ≤ R.files.length ∧ n = .int .i64 ((crashL keep R ((keysF R.files).take k)).2 : Nat) ∧ RCr w F b R keep r cap k wr) (fun _ i _ => R.files.length - (intOf i).toNat)
    case atStart => exact ⟨0, rfl, by omega, rfl, HR0.out⟩
    case round =>
      obtain ⟨k, rfl, hk, rfl, hr⟩ := hrel
      have HR := Lib.hid hr
      have hx : wr.cell? ⟨b, 1, none⟩ = some (.slice (some ⟨r, 0, none⟩) R.files.length cap) := block_cell hr.at_.blk 1
      have hb := block_lt hr.at_.blk
      have HC : Hid ((crashL keep R ((keysF R.files).take k)).2 ≤ k) := by
        show _ ≤ _
        have := crashL_n keep ((keysF R.files).take k) (R, 0)
        simp only [List.length_take] at this
        unfold crashL
        omega
      by_cases hkl : k < R.files.length
      · obtain ⟨s, x, hf⟩ := hr.fil hkl
        have HF := Lib.hid hf
        have i0 : (0 : Int) ≤ k := by omega
        have i1 : (k : Int) < R.files.length := by omega
        have c0 := hf.c0
        have c1 := hf.c1
        have c2 := hf.c2
        have hrl := World.block_lt_of_cell? _ _ c0
        have hrow := hr.at_.row
        rw [hr.len] at hrow
        have fr1 := hrow.frozenAt (k * 3 + 1)
        have fr2 := hrow.frozenAt (k * 3 + 2)
        clear hrow
        have hsf := hr.wf.safe s x hf.has
        have hsz := hr.wf.size hf.has
        generalize hcn : (crashL keep R ((keysF R.files).take k)).2 = cn at HC ⊢
        have HCN := Lib.hid hcn
        have HKL2 := Lib.hid hkl
        clear hcn hf hr
        by_cases hs : x.safe = x.bytes.size
        · have HSK := Lib.hid (HR.out.skip HKL2.out HF.out hs)
          rw [hs] at c2
          clear hsf
          go_wp2
          go_roundw
          case rel => exact ⟨k + 1, by go_num, HKL2.out, by rw [HSK.out.2, HCN.out], HSK.out.1.same ((Keeps.refl _ _).alloc _)⟩
          case measure => have := HKL2.out; simp [intOf]; omega
        · obtain ⟨bs, sf⟩ := x
          obtain ⟨m, rfl⟩ : ∃ m : Nat, sf = m := ⟨sf.toNat, by have := hsf.1; show sf = _; simp only at this; omega⟩
          simp only at hs hsf hsz c1 c2
          have HS := Lib.hid hs
          have hmle : m < bs.size := by omega
          have HST : Hid (∀ (N : Nat) (wx : World), K0 wr wx → N = m + kOf keep cn ⟨bs, m⟩ → RCr w F b R keep r cap (k + 1) ((wx.setCell ⟨r, k * 3 + 1, none⟩ (.string (bs.extract 0 N))).setCell ⟨r, k * 3 + 2, none⟩ (.int .i64 (N : Nat))) ∧ (crashL keep R ((keysF R.files).take (k + 1))).2 = cn + 1) := by
            show ∀ _ _, _ → _ → _
            intro N wx hkx hN
            have := HR.out.step hFr HKL2.out HF.out HS.out (N := N) (by rw [HCN.out]; simpa using hN) hkx
            rw [HCN.out] at this
            exact this
          have hs1 : ((bs.size : Int) == m) = false := by simp; omega
          have hmx : cn ≤ 1000 := by have := HC.out; omega
          clear hs hsf
          by_cases hcl : cn < keep.length
          · obtain ⟨kb, koff, rfl, hkb1, hkb2, hkc⟩ := HI.out.row (by intro e; rw [e] at hcl; exact absurd hcl (Nat.not_lt_zero _))
            have hq := HR.out.kp.cell' (hkc cn hcl).1 hkb2
            have hvr := (hkc cn hcl).2
            have hkb3 : kb < wr.heap.size := Nat.lt_of_lt_of_le hkb1 HR.out.kp.size
            have hgv : keep[cn]? = some keep[cn] := List.getElem?_eq_getElem hcl
            generalize hvv : keep[cn] = v at hq hvr hgv
            have HGV := Lib.hid hgv
            clear hkc hkb2 hvv hgv
            obtain ⟨K, hKe⟩ : ∃ K : Nat, min (max v 0) ((bs.size : Int) - m) = (K : Nat) := ⟨(min (max v 0) (bs.size - m) : Int).toNat, by omega⟩
            have hKm : m + K ≤ bs.size := by omega
            have HNE : Hid (m + K = m + kOf keep cn ⟨bs, m⟩) := by show _ = _; unfold kOf; rw [HGV.out]; simp only; omega
            have HKE := Lib.hid hKe
            clear hKe
            have j0 : (0 : Int) ≤ cn := by omega
            have j1 : (cn : Int) < keep.length := by omega
            go_wp2
            go_quiet (fail)
            rw [HKE.out]
            go_wp2
            go_region
            go_wp2
            go_region
            have hst := HST.out (m + K) ((wr.alloc (.cells #[.string s, .string bs, .int .i64 m] 76)).drewN (nq + 1)) (((Keeps.refl _ _).alloc _).drewN _) HNE.out
            rw [show ((m + K : Nat) : Int) = (m : Int) + K by omega] at hst
            have HSX := Lib.hid hst
            clear hst
            go_wp2
            go_roundw
            case rel => exact ⟨k + 1, by go_num, HKL2.out, by rw [HSX.out.2]; go_num, HSX.out.1.same (Keeps.refl _ _).drew⟩
            case measure => have := HKL2.out; simp [intOf]; omega
          · have HNE : Hid (m = m + kOf keep cn ⟨bs, m⟩) := by show _ = _; unfold kOf; rw [List.getElem?_eq_none (by omega)]; simp
            have j0 : (0 : Int) ≤ cn := by omega
            have j1 : ¬ (cn : Int) < keep.length := by omega
            go_wp2
            go_region
            go_wp2
            go_region
            have hst := HST.out m wr (Keeps.refl _ _) HNE.out
            have HSX := Lib.hid hst
            clear hst
            go_wp2
            go_roundw
            case rel => exact ⟨k + 1, by go_num, HKL2.out, by rw [HSX.out.2]; go_num, HSX.out.1.same (((Keeps.refl _ _).alloc _).drew.drew)⟩
            case measure => have := HKL2.out; simp [intOf]; omega
      · obtain rfl : k = R.files.length := by omega
        have f2 := block_free hr.at_.blk 2
        have e2 := block_cell hr.at_.blk 2
        have htk : (keysF R.files).take R.files.length = keysF R.files := by rw [← keysF_len, List.take_length]
        have HPO : Hid (RPost w F b (upD (crashL keep R (keysF R.files)).1) (wr.setCell ⟨b, 2, none⟩ (.int .i64 (-1)))) := by
          have h1 := hr.at_
          rw [htk] at h1
          exact ⟨F, ⟨_, h1.head (R' := upD (crashL keep R (keysF R.files)).1) ((Keeps.refl (fun k => k = b) wr).setC 2 _ (fun _ => rfl)) (setCell_block h1.blk 2 _) rfl⟩, fun k e => .inl e, hr.kp.setC 2 _ (fun _ => h1.fb)⟩
        rw [htk]
        generalize hcn : (crashL keep R (keysF R.files)).2 = cn
        have HCN := Lib.hid hcn
        clear hr htk hcn
        have i1 : ¬ (R.files.length : Int) < R.files.length := by omega
        go_wp2
        go_ret
        exact ⟨by rw [HCN.out]; rfl, HPO.out⟩
end
end Go.Proofs.Ytjfblcmpdcbpgaa
