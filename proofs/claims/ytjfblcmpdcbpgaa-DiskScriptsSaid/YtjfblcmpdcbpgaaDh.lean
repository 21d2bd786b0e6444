/-
  A disk's Crash, walked.
-/
import Derived.Test.YtjfblcmpdcbpgaaDg
import Derived.Test.YtjfblcmpdcbpgaaSn
namespace Go.Proofs.Ytjfblcmpdcbpgaa
open Go.RowKit Fx

/-- A row of whole numbers out of a block of G. -/
structure Ints (w : World) (G : Nat → Prop) (a : Option Addr) (l : List Int) : Prop where
  len : l.length ≤ maxLen
  row : l ≠ [] → ∃ b off, a = some ⟨b, off, none⟩ ∧ b < w.heap.size ∧ G b ∧ ∀ i (h : i < l.length), w.cell? ⟨b, off + i, none⟩ = some (.int .i64 l[i]) ∧ -9223372036854775808 ≤ l[i] ∧ l[i] ≤ 9223372036854775807
theorem Ints.keep {w w' : World} {G G' S : Nat → Prop} {a : Option Addr} {l : List Int} (h : Ints w G a l) (hk : Keeps S w w') (hS : ∀ k, k < w.heap.size → G k → ¬ S k) (hG : ∀ k, k < w.heap.size → G k → G' k) : Ints w' G' a l :=
  ⟨h.len, fun hne => by
    obtain ⟨b, off, rfl, h1, h2, h3⟩ := h.row hne
    exact ⟨b, off, rfl, Nat.lt_of_lt_of_le h1 hk.size, hG b h1 h2, fun i hi => ⟨hk.cell' (h3 i hi).1 (hS b h1 h2), (h3 i hi).2⟩⟩⟩
theorem Ints.nil (w : World) (G : Nat → Prop) (a : Option Addr) : Ints w G a [] := ⟨Nat.zero_le _, fun h => absurd rfl h⟩
theorem own_keep {w w' : World} {S : Nat → Prop} (hk : Keeps S w w') {base : Nat} {e : TypeId} {size : Nat} {v : Value} {n : Nat} {xs : List Value} (h : w.ownsRow base e size v n xs) (hS : ∀ k, base ≤ k → ¬ S k) : w'.ownsRow base e size v n xs := by
  refine ⟨h.1, h.2.elim .inl fun ⟨g, cap, cur, h1, h2, h3⟩ => .inr ⟨g, cap, cur, h1, h2, ?_⟩⟩
  have hlt : g < w.heap.size := (h.lt g (by rw [h1]; rfl)).2
  rw [hk.block g hlt (hS g h2)]
  exact h3
section
variable {w0 w : World} {db mb : Nat} {D : DiskC} {L : List (ByteArray × (Nat × FileC))}
theorem safe_cell (h : DAt w0 w db D mb L) {s : ByteArray} {b : Nat} {x : FileC} (e : aget L s = some (b, x)) :
    DAt w0 (w.setCell ⟨b, 1, none⟩ (.int .i64 x.bytes.size)) db (safeD D s) mb (aput L s (b, ⟨x.bytes, x.bytes.size⟩)) ∧ Keeps (fun k => k = b) w (w.setCell ⟨b, 1, none⟩ (.int .i64 x.bytes.size)) := by
  have hne : b ≠ db := h.fne e
  have ho : oldF D s = x := by simp [oldF, h.agetL, e]
  have k2 : Keeps (fun k => k = b) w (w.setCell ⟨b, 1, none⟩ (.int .i64 x.bytes.size)) := (Keeps.refl (fun k => k = b) w).setC 1 _ (fun _ => rfl)
  unfold safeD
  rw [ho]
  exact ⟨h.set e (x' := ⟨x.bytes, x.bytes.size⟩) (k2.mono fun _ _ e => .inl e) ((k2.block db (block_lt h.blk) (fun e => hne e.symm)).trans h.blk) (setCell_block (h.fil s _ e) 1 _), k2⟩
theorem DAt.small (h : DAt w0 w db D mb L) (wf : WfD D) : ∀ p ∈ avals fptr L, p.1.size ≤ 100000 := fun p hp => by
  obtain ⟨q, hq, rfl⟩ := List.mem_map.1 hp
  have h1 : aget L q.1 = Option.some q.2 := aget_of_mem h.keys hq
  have h2 := wf.names q.1 q.2.2 (by rw [h.agetL, h1]; rfl)
  show q.1.size ≤ _
  omega
/-- The blocks of a disk. -/
def ofD (db : Nat) (L : List (ByteArray × (Nat × FileC))) (k : Nat) : Prop := k = db ∨ ∃ s p, aget L s = some p ∧ p.1 = k
def CRel (w0 w : World) (db mb : Nat) (D : DiskC) (L : List (ByteArray × (Nat × FileC))) (keep : List Int) (ss : List ByteArray) (base : Nat) (v : Value) (k : Nat) (wr : World) : Prop :=
  ∃ L', DAt w0 wr db (crashL keep D (ss.take k)).1 mb L' ∧ (∀ s p, aget L' s = some p → ∃ q, aget L s = some q ∧ q.1 = p.1) ∧ Keeps (ofD db L) w wr ∧ wr.ownsRow base 9 1 v ss.length (ss.map .string)
theorem CRel.same {keep : List Int} {ss : List ByteArray} {base : Nat} {v : Value} {k : Nat} {wr wr' : World} (h : CRel w0 w db mb D L keep ss base v k wr) (hk : K0 wr wr') : CRel w0 w db mb D L keep ss base v k wr' := by
  obtain ⟨L', h1, h2, h3, h4⟩ := h
  exact ⟨L', h1.keep hk, h2, h3.trans hk (fun _ _ e => e.elim), own_keep hk h4 (fun _ _ e => e)⟩
theorem ofD_lt (h : DAt w0 w db D mb L) {k : Nat} (e : ofD db L k) : k < w.heap.size := by
  rcases e with rfl | ⟨s, p, h1, rfl⟩
  · exact block_lt h.blk
  · exact block_lt (h.fil s p h1)
/-- One file kept and safe. -/
theorem CRel.step {keep : List Int} {ss : List ByteArray} {base : Nat} {v : Value} {k : Nat} {wr w5 : World} {L' : List (ByteArray × (Nat × FileC))} {b N : Nat} {x : FileC} (hkl : k < ss.length)
    (hin : ∀ s p, aget L' s = some p → ∃ q, aget L s = some q ∧ q.1 = p.1) (h3 : Keeps (ofD db L) w wr) (h4 : wr.ownsRow base 9 1 v ss.length (ss.map .string)) (hbase : ∀ q, ofD db L q → q < base)
    (hb : aget L' ss[k] = some (b, x)) (hp : DAt w0 w5 db (keepD (crashL keep D (ss.take k)).1 ss[k] N) mb (aput L' ss[k] (b, keepF x N))) (hk5 : Keeps (fun q => q = b ∨ q = db) wr w5)
    (hx : oldF (crashL keep D (ss.take k)).1 ss[k] = x) (hs : ¬ x.safe = x.bytes.size) (hN : N = x.safe.toNat + kOf keep (crashL keep D (ss.take k)).2 x) :
    CRel w0 w db mb D L keep ss base v (k + 1) (w5.setCell ⟨b, 1, none⟩ (.int .i64 (keepF x N).bytes.size)) ∧ (crashL keep D (ss.take (k + 1))).2 = (crashL keep D (ss.take k)).2 + 1 := by
  obtain ⟨q1, q2⟩ := safe_cell hp (s := ss[k]) (b := b) (x := keepF x N) (by rw [aget_aput, if_pos rfl])
  have hS : ∀ q, (q = b ∨ q = db) → ofD db L q := fun q e => e.elim (fun e => by
    obtain ⟨y, h5, h6⟩ := hin _ _ hb
    exact .inr ⟨_, y, h5, by rw [h6, e]⟩) .inl
  have hn : crashL keep D (ss.take (k + 1)) = (safeD (keepD (crashL keep D (ss.take k)).1 ss[k] N) ss[k], (crashL keep D (ss.take k)).2 + 1) := by
    rw [crashL_next keep D ss hkl]
    unfold crashS
    rw [hx, if_neg hs, ← hN]
  have hkk : Keeps (fun q => q = b ∨ q = db) wr (w5.setCell ⟨b, 1, none⟩ (.int .i64 (keepF x N).bytes.size)) := hk5.trans q2 (fun _ _ e => .inl e)
  refine ⟨⟨_, by rw [hn]; exact q1, fun s p e => ?_, h3.trans hkk (fun q _ e => hS q e), own_keep hkk h4 (fun q hq e => by have := hbase q (hS q e); omega)⟩, by rw [hn]⟩
  rw [aget_aput] at e
  split at e
  · rename_i h7
    cases e
    obtain ⟨y, h5, h6⟩ := hin _ _ hb
    exact ⟨y, by rw [← h7]; exact h5, h6⟩
  · rw [aget_aput] at e
    split at e
    · rename_i h7 h8; exact absurd h8 h7
    · exact hin s p e
theorem CRel.skip {keep : List Int} {ss : List ByteArray} {base : Nat} {v : Value} {k : Nat} {wr : World} (hkl : k < ss.length) (h : CRel w0 w db mb D L keep ss base v k wr) {x : FileC} (hx : oldF (crashL keep D (ss.take k)).1 ss[k] = x) (hs : x.safe = x.bytes.size) :
    CRel w0 w db mb D L keep ss base v (k + 1) wr ∧ (crashL keep D (ss.take (k + 1))).2 = (crashL keep D (ss.take k)).2 := by
  have hn : crashL keep D (ss.take (k + 1)) = crashL keep D (ss.take k) := by
    rw [crashL_next keep D ss hkl]
    unfold crashS
    rw [hx, if_pos hs]
  unfold CRel
  rw [hn]
  exact ⟨h, rfl⟩
theorem up_cell (h : DAt w0 w db D mb L) : DAt w0 (w.setCell ⟨db, 2, none⟩ (.int .i64 (-1))) db (upD D) mb L :=
  h.own ((Keeps.refl (fun k => k = db) w).setC 2 _ (fun _ => rfl)) (setCell_block h.blk 2 _)
set_option maxRecDepth 100000 in
set_option maxHeartbeats 4000000 in
theorem crash_at (h : DAt w0 w db D mb L) (wf : WfD D) (keep : List Int) (a : Option Addr) (cap : Nat) (hI : Ints w (fun k => ¬ ofD db L k) a keep) (hl : D.files.length ≤ 1000) :
    Calls Try.prog 13 #[.pointer (some ⟨db, 0, none⟩), .slice a keep.length cap] w fun e w' => ∃ names, names.Perm (D.files.map (·.1)) ∧ e = .returned (.int .i64 (crashL keep D names).2) ∧ DSt w0 w' db (upD (crashL keep D names).1) := by
  have c3 : w.cell? ⟨db, 3, none⟩ = some (.map (some mb)) := block_cell h.blk 3
  have hlt := block_lt h.blk
  have hLl : L.length = D.files.length := by rw [← h.core]; simp [amap]
  have HSR := Lib.hid (sorted_any h.map (h.small wf) (by simp [avals]; omega))
  have HKS := Lib.hid (keys_any (some mb) w)
  have HH := Lib.hid h
  have HI := Lib.hid hI
  have HW := Lib.hid wf
  have HKL := Lib.hid hI.len
  have HL := Lib.hid hl
  have hka : (avals fptr L).map (·.1) = D.files.map (·.1) := by rw [← h.core, amap_keys]; simp [avals, Function.comp_def]
  have HKA := Lib.hid hka
  have HBASE : Hid (∀ q, ofD db L q → q < w.heap.size + 1) := fun q e => Nat.lt_succ_of_lt (ofD_lt h e)
  have hmem : Hid (∀ (ss : List ByteArray), ss.Perm (D.files.map (·.1)) → ∀ s ∈ ss, (aget D.files s).isSome = true) := by
    show ∀ ss : List ByteArray, _ → _
    intro ss hp s hs
    have := hp.mem_iff.1 hs
    obtain ⟨q, hq, rfl⟩ := List.mem_map.1 this
    rw [aget_of_mem wf.keys hq]
    rfl
  clear h wf hI hl hLl hka
  go_enter Try.func13, Try.ntmps13
  go_wp2_with fail
  refine HKS.out.mono ?_
  rintro e w1 ⟨rfl, rfl⟩
  go_wp2_with fail
  refine HSR.out.mono ?_
  rintro e w1 ⟨v, ss, rfl, hN, k1⟩
  have hpm : ss.Perm (D.files.map (·.1)) := by rw [← HKA.out]; exact hN.perm
  have HPM := Lib.hid hpm
  have HIN := Lib.hid (hmem.out ss hpm)
  have hrow := hN.row
  have HN := Lib.hid hN
  have K1 := Lib.hid (K0.tr ((Keeps.refl (fun _ => False) w).alloc _) k1)
  obtain ⟨a0, c0, rfl⟩ : ∃ a0 c0, v = .slice a0 ss.length c0 := by
    rcases hrow.2 with ⟨h1, h2⟩ | ⟨r, cp, cur, h1, _⟩
    · rw [h1, h2]; exact ⟨_, _, rfl⟩
    · exact ⟨_, _, h1⟩
  have HR0 : Hid (CRel w0 w db mb D L keep ss (w.heap.size + 1) (.slice a0 ss.length c0) 0 w1) := by
    show CRel _ _ _ _ _ _ _ _ _ _ _ _
    refine ⟨L, ?_, fun s p e => ⟨p, e, rfl⟩, K1.out.mono (fun _ _ e => e.elim), hrow⟩
    show DAt w0 w1 db D mb L
    exact HH.out.keep K1.out
  have hsl : ss.length ≤ 1000 := by have := hpm.length_eq; have := HL.out; simp at *; omega
  clear hN hrow k1 hpm c3 hlt
  go_wp2
  go_loopw [5, 19] (fun n i wr => ∃ k : Nat, i = .int .i64 k ∧ k ≤ ss.length ∧ n = .int .i64 (crashL keep D (ss.take k)).2 ∧ CRel w0 w db mb D L keep ss (w.heap.size + 1) (.slice a0 ss.length c0) k wr) (fun _ i _ => ss.length - (intOf i).toNat)
  case atStart => exact ⟨0, rfl, Nat.zero_le _, rfl, HR0.out⟩
  case round =>
    obtain ⟨k, rfl, hk, rfl, hr⟩ := hrel
    by_cases hkl : k < ss.length
    · have HR := Lib.hid hr
      obtain ⟨L', hd, hin, h3, h4⟩ := hr
      have hwf := (crashL_ok (keep := keep) HW.out HIN.out k hk)
      obtain ⟨x, hx⟩ := Option.isSome_iff_exists.1 ((hwf.2 ss[k]).trans (HIN.out ss[k] (List.getElem_mem _)))
      have ho : oldF (crashL keep D (ss.take k)).1 ss[k] = x := by simp [oldF, hx]
      obtain ⟨b, hb⟩ := hd.some hx
      have hsf := hwf.1.safe _ _ hx
      have hsz := hwf.1.size hx
      obtain ⟨g, rfl⟩ : ∃ g, a0 = some ⟨g, 0, none⟩ := by
        rcases h4.2 with ⟨_, h2⟩ | ⟨r, cp, cur, h1, _⟩
        · omega
        · simp only [Value.slice.injEq] at h1
          exact ⟨r, h1.1⟩
      have hc : wr.cell? ⟨g, k, none⟩ = some (.string ss[k]) := by
        rw [h4.cellAt k (by omega), List.getElem?_map, List.getElem?_eq_getElem hkl]
        rfl
      have d3 : wr.cell? ⟨db, 3, none⟩ = some (.map (some mb)) := block_cell hd.blk 3
      have hlt := block_lt hd.blk
      have hltg := (h4.lt g rfl).2
      have hm := Lib.hid hd.map
      have HV : Hid (aget (avals fptr L') ss[k] = some (.pointer (some ⟨b, 0, none⟩))) := by show _ = _; rw [aget_avals, hb]; rfl
      have hf := hd.fil _ _ hb
      have e0 : wr.cell? ⟨b, 0, none⟩ = some (.string x.bytes) := block_cell hf 0
      have e1 : wr.cell? ⟨b, 1, none⟩ = some (.int .i64 x.safe) := block_cell hf 1
      have hltb := block_lt hf
      have HD := Lib.hid hd
      have HINL := Lib.hid hin
      have HB := Lib.hid hb
      have H3 := Lib.hid h3
      have H4 := Lib.hid h4
      have HO := Lib.hid ho
      have HWF := Lib.hid hwf.1
      have HXX := Lib.hid hx
      have HC : Hid ((crashL keep D (ss.take k)).2 ≤ k) := by
        show _ ≤ _
        have := crashL_n keep (ss.take k) (D, 0)
        simp only [List.length_take] at this
        unfold crashL
        omega
      generalize hcn : (crashL keep D (ss.take k)).2 = cn at HC ⊢
      have HCN := Lib.hid hcn
      clear hd hin h3 h4 hf hx hwf ho hb hcn
      by_cases hs : x.safe = x.bytes.size
      · have HSK := Lib.hid (CRel.skip hkl HR.out HO.out hs)
        rw [hs] at e1
        clear hsf
        go_wp2_with (at_lookup; refine wpList_look (strKey Try.underlying9) rfl rfl Try.underlying57 zeroFile rfl _ rfl hm.out _ HV.out ?_)
        go_quiet (fail)
        go_wp2
        go_roundw
        case rel => exact ⟨k + 1, by go_num, by omega, by rw [HSK.out.2, HCN.out], HSK.out.1.same ((Keeps.refl _ _).drewN _)⟩
        case measure => simp [intOf]; omega
      · obtain ⟨bs, sf⟩ := x
        obtain ⟨m, rfl⟩ : ∃ m : Nat, sf = m := ⟨sf.toNat, by have := hsf.1; show sf = _; simp only at this; omega⟩
        simp only at hs hsf hsz e0 e1
        have HS := Lib.hid hs
        have hmle : m < bs.size := by omega
        have HKP : Hid (∀ N wx, N ≤ bs.size → K0 wr wx → Calls Try.prog 32 #[.pointer (some ⟨db, 0, none⟩), .pointer (some ⟨b, 0, none⟩), .int .i64 (N : Nat)] wx fun e w' => KeepPost w0 db (crashL keep D (ss.take k)).1 mb L' ss[k] b ⟨bs, m⟩ N wx e w') :=
          fun N wx hN hkx => keep_at (HD.out.keep hkx) HWF.out HB.out hN
        have HST : Hid (∀ N w5 wx, K0 wr wx → DAt w0 w5 db (keepD (crashL keep D (ss.take k)).1 ss[k] N) mb (aput L' ss[k] (b, keepF ⟨bs, m⟩ N)) → Keeps (fun q => q = b ∨ q = db) wx w5 → N = m + kOf keep cn ⟨bs, m⟩ →
            CRel w0 w db mb D L keep ss (w.heap.size + 1) (.slice (some ⟨g, 0, none⟩) ss.length c0) (k + 1) (w5.setCell ⟨b, 1, none⟩ (.int .i64 (keepF ⟨bs, m⟩ N).bytes.size)) ∧ (crashL keep D (ss.take (k + 1))).2 = cn + 1) := by
          show ∀ N w5 wx, _ → _ → _ → _ → _
          intro N w5 wx hkx hp hk5 hN
          rw [← HCN.out]
          exact CRel.step hkl HINL.out H3.out H4.out HBASE.out HB.out hp (by have := (hkx.mono (S1 := fun q => q = b ∨ q = db) (fun _ _ e => e.elim)).trans hk5 (fun _ _ e => e); exact this) HO.out HS.out (by rw [hN, HCN.out]; rfl)
        have HKO := Lib.hid (rfl : kOf keep cn ⟨bs, m⟩ = kOf keep cn ⟨bs, m⟩)
        clear hm HR
        have hs' : ¬ (m : Int) = bs.size := hs
        clear hs hsf
        have hmx : cn ≤ 1000 := by have := HC.out; omega
        by_cases hcl : cn < keep.length
        · obtain ⟨kb, koff, rfl, hkb1, hkb2, hkc⟩ := HI.out.row (by intro e; rw [e] at hcl; exact absurd hcl (Nat.not_lt_zero _))
          have hq := H3.out.cell' (hkc cn hcl).1 hkb2
          have hvr := (hkc cn hcl).2
          have hkb3 : kb < wr.heap.size := Nat.lt_of_lt_of_le hkb1 H3.out.size
          have hkl2 := HKL.out
          have hgv : keep[cn]? = some keep[cn] := List.getElem?_eq_getElem hcl
          generalize hvv : keep[cn] = v at hq hvr hgv
          have HGV := Lib.hid hgv
          have hkl3 : keep.length ≤ 9223372036854775807 := by unfold maxLen at hkl2; omega
          clear hkc hkb2 hvv hgv HKL hkl2
          obtain ⟨N, hNe⟩ : ∃ N : Nat, (N : Int) = m + min (max v 0) (bs.size - m) := ⟨(m + min (max v 0) (bs.size - m) : Int).toNat, by omega⟩
          have HNL : Hid (N ≤ bs.size) := by show _ ≤ _; omega
          have HNE : Hid (N = m + kOf keep cn ⟨bs, m⟩) := by show _ = _; unfold kOf; rw [HGV.out]; simp only; omega
          have HKX : Hid (∀ wx, K0 wr wx → Calls Try.prog 32 #[.pointer (some ⟨db, 0, none⟩), .pointer (some ⟨b, 0, none⟩), .int .i64 (m + min (max v 0) (bs.size - m))] wx fun e w' => KeepPost w0 db (crashL keep D (ss.take k)).1 mb L' ss[k] b ⟨bs, m⟩ N wx e w') := by
            show ∀ wx, _ → _
            intro wx hkx
            have := HKP.out N wx HNL.out hkx
            rw [hNe] at this
            exact this
          clear hNe
          go_wp2_with (at_lookup; refine wpList_look (strKey Try.underlying9) rfl rfl Try.underlying57 zeroFile rfl _ rfl HD.out.map _ HV.out ?_)
          go_quiet (fail)
          go_wp2
          go_quiet (fail)
          go_wp2_with fail
          refine (HKX.out _ ((Keeps.refl _ _).drewN _)).mono ?_
          rintro e w5 ⟨rfl, hp, hk5⟩
          have hst := HST.out N w5 _ ((Keeps.refl _ _).drewN _) hp hk5 HNE.out
          have hfy := hp.fil ss[k] (b, keepF ⟨bs, m⟩ N) (by rw [aget_aput, if_pos rfl])
          generalize hy : keepF ⟨bs, (m : Int)⟩ N = y at hst hfy
          have y0 : w5.cell? ⟨b, 0, none⟩ = some (.string y.bytes) := block_cell hfy 0
          have y1 : w5.cell? ⟨b, 1, none⟩ = some (.int .i64 y.safe) := block_cell hfy 1
          have y2 := block_free hfy 1
          have hlt5 := block_lt hfy
          have HSX := Lib.hid hst
          clear hp hk5 hst hfy hy
          go_wp2
          go_roundw
          case rel => exact ⟨k + 1, by go_num, by omega, by rw [HSX.out.2]; go_num, HSX.out.1⟩
          case measure => simp [intOf]; omega
        · have HNL : Hid (m ≤ bs.size) := by show _ ≤ _; omega
          have HNE : Hid (m = m + kOf keep cn ⟨bs, m⟩) := by show _ = _; unfold kOf; rw [List.getElem?_eq_none (by omega)]; simp
          go_wp2_with (at_lookup; refine wpList_look (strKey Try.underlying9) rfl rfl Try.underlying57 zeroFile rfl _ rfl HD.out.map _ HV.out ?_)
          go_quiet (fail)
          go_wp2_with fail
          refine (HKP.out m _ HNL.out ((Keeps.refl _ _).drewN _)).mono ?_
          rintro e w5 ⟨rfl, hp, hk5⟩
          have hst := HST.out m w5 _ ((Keeps.refl _ _).drewN _) hp hk5 HNE.out
          have hfy := hp.fil ss[k] (b, keepF ⟨bs, m⟩ m) (by rw [aget_aput, if_pos rfl])
          generalize hy : keepF ⟨bs, (m : Int)⟩ m = y at hst hfy
          have y0 : w5.cell? ⟨b, 0, none⟩ = some (.string y.bytes) := block_cell hfy 0
          have y1 : w5.cell? ⟨b, 1, none⟩ = some (.int .i64 y.safe) := block_cell hfy 1
          have y2 := block_free hfy 1
          have hlt5 := block_lt hfy
          have HSX := Lib.hid hst
          clear hp hk5 hst hfy hy
          go_wp2
          go_roundw
          case rel => exact ⟨k + 1, by go_num, by omega, by rw [HSX.out.2]; go_num, HSX.out.1⟩
          case measure => simp [intOf]; omega
    · obtain rfl : k = ss.length := by omega
      obtain ⟨L', hd, hin, h3, h4⟩ := hr
      have f2 := block_free hd.blk 2
      have e2 := block_cell hd.blk 2
      have hlt := block_lt hd.blk
      have HU := Lib.hid (up_cell hd)
      have htk : ss.take ss.length = ss := List.take_length
      rw [htk] at HU ⊢
      have HPM2 := HPM
      generalize hcn : (crashL keep D ss).2 = cn
      have HCN := Lib.hid hcn
      clear hd hin h3 h4 htk hcn
      go_wp2
      go_ret
      exact ⟨ss, HPM.out, by rw [HCN.out]; rfl, _, _, HU.out⟩
end
end Go.Proofs.Ytjfblcmpdcbpgaa
