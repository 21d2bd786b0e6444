/-
  The document's offsets: Commit.
-/
import Derived.Test.YtklhlffdpojkoaaGreatJ04
namespace Go.Proofs.YtklhlffdpojkoaaGreat
open Go.RowKit Fx

def aheadB (g t : ByteArray) (ix : Int) (g2 t2 : ByteArray) (i2 : Int) : Bool := if g = g2 then (if t = t2 then decide (ix < i2) else Op.bytesLess t.toList t2.toList) else Op.bytesLess g.toList g2.toList
set_option maxRecDepth 100000 in
set_option maxHeartbeats 4000000 in
theorem ahead_any (g t : ByteArray) (ix at_ : Int) (g2 t2 : ByteArray) (i2 : Int) (w : World) :
    Calls Tryz.prog 58 #[.agg #[.string g, .string t, .int .i64 ix, .int .i64 at_], .string g2, .agg #[.string t2, .int .i64 i2]] w fun e w' => e = .returned (.bool (aheadB g t ix g2 t2 i2)) ∧ K0 w w' := by
  by_cases h1 : g = g2
  · subst h1
    by_cases h2 : t = t2
    · subst h2
      have hb : aheadB g t ix g t i2 = decide (ix < i2) := by unfold aheadB; rw [if_pos rfl, if_pos rfl]
      rw [hb]
      clear hb
      go_enter Tryz.func58, Tryz.ntmps58
      go_wp2
      go_ret
      exact ⟨rfl, ((Keeps.refl _ _).alloc _).alloc _⟩
    · have e2 := str_ne h2
      have hb : aheadB g t ix g t2 i2 = Op.bytesLess t.toList t2.toList := by unfold aheadB; rw [if_pos rfl, if_neg h2]
      rw [hb]
      clear hb
      go_enter Tryz.func58, Tryz.ntmps58
      go_wp2
      go_ret
      exact ⟨rfl, ((Keeps.refl _ _).alloc _).alloc _⟩
  · have e1 := str_ne h1
    have hb : aheadB g t ix g2 t2 i2 = Op.bytesLess g.toList g2.toList := by unfold aheadB; rw [if_neg h1]
    rw [hb]
    clear hb
    go_enter Tryz.func58, Tryz.ntmps58
    go_wp2
    go_ret
    exact ⟨rfl, ((Keeps.refl _ _).alloc _).alloc _⟩
/-- What Commit leaves: some list with the same look-ups. -/
def RComP (w : World) (F : Nat → Prop) (b : Nat) (R : OffC) (k : OffK) (at_ : Int) (e : Ending) (w' : World) : Prop :=
  e = .returned (.int .i64 (commitE R k at_)) ∧ ∃ R', ROpost w F b R' w' ∧ R'.room = R.room ∧ KD R'.all ∧ (∀ u, aget R'.all u = aget (commitC R k at_).all u) ∧ R'.all.length = (commitC R k at_).all.length
theorem RComP.same {w w' : World} {F : Nat → Prop} {b : Nat} {R : OffC} {k : OffK} {at_ : Int} (h : ROst w F b R) (hd : KD R.all) (hk : K0 w w') {x : Int} (hx : commitE R k at_ = x) (h0 : x ≠ 0) : RComP w F b R k at_ (.returned (.int .i64 x)) w' := by
  have hc : commitC R k at_ = R := by unfold commitC; rw [hx, if_neg h0]
  refine ⟨by rw [hx], R, ROpost.same h hk, rfl, hd, fun u => by rw [hc], by rw [hc]⟩
theorem kd_perm {l1 l2 : List RowP} (hd : KD l1) (hp : l1.Perm l2) : KD l2 := by
  unfold KD at hd ⊢
  exact (hp.map (·.1)).nodup_iff.1 hd
theorem aget_permK {l1 l2 : List RowP} (hd : KD l1) (hp : l1.Perm l2) (u : OffK) : aget l2 u = aget l1 u := by
  have hd2 : KD l2 := kd_perm hd hp
  cases h : aget l1 u with
  | none =>
    refine aget_out fun hm => ?_
    obtain ⟨p, hq, e⟩ := List.mem_map.1 hm
    exact aget_none h p (hp.mem_iff.2 hq) e
  | some v => exact aget_of_mem hd2 (hp.mem_iff.1 (aget_in h))
theorem setK_aput {l : List RowP} (hd : KD l) (x : Int) : ∀ {i : Nat} (hi : i < l.length), l.set i (l[i].1, x) = aput l l[i].1 x := by
  induction l with
  | nil => intro i hi; exact absurd hi (Nat.not_lt_zero _)
  | cons p l ih =>
    intro i hi
    have hd2 : KD l := (List.nodup_cons.1 hd).2
    have hp := (List.nodup_cons.1 hd).1
    cases i with
    | zero => simp [aput]
    | succ i =>
      have hi' : i < l.length := by simpa using hi
      have hne : p.1 ≠ l[i].1 := fun e => hp (List.mem_map.2 ⟨l[i], List.getElem_mem hi', e.symm⟩)
      have := ih hd2 hi'
      simp only [List.set_cons_succ, List.getElem_cons_succ, aput, if_neg hne, this]
theorem flat_set4 (L : List RowP) (i : Nat) (hi : i < L.length) (x : Int) : (L.flatMap encR).set (i * 4 + 3) (.int .i64 x) = (L.set i (L[i].1, x)).flatMap encR := by
  induction L generalizing i with
  | nil => exact absurd hi (Nat.not_lt_zero _)
  | cons y L ih =>
    cases i with
    | zero => rfl
    | succ i =>
      have := ih i (by simpa using hi)
      rw [List.set_cons_succ, List.flatMap_cons, List.flatMap_cons, List.getElem_cons_succ, ← this]
      rw [show (i + 1) * 4 + 3 = i * 4 + 3 + 4 by omega]
      rfl
theorem put_perm {l : List RowP} {p : OffK} (h : aget l p = none) (x : Int) (k : Nat) : (aput l p x).Perm (l.take k ++ (p, x) :: l.drop k) := by
  rw [aput_new h]
  refine (List.perm_append_singleton (p, x) l).trans ?_
  refine List.Perm.trans ?_ List.perm_middle.symm
  rw [List.take_append_drop]
theorem RComP.put {w w' : World} {F : Nat → Prop} {b : Nat} {R : OffC} {k : OffK} {at_ : Int} {l : List RowP} (hd : KD R.all) (hx : commitE R k at_ = 0) (hp : (aput R.all k at_).Perm l) (h : ROpost w F b ⟨R.room, l⟩ w') : RComP w F b R k at_ (.returned (.int .i64 0)) w' := by
  have hc : commitC R k at_ = ⟨R.room, aput R.all k at_⟩ := by unfold commitC; rw [if_pos hx]
  have hd1 := hd.put k at_
  exact ⟨by rw [hx], _, h, rfl, kd_perm hd1 hp, fun u => by rw [hc]; exact aget_permK hd1 hp u, by rw [hc]; exact hp.length_eq.symm⟩
theorem ROat.stored {w w5 : World} {F : Nat → Prop} {b r cap i : Nat} {R : OffC} {x : Int} (h : ROat w F b R (.slice (some ⟨r, 0, none⟩) R.all.length cap)) (hi : i < R.all.length) (hk : K0 w w5) : ROpost w F b ⟨R.room, R.all.set i (R.all[i].1, x)⟩ (w5.setCell ⟨r, i * 4 + 3, none⟩ (.int .i64 x)) := by
  have hr := h.own r rfl
  have hk1 : Keeps (fun k => k = r) w (w5.setCell ⟨r, i * 4 + 3, none⟩ (.int .i64 x)) := (hk.mono (S1 := fun k => k = r) (fun _ _ e => e.elim)).setC _ _ (fun _ => rfl)
  have hrow := ((y_row_keep hk h.row (fun _ _ e => e)).stored (i * 4 + 3) (.int .i64 x)).1
  rw [flat_set4 R.all i hi x] at hrow
  have hrow' : World.ownsRow (w5.setCell ⟨r, i * 4 + 3, none⟩ (.int .i64 x)) 0 115 4 (.slice (some ⟨r, 0, none⟩) R.all.length cap) (R.all.set i (R.all[i].1, x)).length ((R.all.set i (R.all[i].1, x)).flatMap encR) := by
    rw [List.length_set]; exact hrow
  exact h.step (R' := ⟨R.room, R.all.set i (R.all[i].1, x)⟩) hk1 (fun k e => .inr (by rw [e]; rfl)) ((hk1.block _ (block_lt h.blk) (fun e => hr.2 e.symm)).trans h.blk) hrow' (fun k e => .inl e)
set_option maxRecDepth 100000 in
set_option maxHeartbeats 8000000 in
theorem rocommit_bad {w : World} {F : Nat → Prop} {b : Nat} {R : OffC} (g t : ByteArray) (ix at_ : Int) (h : ROst w F b R) (hd : KD R.all) (hg : g.size ≤ 9223372036854775807) (ht : t.size ≤ 9223372036854775807) (hm : ¬ (mayB ⟨g, t, ix⟩ = true ∧ inB at_ 0 = true)) :
    Calls Tryz.prog 32 #[.pointer (some ⟨b, 0, none⟩), .string g, .agg #[.string t, .int .i64 ix], .int .i64 at_] w (RComP w F b R ⟨g, t, ix⟩ at_) := by
  have HP : Hid (∀ wx, K0 w wx → RComP w F b R ⟨g, t, ix⟩ at_ (.returned (.int .i64 1)) wx) := fun wx hk => RComP.same h hd hk (by unfold commitE; rw [if_neg hm]) (by decide)
  have HKEY := Lib.hid (fun wx => keyR_any g t ix wx hg ht)
  cases hb : mayB ⟨g, t, ix⟩ with
  | false =>
    rw [hb] at HKEY
    clear h hd hm hb
    go_enter Tryz.func32, Tryz.ntmps32
    go_wp2_with fail
    refine (HKEY.out _).mono ?_
    rintro e w1 ⟨rfl, k1⟩
    have HK1 := Lib.hid (K0.tr ((Keeps.refl _ w).alloc _) k1)
    clear k1
    go_wp2
    go_ret
    exact HP.out _ HK1.out
  | true =>
    rw [hb] at HKEY
    have hi : ¬ inB at_ 0 = true := fun e => hm ⟨hb, e⟩
    unfold inB at hi
    have hi2 : at_ < 0 ∨ (¬ at_ < 0 ∧ 1099511627776 < at_) := by simp only [decide_eq_true_eq] at hi; omega
    clear h hd hm hb hi
    rcases hi2 with h1 | ⟨h1, h2⟩
    all_goals
      go_enter Tryz.func32, Tryz.ntmps32
      go_wp2_with fail
      refine (HKEY.out _).mono ?_
      rintro e w1 ⟨rfl, k1⟩
      have HK1 := Lib.hid (K0.tr ((Keeps.refl _ w).alloc _) k1)
      clear k1
      go_wp2
      go_ret
      exact HP.out _ HK1.out
set_option maxRecDepth 100000 in
set_option maxHeartbeats 8000000 in
theorem rocommit_there {w : World} {F : Nat → Prop} {b : Nat} {R : OffC} (g t : ByteArray) (ix at_ : Int) (h : ROst w F b R) (hd : KD R.all) (hg : g.size ≤ 9223372036854775807) (ht : t.size ≤ 9223372036854775807) (hm : mayB ⟨g, t, ix⟩ = true) (hi : inB at_ 0 = true) {y : Int} (ha : aget R.all ⟨g, t, ix⟩ = some y) :
    Calls Tryz.prog 32 #[.pointer (some ⟨b, 0, none⟩), .string g, .agg #[.string t, .int .i64 ix], .int .i64 at_] w (RComP w F b R ⟨g, t, ix⟩ at_) := by
  have HC0 : Hid (commitE R ⟨g, t, ix⟩ at_ = 0) := by show _ = _; unfold commitE; rw [if_pos ⟨hm, hi⟩, if_neg (by rw [ha]; simp)]
  have HKEY := Lib.hid (fun wx => keyR_any g t ix wx hg ht)
  rw [hm] at HKEY
  obtain ⟨v, h⟩ := h
  have HF := Lib.hid (fun (wx : World) (hk : K0 w wx) => rofind_any g t ix (h.keep hk (fun _ _ e => e)))
  have HH := Lib.hid h
  have HD := Lib.hid hd
  have HA := Lib.hid ha
  unfold inB at hi
  have h1 : ¬ at_ < 0 := by simp only [decide_eq_true_eq] at hi; omega
  have h2 : ¬ 1099511627776 < at_ := by simp only [decide_eq_true_eq] at hi; omega
  clear h hd ha hm hi
  go_enter Tryz.func32, Tryz.ntmps32
  go_wp2_with fail
  refine (HKEY.out _).mono ?_
  rintro e w1 ⟨rfl, k1⟩
  have bx := (k1.block w.heap.size (by simp) (fun e => e)).trans (heap_new _ _ _ rfl)
  have p0 : w1.cell? ⟨w.heap.size, 0, none⟩ = some (.string t) := block_cell bx 0
  have p1 : w1.cell? ⟨w.heap.size, 1, none⟩ = some (.int .i64 ix) := block_cell bx 1
  have pl := block_lt bx
  have HK1 := Lib.hid (K0.tr ((Keeps.refl _ w).alloc _) k1)
  clear k1 bx
  go_wp2_with fail
  refine (HF.out _ HK1.out).mono ?_
  rintro e w2 ⟨x, rfl, hk2, hf⟩
  have HK2 := Lib.hid (K0.tr HK1.out hk2)
  rcases hf with ⟨i, hi, rfl, he⟩ | ⟨rfl, hn⟩
  · have H2 := Lib.hid (HH.out.keep HK2.out (fun _ _ e => e))
    rcases H2.out.form with ⟨hnil, _⟩ | ⟨r, cap, rfl, hrb, hrl, hcap, _, hcm⟩
    · rw [hnil] at hi; exact absurd hi (Nat.not_lt_zero _)
    have c3 := (H2.out.cell rfl i hi).2.2.2
    have x1 : w2.cell? ⟨b, 1, none⟩ = some (.slice (some ⟨r, 0, none⟩) R.all.length cap) := block_cell H2.out.blk 1
    have xl := block_lt H2.out.blk
    have i0 : (0 : Int) ≤ i := by omega
    have i1 : (i : Int) < R.all.length := by omega
    have i2 : ¬ (i : Int) < 0 := by omega
    have HFIN : Hid (∀ w5, K0 w w5 → RComP w F b R ⟨g, t, ix⟩ at_ (.returned (.int .i64 0)) (w5.setCell ⟨r, i * 4 + 3, none⟩ (.int .i64 at_))) := fun w5 hk => by
      have h9 := HH.out.stored (x := at_) hi hk
      rw [setK_aput HD.out at_ hi] at h9
      rw [← he]
      refine RComP.put HD.out ?_ (List.Perm.refl _) h9
      rw [he]; exact HC0.out
    have f3 : w2.frozen? ⟨r, i * 4 + 3, none⟩ = false := H2.out.row.frozenAt _
    generalize R.all[i].2 = y at c3
    clear he hk2 p0 p1
    go_wp2
    go_ret
    exact HFIN.out _ HK2.out
  · rw [HA.out] at hn
    cases hn
end Go.Proofs.YtklhlffdpojkoaaGreat
