/-
  The document's table of topics: Create.
-/
import Derived.Test.YtegbiekfpcfnnaaUb
namespace Go.Proofs.Ytegbiekfpcfnnaa
open Go.RowKit Fx

def badO (s : ByteArray) (p : Int) : Prop := s.size = 0 ∨ 100 < s.size ∨ p < 1 ∨ 16 < p
def Tbl.rcreate (R : Tbl) (s : ByteArray) (p : Int) : Int × Int × Tbl :=
  if s.size = 0 ∨ 100 < s.size ∨ p < 1 ∨ 16 < p then (0, 1, R)
  else match aget R.all s with
    | some _ => (0, 14, R)
    | none => if 20 ≤ R.all.length ∨ 1073741824 ≤ R.next then (0, 5, R) else (R.next, 0, ⟨R.next + 1, insS R.all s (R.next, p)⟩)
def RTcrP (w : World) (F : Nat → Prop) (b : Nat) (R : Tbl) (s : ByteArray) (p : Int) (e : Ending) (w' : World) : Prop :=
  e = .returned (.tuple #[.int .i64 (R.rcreate s p).1, .int .i64 (R.rcreate s p).2.1]) ∧ RTpost w F b (R.rcreate s p).2.2 w'
set_option maxRecDepth 100000 in
set_option maxHeartbeats 4000000 in
theorem rtcr_bad {w : World} {F : Nat → Prop} {b : Nat} {R : Tbl} {v : Value} (s : ByteArray) (p : Int) (h : RTat w F b R v) (hb : s.size = 0 ∨ 100 < s.size ∨ p < 1 ∨ 16 < p) :
    Calls Try.prog 15 #[.pointer (some ⟨b, 0, none⟩), .string s, .int .i64 p] w (RTcrP w F b R s p) := by
  have HP : Hid (RTcrP w F b R s p (.returned (.tuple #[.int .i64 0, .int .i64 1])) w) := by
    show RTcrP _ _ _ _ _ _ _ _
    unfold RTcrP Tbl.rcreate
    rw [if_pos hb]
    exact ⟨rfl, RTpost.same ⟨v, h⟩ (Keeps.refl _ _)⟩
  have hbb : (s.size : Int) < 1 ∨ (¬ (s.size : Int) < 1 ∧ 100 < (s.size : Int)) ∨ (¬ (s.size : Int) < 1 ∧ ¬ 100 < (s.size : Int) ∧ p < 1) ∨ (¬ (s.size : Int) < 1 ∧ ¬ 100 < (s.size : Int) ∧ ¬ p < 1 ∧ 16 < p) := by omega
  clear h hb
  rcases hbb with h1 | ⟨h1, h2⟩ | ⟨h1, h2, h3⟩ | ⟨h1, h2, h3, h4⟩
  all_goals
    go_enter Try.func15, Try.ntmps15
    go_wp2
    go_ret2
    exact HP.out
set_option maxRecDepth 100000 in
set_option maxHeartbeats 4000000 in
theorem rtcr_there {w : World} {F : Nat → Prop} {b : Nat} {R : Tbl} {v : Value} (s : ByteArray) (p : Int) (h : RTat w F b R v) (hl : R.all.length ≤ 1000) (hb : ¬ (s.size = 0 ∨ 100 < s.size ∨ p < 1 ∨ 16 < p)) {x : Int × Int} (ha : aget R.all s = some x) :
    Calls Try.prog 15 #[.pointer (some ⟨b, 0, none⟩), .string s, .int .i64 p] w (RTcrP w F b R s p) := by
  have HP : Hid (RTcrP w F b R s p (.returned (.tuple #[.int .i64 0, .int .i64 14])) w) := by
    show RTcrP _ _ _ _ _ _ _ _
    unfold RTcrP Tbl.rcreate
    rw [if_neg hb, ha]
    exact ⟨rfl, RTpost.same ⟨v, h⟩ (Keeps.refl _ _)⟩
  have HF := Lib.hid (rtfind_some h hl (s := s) (by rw [ha]; rfl))
  have h1 : ¬ (s.size : Int) < 1 := by omega
  have h2 : ¬ 100 < (s.size : Int) := by omega
  have h3 : ¬ p < 1 := by omega
  have h4 : ¬ 16 < p := by omega
  clear h hb ha
  go_enter Try.func15, Try.ntmps15
  go_wp2_with fail
  refine HF.out.mono ?_
  rintro e w1 ⟨i, hi, rfl, rfl, hn⟩
  have i0 : (0 : Int) ≤ i := by omega
  clear hn
  go_wp2
  go_ret2
  exact HP.out
set_option maxRecDepth 100000 in
set_option maxHeartbeats 4000000 in
theorem rtcr_full {w : World} {F : Nat → Prop} {b : Nat} {R : Tbl} {v : Value} (s : ByteArray) (p : Int) (h : RTat w F b R v) (hl : R.all.length ≤ 1000) (hb : ¬ (s.size = 0 ∨ 100 < s.size ∨ p < 1 ∨ 16 < p)) (ha : aget R.all s = none) (hfu : 20 ≤ R.all.length ∨ 1073741824 ≤ R.next) :
    Calls Try.prog 15 #[.pointer (some ⟨b, 0, none⟩), .string s, .int .i64 p] w (RTcrP w F b R s p) := by
  have HP : Hid (RTcrP w F b R s p (.returned (.tuple #[.int .i64 0, .int .i64 5])) w) := by
    show RTcrP _ _ _ _ _ _ _ _
    unfold RTcrP Tbl.rcreate
    rw [if_neg hb, ha]
    dsimp only
    rw [if_pos hfu]
    exact ⟨rfl, RTpost.same ⟨v, h⟩ (Keeps.refl _ _)⟩
  have HF := Lib.hid (rtfind_none h hl ha)
  have h1 : ¬ (s.size : Int) < 1 := by omega
  have h2 : ¬ 100 < (s.size : Int) := by omega
  have h3 : ¬ p < 1 := by omega
  have h4 : ¬ 16 < p := by omega
  have hx0 : w.cell? ⟨b, 0, none⟩ = some (.int .i64 R.next) := block_cell h.blk 0
  have hx : w.cell? ⟨b, 1, none⟩ = some v := block_cell h.blk 1
  have hlt := block_lt h.blk
  obtain ⟨va, vc, rfl⟩ := own_slice h.row
  have hff : (20 : Int) ≤ R.all.length ∨ (¬ (20 : Int) ≤ R.all.length ∧ 1073741824 ≤ R.next) := by omega
  clear h hb ha hfu
  rcases hff with q1 | ⟨q1, q2⟩
  all_goals
    go_enter Try.func15, Try.ntmps15
    go_wp2_with fail
    refine HF.out.mono ?_
    rintro e w1 ⟨rfl, rfl⟩
    go_wp2
    go_ret2
    exact HP.out
set_option maxRecDepth 100000 in
set_option maxHeartbeats 8000000 in
theorem rtcr_new {w : World} {F : Nat → Prop} {b : Nat} {R : Tbl} {v : Value} (s : ByteArray) (p : Int) (h : RTat w F b R v) (hb : ¬ (s.size = 0 ∨ 100 < s.size ∨ p < 1 ∨ 16 < p)) (ha : aget R.all s = none) (hfu : ¬ (20 ≤ R.all.length ∨ 1073741824 ≤ R.next)) (hn0 : 0 ≤ R.next) :
    Calls Try.prog 15 #[.pointer (some ⟨b, 0, none⟩), .string s, .int .i64 p] w (RTcrP w F b R s p) := by
  have hl : R.all.length ≤ 1000 := by omega
  have HFIN : Hid (∀ w4 va vc k, PlaceAt R.all s k → K0 w w4 → w4.ownsRow w.heap.size 46 3 (.slice va (R.all.length + 1) vc) (R.all.length + 1) ((R.all.take k).flatMap encO ++ encO (s, (R.next, p)) ++ (R.all.drop k).flatMap encO) →
      RTcrP w F b R s p (.returned (.tuple #[.int .i64 R.next, .int .i64 0])) ((w4.setCell ⟨b, 1, none⟩ (.slice va (R.all.length + 1) vc)).setCell ⟨b, 0, none⟩ (.int .i64 (R.next + 1)))) := by
    show ∀ _ _ _ _, _ → _ → _ → _
    intro w4 va vc k hp hk4 ho4
    unfold RTcrP Tbl.rcreate
    rw [if_neg hb, ha]
    dsimp only
    rw [if_neg hfu]
    refine ⟨rfl, ?_⟩
    have h9 := h.newrow (nx := R.next + 1) (l := insS R.all s (R.next, p)) hk4 (nv := .slice va (R.all.length + 1) vc) (by
      rw [ins_len, place_ins hp, List.flatMap_append, List.flatMap_cons, ← List.append_assoc]
      exact ho4)
    exact h9
  have HF := Lib.hid (rtfind_none h hl ha)
  have HH := Lib.hid h
  have h1 : ¬ (s.size : Int) < 1 := by omega
  have h2 : ¬ 100 < (s.size : Int) := by omega
  have h3 : ¬ p < 1 := by omega
  have h4 : ¬ 16 < p := by omega
  have hx0 : w.cell? ⟨b, 0, none⟩ = some (.int .i64 R.next) := block_cell h.blk 0
  have hx : w.cell? ⟨b, 1, none⟩ = some v := block_cell h.blk 1
  have hlt := block_lt h.blk
  have q1 : ¬ (20 : Int) ≤ R.all.length := by omega
  have q2 : ¬ 1073741824 ≤ R.next := by omega
  have hown0 : w.ownsRow w.heap.size 46 3 (.slice none 0 0) 0 [] := World.ownsRow_nil _ _ _ _
  have hform := h.form
  clear hb ha hfu h
  rcases hform with ⟨hnil, rfl⟩ | ⟨r, cap, rfl, hrb, hrl, hcap, hFr, hcm⟩
  · have HN := Lib.hid hnil
    have HTN : Hid (∀ wx, K0 w wx → NilT w wx b R.next) := fun wx hk => HH.out.nilT hk
    have fr1 := block_free HH.out.blk 1
    have q3 : ¬ (20 : Int) ≤ (0 : Int) := by omega
    clear hnil q1
    go_enter Try.func15, Try.ntmps15
    go_wp2_with fail
    refine HF.out.mono ?_
    rintro e w1 ⟨rfl, rfl⟩
    go_wp2
    refine wp_loop_once ?_
    go_wp2_with (at_builtin; first | (refine wpList_appZ rfl rfl Try.underlying41 infoOne rfl hown0 rfl ?_) | (refine wpList_app1 rfl rfl Try.underlying41 infoOne rfl (by decide) rfl (hown0.alloc _) rfl (heap_new _ _ _ rfl) rfl rfl ⟨by omega, by decide⟩ (by first | (simp; done) | (simp; omega)) ?_; intro g2 c2 w2 hA2; have hk2 : K0 w1 w2 := ((Keeps.refl _ _).alloc _).grown hA2.grown (fun k e => by cases e); have HK2 := Lib.hid hk2; have ho2 := hA2.own; have HV2 := Lib.hid ho2; obtain ⟨_, y0, y1, y2, y3, y4⟩ := HTN.out w2 hk2; clear hk2 hA2 hx0 hx hlt fr1) | (refine wpList_appZ rfl rfl Try.underlying41 infoOne rfl ho2 rfl ?_; clear ho2))
    go_ret2
    have h9 := HFIN.out w2 (some ⟨g2, 0, none⟩) c2 0 (PlaceAt.nil HN.out s) HK2.out
    rw [HN.out] at h9
    exact h9 HV2.out
  · have HTF : Hid (∀ k wx, K0 w wx → TabF w wx b r R.next (.slice (some ⟨r, 0, none⟩) R.all.length cap) R.all k k) := fun k wx hk => HH.out.tabF hk k k
    have fr1 := block_free HH.out.blk 1
    go_enter Try.func15, Try.ntmps15
    go_wp2_with fail
    refine HF.out.mono ?_
    rintro e w1 ⟨rfl, rfl⟩
    go_wp2
    go_loopw [8] (fun i wr => ∃ k : Nat, i = .int .i64 k ∧ k ≤ R.all.length ∧ (∀ j (hj : j < R.all.length), j < k → bltB R.all[j].1 s = true) ∧ wr = w1) (fun i _ => R.all.length - (intOf i).toNat)
    case atStart => exact ⟨0, rfl, by omega, fun j _ h => absurd h (Nat.not_lt_zero _), rfl⟩
    case round =>
      obtain ⟨k, rfl, hk, hq, rfl⟩ := hrel
      have HQ := Lib.hid hq
      clear hq
      have i0 : (0 : Int) ≤ k := by omega
      by_cases hlt2 : k < R.all.length
      · have c0 := (HH.out.cell rfl k hlt2).1
        have i1 : (k : Int) < R.all.length := by omega
        cases hd : bltB R.all[k].1 s with
        | true =>
          have HD := Lib.hid hd
          have hd' : Op.bytesLess R.all[k].1.toList s.toList = true := hd
          generalize R.all[k].1 = x0 at c0 hd'
          have HLT := Lib.hid hlt2
          clear hd
          go_wp2
          go_roundw
          case rel => exact ⟨k + 1, by go_num, HLT.out, fun j hj h2 => (Nat.lt_succ_iff_lt_or_eq.1 h2).elim (HQ.out j hj) fun e => by subst e; exact HD.out, by first | rfl | trivial⟩
          case measure => have := HLT.out; simp [intOf]; omega
        | false =>
          have HPL : Hid (PlaceAt R.all s k) := ⟨hk, HQ.out, fun _ => hd⟩
          have hd' : Op.bytesLess R.all[k].1.toList s.toList = false := hd
          generalize R.all[k].1 = x0 at c0 hd'
          clear hd
          have HTK := Lib.hid (HTF.out k)
          have hn1 := (HTK.out wr (Keeps.refl _ _)).n1
          have hl1 : ((R.all.take k).flatMap encO).length = k * 3 := by rw [flat_len encO 3 encO_len, List.length_take]; congr 1; omega
          have hl2 : ((R.all.drop k).flatMap encO).length = (R.all.length - k) * 3 := by rw [flat_len encO 3 encO_len, List.length_drop]
          have hc1 : ∀ u ∈ (R.all.take k).flatMap encO, u.oneCell' = true := fun u hu => by
            obtain ⟨y, hy, hu⟩ := List.mem_flatMap.1 hu
            exact encO_one y u hu
          have hc2 : ∀ u ∈ (R.all.drop k).flatMap encO, u.oneCell' = true := fun u hu => by
            obtain ⟨y, hy, hu⟩ := List.mem_flatMap.1 hu
            exact encO_one y u hu
          have k1 : (k : Int) ≤ cap := by omega
          have k2 : (k : Int) ≤ R.all.length := by omega
          have k4 : (R.all.length : Int) ≤ cap := by omega
          have hce : ¬ cap = k := by omega
          go_wp2_with (at_builtin; first | (refine wpList_appN rfl rfl Try.underlying41 infoOne rfl (by decide) rfl hown0 rfl hl1 hn1 hc1 ⟨by omega, by decide⟩ (Nat.le_refl _) ?_; intro v1 w2 hv1 hg1; simp only [Nat.zero_add, List.nil_append] at hv1; obtain ⟨va1, vc1, rfl⟩ := own_slice hv1; have hk1 := grown1 hg1; have hz1 := hk1.size; obtain ⟨_, t0, t1, t2, t3, t4, t5, t6⟩ := HTK.out w2 hk1; clear hx0 hx hlt fr1 hn1) | (refine wpList_app1 rfl rfl Try.underlying41 infoOne rfl (by decide) rfl (hv1.alloc _) rfl (heap_new _ _ _ rfl) rfl rfl ⟨by omega, by decide⟩ (by first | (simp; done) | (simp; omega)) ?_; intro g2 c2 w3 hA2; have hk2 : K0 wr w3 := (K0.tr hk1 ((Keeps.refl _ _).alloc _)).grown hA2.grown (fun k e hlt => absurd (hv1.lt k e).1 (by omega)); have hz2 := hk2.size; have ho2 := hA2.own; obtain ⟨_, y0, y1, y2, y3, y4, y5, y6⟩ := HTK.out w3 hk2; clear t0 t1 t2 t3 t4 t5 t6 hv1 hg1 hA2) | (refine wpList_appN rfl rfl Try.underlying41 infoOne rfl (by decide) rfl ho2 rfl hl2 y6 hc2 ⟨by omega, by decide⟩ hz2 ?_; intro v3 w4 hv3 hg3; obtain ⟨va3, vc3, rfl⟩ := own_slice hv3; have hk3 : K0 wr w4 := hk2.grown hg3 (fun k e hlt => absurd (ho2.lt k e).1 (by omega)); have HK3 := Lib.hid hk3; have HV3 := Lib.hid hv3; obtain ⟨_, z0, z1, z2, z3, z4, _, _⟩ := HTK.out w4 hk3; clear y0 y1 y2 y3 y4 y5 y6 hv3 hg3 ho2))
          go_ret2
          have h9 := HFIN.out _ va3 vc3 k HPL.out HK3.out
          rw [show R.all.length + 1 = k + 1 + (R.all.length - k) by omega] at h9
          exact h9 HV3.out
      · have HPL : Hid (PlaceAt R.all s k) := ⟨hk, HQ.out, fun h => absurd h hlt2⟩
        have i1 : ¬ (k : Int) < R.all.length := by omega
        have HTK := Lib.hid (HTF.out k)
        have hn1 := (HTK.out wr (Keeps.refl _ _)).n1
        have hl1 : ((R.all.take k).flatMap encO).length = k * 3 := by rw [flat_len encO 3 encO_len, List.length_take]; congr 1; omega
        have hl2 : ((R.all.drop k).flatMap encO).length = (R.all.length - k) * 3 := by rw [flat_len encO 3 encO_len, List.length_drop]
        have hc1 : ∀ u ∈ (R.all.take k).flatMap encO, u.oneCell' = true := fun u hu => by
          obtain ⟨y, hy, hu⟩ := List.mem_flatMap.1 hu
          exact encO_one y u hu
        have hc2 : ∀ u ∈ (R.all.drop k).flatMap encO, u.oneCell' = true := fun u hu => by
          obtain ⟨y, hy, hu⟩ := List.mem_flatMap.1 hu
          exact encO_one y u hu
        have k1 : (k : Int) ≤ cap := by omega
        have k2 : (k : Int) ≤ R.all.length := by omega
        have k4 : (R.all.length : Int) ≤ cap := by omega
        by_cases hce : cap = k
        · obtain rfl : k = R.all.length := by omega
          subst hce
          have hdn : (R.all.drop R.all.length).flatMap encO = [] := by rw [List.drop_length]; rfl
          have HDN := Lib.hid hdn
          clear hdn k1 k2 k4 hl2
          go_wp2_with (at_builtin; first | (refine wpList_appN rfl rfl Try.underlying41 infoOne rfl (by decide) rfl hown0 rfl hl1 hn1 hc1 ⟨by omega, by decide⟩ (Nat.le_refl _) ?_; intro v1 w2 hv1 hg1; simp only [Nat.zero_add, List.nil_append] at hv1; obtain ⟨va1, vc1, rfl⟩ := own_slice hv1; have hk1 := grown1 hg1; have hz1 := hk1.size; obtain ⟨_, t0, t1, t2, t3, t4, t5, t6⟩ := HTK.out w2 hk1; clear hx0 hx hlt fr1 hn1) | (refine wpList_app1 rfl rfl Try.underlying41 infoOne rfl (by decide) rfl (hv1.alloc _) rfl (heap_new _ _ _ rfl) rfl rfl ⟨by omega, by decide⟩ (by first | (simp; done) | (simp; omega)) ?_; intro g2 c2 w3 hA2; have hk2 : K0 wr w3 := (K0.tr hk1 ((Keeps.refl _ _).alloc _)).grown hA2.grown (fun k e hlt => absurd (hv1.lt k e).1 (by omega)); have hz2 := hk2.size; have ho2 := hA2.own; obtain ⟨_, y0, y1, y2, y3, y4, y5, y6⟩ := HTK.out w3 hk2; clear t0 t1 t2 t3 t4 t5 t6 hv1 hg1 hA2) | (refine wpList_appZ rfl rfl Try.underlying41 infoOne rfl ho2 rfl ?_; have HK3 := Lib.hid hk2; have HV3 := Lib.hid ho2; clear ho2))
          go_ret2
          have h9 := HFIN.out _ (some ⟨g2, 0, none⟩) c2 _ HPL.out HK3.out
          rw [HDN.out, List.append_nil] at h9
          exact h9 HV3.out
        · go_wp2_with (at_builtin; first | (refine wpList_appN rfl rfl Try.underlying41 infoOne rfl (by decide) rfl hown0 rfl hl1 hn1 hc1 ⟨by omega, by decide⟩ (Nat.le_refl _) ?_; intro v1 w2 hv1 hg1; simp only [Nat.zero_add, List.nil_append] at hv1; obtain ⟨va1, vc1, rfl⟩ := own_slice hv1; have hk1 := grown1 hg1; have hz1 := hk1.size; obtain ⟨_, t0, t1, t2, t3, t4, t5, t6⟩ := HTK.out w2 hk1; clear hx0 hx hlt fr1 hn1) | (refine wpList_app1 rfl rfl Try.underlying41 infoOne rfl (by decide) rfl (hv1.alloc _) rfl (heap_new _ _ _ rfl) rfl rfl ⟨by omega, by decide⟩ (by first | (simp; done) | (simp; omega)) ?_; intro g2 c2 w3 hA2; have hk2 : K0 wr w3 := (K0.tr hk1 ((Keeps.refl _ _).alloc _)).grown hA2.grown (fun k e hlt => absurd (hv1.lt k e).1 (by omega)); have hz2 := hk2.size; have ho2 := hA2.own; obtain ⟨_, y0, y1, y2, y3, y4, y5, y6⟩ := HTK.out w3 hk2; clear t0 t1 t2 t3 t4 t5 t6 hv1 hg1 hA2) | (refine wpList_appN rfl rfl Try.underlying41 infoOne rfl (by decide) rfl ho2 rfl hl2 y6 hc2 ⟨by omega, by decide⟩ hz2 ?_; intro v3 w4 hv3 hg3; obtain ⟨va3, vc3, rfl⟩ := own_slice hv3; have hk3 : K0 wr w4 := hk2.grown hg3 (fun k e hlt => absurd (ho2.lt k e).1 (by omega)); have HK3 := Lib.hid hk3; have HV3 := Lib.hid hv3; obtain ⟨_, z0, z1, z2, z3, z4, _, _⟩ := HTK.out w4 hk3; clear y0 y1 y2 y3 y4 y5 y6 hv3 hg3 ho2))
          go_ret2
          have h9 := HFIN.out _ va3 vc3 k HPL.out HK3.out
          rw [show R.all.length + 1 = k + 1 + (R.all.length - k) by omega] at h9
          exact h9 HV3.out
end Go.Proofs.Ytegbiekfpcfnnaa
