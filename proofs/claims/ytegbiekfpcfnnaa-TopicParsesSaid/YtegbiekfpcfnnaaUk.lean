/-
  Parse: the program's.
-/
import Derived.Test.YtegbiekfpcfnnaaUj
import Derived.Deep.CutRange
namespace Go.Proofs.Ytegbiekfpcfnnaa
open Go.RowKit Fx

def ParseP (w : World) (s : ByteArray) (e : Ending) (w' : World) : Prop :=
  (paE s ≠ 0 ∧ e = .returned (.tuple #[.pointer none, .int .i64 (paE s)]) ∧ K0 w w') ∨
  (paE s = 0 ∧ ∃ tb m, e = .returned (.tuple #[.pointer (some ⟨tb, 0, none⟩), .int .i64 0]) ∧ TblAt w' tb m ⟨paX s, mapO (paF s).l⟩ ∧ w.heap.size ≤ tb ∧ w.heap.size ≤ m ∧ K0 w w')
def PRel (w : World) (rb tb m d : Nat) (s : ByteArray) (nx n : Int) (F : PSt) (i lv : Value) (wr : World) : Prop :=
  ∃ (k : Nat) (p : PSt), i = .int .i64 k ∧ k ≤ n.toNat ∧ lv = .string (lastN p.l) ∧ prun s nx (n.toNat - k) p = F ∧ p.a ≤ s.size ∧ (p.e = 0 → 0 ≤ nx ∧ nx ≤ 1073741824 ∧ 0 ≤ n ∧ n ≤ 20) ∧ PAt w wr rb tb m d s nx p
theorem TblAt.setNext {w : World} {b m : Nat} {t : Tbl} (h : TblAt w b m t) (x : Int) : TblAt (w.setCell ⟨b, 0, none⟩ (.int .i64 x)) b m ⟨x, t.all⟩ :=
  ⟨h.ne, setCell_block h.rcd 0 _, h.map.keep ((Keeps.refl (fun k => k = b) w).setC 0 _ (fun _ => rfl)) (fun e => h.ne e.symm)⟩
theorem gt_blt (a b : ByteArray) : (!Op.bytesLess a.toList b.toList && !(a.toList == b.toList)) = bltB b a := by
  rw [list_eq]
  show (!bltB a b && !decide (a = b)) = bltB b a
  by_cases h : a = b
  · subst h; simp [blt_irrefl]
  · rw [decide_eq_false h]
    cases h1 : bltB a b with
    | true =>
      cases h2 : bltB b a with
      | true => have := blt_trans h1 h2; rw [blt_irrefl] at this; cases this
      | false => rfl
    | false => rw [blt_total h h1]; rfl
theorem wE_ne {e : Int} {b : Bool} (h : ¬ (e = 0 ∧ b = true)) : wE e b ≠ 0 := fun h2 => h (wE_zero h2)

set_option maxRecDepth 100000 in
set_option maxHeartbeats 16000000 in
theorem parse_any (s : ByteArray) (w : World) (hs : s.size ≤ 9223372036854775807) : Calls Try.prog 18 #[.string s] w (ParseP w s) := by
  have hmm := @run_makeMap Try.prog
  have HN : Hid (∀ e w', NewPost (w.alloc (.cells #[.string s, .int .i64 0, .int .i64 0] 65)) e w' → ∃ tb m, e = .returned (.pointer (some ⟨tb, 0, none⟩)) ∧ Rr 65 w' w.heap.size s 0 0 ∧ TblAt w' tb m ⟨0, []⟩ ∧ K0 w w' ∧ w.heap.size < tb ∧ w.heap.size < m) := by
    show ∀ _ _, _ → _
    rintro e w' ⟨rfl, ht, hk, hz⟩
    have hr : Rr 65 (w.alloc (.cells #[.string s, .int .i64 0, .int .i64 0] 65)) w.heap.size s 0 0 := heap_new _ _ _ rfl
    refine ⟨_, _, rfl, hr.keep hk (fun e => e), ht, K0.tr ((Keeps.refl _ _).alloc _) hk, ?_, ?_⟩ <;> simp
    omega
  have hrb : Hid (∃ rb, rb = w.heap.size) := ⟨_, rfl⟩
  obtain ⟨rb, hrb⟩ := hrb.out
  rw [← hrb] at HN
  have HRB := Lib.hid hrb
  clear hrb
  go_enter Try.func18, Try.ntmps18
  go_wp2_with fail
  refine (new_calls _).mono ?_
  intro e w1 hn
  obtain ⟨tb, m, rfl, hr1, ht1, hk1, hlb, hlm⟩ := HN.out e w1 hn
  have HK1 := Lib.hid hk1
  have HT1 := Lib.hid ht1
  rw [← HRB.out]
  have hd1 : rb ≠ tb := by omega
  have hd2 : rb ≠ m := by omega
  have b0 : nuT s 0 0 ≤ s.size := nuT_le (by omega)
  clear hn hk1 ht1 HN
  go_wp2_with fail
  refine (number_any 0 1073741824 hr1 hs (by omega)).mono ?_
  rintro e w2 ⟨rfl, hr2, hk2⟩
  have ht2 := HT1.out.keep hk2 (fun e => hd1 e.symm) (fun e => hd2 e.symm)
  have f2 := ht2.free 0
  have c2 := ht2.cell0
  have l2 := ht2.lt
  have ht3 := ht2.setNext (nuN s 0 0)
  have lm2 := ht2.map.lt
  have lr2 := block_lt hr2
  have hr3 : Rr 65 ((w2.setCell ⟨tb, 0, none⟩ (.int .i64 (nuN s 0 0))).alloc (.map #[] 0)) rb s (nuT s 0 0) (nuE s 0 0 0 1073741824) := hr2.keep (((Keeps.refl (fun k => k = tb) w2).setC 0 _ (fun _ => rfl)).alloc _) hd1
  have HT3 : Hid (TblAt ((w2.setCell ⟨tb, 0, none⟩ (.int .i64 (nuN s 0 0))).alloc (.map #[] 0)) tb m ⟨nuN s 0 0, []⟩) := ht3.keep (S := fun _ => False) ((Keeps.refl _ _).alloc _) (fun e => e) (fun e => e)
  have HK3 : Hid (K0 w ((w2.setCell ⟨tb, 0, none⟩ (.int .i64 (nuN s 0 0))).alloc (.map #[] 0))) := (k0_then (k0_then HK1.out hk2 (fun k e => by rw [e, HRB.out]; exact Nat.le_refl _)) ((Keeps.refl (fun k => k = tb) w2).setC 0 _ (fun _ => rfl)) (fun k e => by have := HRB.out; rw [e]; omega)).alloc _
  have HD3 : Hid (∃ d, d = w2.heap.size ∧ MapAt (.int .i64) ((w2.setCell ⟨tb, 0, none⟩ (.int .i64 (nuN s 0 0))).alloc (.map #[] 0)) d []) := by
    refine ⟨_, rfl, ?_⟩
    have h1 : MapAt (κ := Int) (.int .i64) ((w2.setCell ⟨tb, 0, none⟩ (.int .i64 (nuN s 0 0))).alloc (.map #[] 0)) (w2.setCell ⟨tb, 0, none⟩ (.int .i64 (nuN s 0 0))).heap.size [] := mapAt_new _
    have h2 : (w2.setCell ⟨tb, 0, none⟩ (.int .i64 (nuN s 0 0))).heap.size = w2.heap.size := by simp
    rw [h2] at h1
    exact h1
  have HLD : Hid (w.heap.size ≤ w2.heap.size) := Nat.le_trans HK1.out.size hk2.size
  clear hr2 hk2 ht2 ht3 hr1
  go_wp2_with fail
  obtain ⟨d, hdd, hid⟩ := HD3.out
  rw [← hdd]
  refine (number_any 0 20 hr3 hs (by omega)).mono ?_
  rintro e w4 ⟨rfl, hr4, hk4⟩
  have hrb := HRB.out
  have hz1 := HK1.out.size
  have HB : Hid (PBk w rb tb m d) := ⟨hd1, hd2, by omega, by omega, by omega, by omega, by omega, by omega, by rw [hdd]; exact HLD.out⟩
  have HP0 : Hid (PAt w w4 rb tb m d s (paX s) (paP s)) := ⟨hr4, HT3.out.keep hk4 (fun e => hd1 e.symm) (fun e => hd2 e.symm), hid.keep hk4 (fun e => HB.out.a3 e.symm), k0_then HK3.out hk4 (fun k e => e ▸ HB.out.b1)⟩
  have HPE : Hid (paE s = wE (paF s).e (decide ((paF s).a = s.size) && decide (((idsO (paF s).l).length : Int) = paC s))) := rfl
  have HFF1 : Hid (paF s = prun s (paX s) (paC s).toNat (paP s)) := rfl
  have HZ := Lib.hid (@paP_zero s)
  have b1 : (paP s).a ≤ s.size := nuT_le b0
  have B1 := Lib.hid b1
  have hCC : nuN s (nuT s 0 0) (nuE s 0 0 0 1073741824) = paC s := rfl
  have HLL : Hid (lastN (paP s).l = ⟨#[]⟩) := by show _ = _; rfl
  rw [hCC]
  generalize paP s = p0 at HP0 HFF1 HZ B1 HLL
  generalize hFg : paF s = F at HPE HFF1
  have HFF2 : Hid (paF s = F) := hFg
  generalize paC s = n at HPE HFF1 HZ ⊢
  generalize hng : paX s = nx at HP0 HFF1 HZ
  have HNX : Hid (paX s = nx) := hng
  clear hrb hz1 hr4 hk4 hr3 b1 hCC b0 f2 c2 l2 lm2 lr2 hdd hid HD3 hlb hlm hd1 hd2 hng hFg
  go_wp2
  go_loopw [9, 6] (PRel w rb tb m d s nx n F) (fun i _ _ => n.toNat - (intOf i).toNat)
  case atStart => exact ⟨0, p0, rfl, Nat.zero_le _, by rw [HLL.out], HFF1.out.symm, B1.out, HZ.out, HP0.out⟩
  case round =>
    obtain ⟨k, p, rfl, hk, rfl, hF, ha, hzz, hp⟩ := hrel
    have HP := Lib.hid hp
    by_cases hgo : (k : Int) < n ∧ p.e = 0
    · obtain ⟨hkn, he⟩ := hgo
      obtain ⟨n1, n2, n3, n4⟩ := hzz he
      have hkn2 : k < n.toNat := by omega
      rw [prun_next s nx hkn2 he] at hF
      have HF := Lib.hid hF
      have HA : Hid ((pstep s nx p).a ≤ s.size) := by
        show nuT _ _ _ ≤ _
        exact nuT_le (nuT_le (txT_le ha))
      have HZ2 : Hid ((pstep s nx p).e = 0 → 0 ≤ nx ∧ nx ≤ 1073741824 ∧ 0 ≤ n ∧ n ≤ 20) := fun _ => hzz he
      obtain ⟨a, e, l⟩ := p
      obtain rfl : e = 0 := he
      have hr : Rr 65 wr rb s a 0 := hp.rd
      have HTB : Hid (TblAt wr tb m ⟨nx, mapO l⟩) := hp.tb
      have HID : Hid (MapAt (.int .i64) wr d (idsO l)) := hp.ids
      have hk0 := Lib.hid hp.k0
      obtain ⟨r0, r1, r2, r3, r4, r5⟩ := hr.all
      have lr := block_lt hr
      have ha : a ≤ s.size := ha
      have b1 : txT s a 0 ≤ s.size := txT_le ha
      have b2 : nuT s (txT s a 0) (wE (txE s a 0) (Op.bytesLess (lastN l).toList (txS s a 0).toList)) ≤ s.size := nuT_le b1
      have HBX : Hid (∀ w3 w4 : World, Keeps (fun k => k = rb) wr w3 → Rr 65 w4 rb s (st3T s nx ⟨a, 0, l⟩) (st3E s nx ⟨a, 0, l⟩) → Keeps (fun k => k = rb) (w3.alloc (.cells #[.int .i64 (st2N s ⟨a, 0, l⟩), .int .i64 0] 58)) w4 → w4.cell? ⟨w3.heap.size, 1, none⟩ = some (.int .i64 0) ∧ w4.frozen? ⟨w3.heap.size, 1, none⟩ = false) := by
        show ∀ _ _, _ → _ → _ → _
        intro w3 w4 hk3 hr4 hk4
        have hb : (w3.alloc (.cells #[.int .i64 (st2N s ⟨a, 0, l⟩), .int .i64 0] 58)).heap[w3.heap.size]? = some (.cells #[.int .i64 (st2N s ⟨a, 0, l⟩), .int .i64 0] 58 (0, 0)) := heap_new _ _ _ rfl
        have hne : w3.heap.size ≠ rb := by have := hk3.size; omega
        have hb4 := (hk4.block _ (block_lt hb) hne).trans hb
        exact ⟨block_cell hb4 1, block_free hb4 1⟩
      have HRD : Hid (∀ w3 w4 : World, Keeps (fun k => k = rb) wr w3 → Rr 65 w4 rb s (st3T s nx ⟨a, 0, l⟩) (st3E s nx ⟨a, 0, l⟩) → Keeps (fun k => k = rb) (w3.alloc (.cells #[.int .i64 (st2N s ⟨a, 0, l⟩), .int .i64 0] 58)) w4 →
          ∃ v0 st o1 o2 q, R14 (w4.setCell ⟨w3.heap.size, 1, none⟩ (.int .i64 (st3N s nx ⟨a, 0, l⟩))).drew m d tb w3.heap.size (txS s a 0) (st2N s ⟨a, 0, l⟩) (st3N s nx ⟨a, 0, l⟩) v0 st o1 o2 q ∧ R14e w rb tb m d s nx (pstep s nx ⟨a, 0, l⟩) (w4.setCell ⟨w3.heap.size, 1, none⟩ (.int .i64 (st3N s nx ⟨a, 0, l⟩))).drew o1 o2 q) := by
        show ∀ _ _, _ → _ → _ → _
        intro w3 w4 hk3 hr4 hk4
        have hb : (w3.alloc (.cells #[.int .i64 (st2N s ⟨a, 0, l⟩), .int .i64 0] 58)).heap[w3.heap.size]? = some (.cells #[.int .i64 (st2N s ⟨a, 0, l⟩), .int .i64 0] 58 (0, 0)) := heap_new _ _ _ rfl
        have hsz := hk3.size
        have hne : w3.heap.size ≠ rb := by omega
        have hb4 := (hk4.block _ (block_lt hb) hne).trans hb
        have hk34 : Keeps (fun k => k = rb) wr w4 := (hk3.alloc _).trans hk4 (fun _ _ e => e)
        have lm := HTB.out.map.lt
        have lt := HTB.out.lt
        have ld := HID.out.lt
        have hk5 : Keeps (fun k => k = rb ∨ k = w3.heap.size) wr (w4.setCell ⟨w3.heap.size, 1, none⟩ (.int .i64 (st3N s nx ⟨a, 0, l⟩))).drew := ((hk34.mono (fun _ _ e => .inl e)).setC 1 _ (fun _ => .inr rfl)).drew
        have hr5 : Rr 65 (w4.setCell ⟨w3.heap.size, 1, none⟩ (.int .i64 (st3N s nx ⟨a, 0, l⟩))).drew rb s (st3T s nx ⟨a, 0, l⟩) (st3E s nx ⟨a, 0, l⟩) := hr4.keep ((Keeps.refl (fun k => k = w3.heap.size) w4).setC 1 _ (fun _ => rfl)).drew (fun e => hne e.symm)
        have hat : PAt w (w4.setCell ⟨w3.heap.size, 1, none⟩ (.int .i64 (st3N s nx ⟨a, 0, l⟩))).drew rb tb m d s nx ⟨st3T s nx ⟨a, 0, l⟩, st3E s nx ⟨a, 0, l⟩, l⟩ :=
          ⟨hr5, HTB.out.keep hk5 (fun e => e.elim (fun e => HB.out.a1 e.symm) (fun e => by omega)) (fun e => e.elim (fun e => HB.out.a2 e.symm) (fun e => by omega)), HID.out.keep hk5 (fun e => e.elim (fun e => HB.out.a3 e.symm) (fun e => by omega)), k0_then hk0.out hk5 (fun k e => by rcases e with rfl | rfl; exact HB.out.b1; have := hk0.out.size; omega)⟩
        have hbx : (w4.setCell ⟨w3.heap.size, 1, none⟩ (.int .i64 (st3N s nx ⟨a, 0, l⟩))).drew.heap[w3.heap.size]? = some (.cells #[.int .i64 (st2N s ⟨a, 0, l⟩), .int .i64 (st3N s nx ⟨a, 0, l⟩)] 58 (0, 0)) := setCell_block hb4 1 _
        exact reg14 (txS s a 0) HB.out ⟨by omega, by omega⟩ hat hbx
      have nn : wrap64 (nx - 1) = nx - 1 := by unfold wrap64; omega
      have nn2 : IntKind.i64.wrap (nx - 1) = nx - 1 := IntWalk.i64_in _ (by omega)
      clear hp hF hzz
      have b1b : txT s a 0 ≤ 9223372036854775807 := by omega
      go_wp2_with fail
      refine (name_any hr hs (by omega)).mono ?_
      rintro e w1 ⟨rfl, hr1, hk1⟩
      go_wp2_with fail
      rw [gt_blt]
      refine (want_any _ hr1).mono ?_
      rintro e w2 ⟨rfl, hr2, hk2⟩
      have hk12 : Keeps (fun k => k = rb) wr w2 := hk1.trans hk2 (fun _ _ e => e)
      have ht2 := HTB.out.keep hk12 (fun e => HB.out.a1 e.symm) (fun e => HB.out.a2 e.symm)
      have tc0 := ht2.cell0
      have tl := ht2.lt
      clear ht2 hk1 hk2
      go_wp2_with fail
      have HC1 : Calls Try.prog 24 #[.pointer (some ⟨rb, 0, none⟩), .int .i64 0, .int .i64 (nx - 1)] w2 (RrP 65 w2 rb s (.int .i64 (st2N s ⟨a, 0, l⟩)) (st2T s ⟨a, 0, l⟩) (st2E s nx ⟨a, 0, l⟩)) := number_any 0 (nx - 1) hr2 hs b1b
      refine HC1.mono ?_
      clear HC1
      rintro e w3 ⟨rfl, hr3, hk3⟩
      have hk13 : Keeps (fun k => k = rb) wr w3 := hk12.trans hk3 (fun _ _ e => e)
      have hr3a : Rr 65 (w3.alloc (.cells #[.int .i64 (st2N s ⟨a, 0, l⟩), .int .i64 0] 58)) rb s (st2T s ⟨a, 0, l⟩) (st2E s nx ⟨a, 0, l⟩) := hr3.keep (S := fun _ => False) ((Keeps.refl _ _).alloc _) (fun e => e)
      have b2 : st2T s ⟨a, 0, l⟩ ≤ s.size := nuT_le b1
      change Hid _ at HRD
      go_wp2_with fail
      have HC2 : Calls Try.prog 24 #[.pointer (some ⟨rb, 0, none⟩), .int .i64 1, .int .i64 16] (w3.alloc (.cells #[.int .i64 (st2N s ⟨a, 0, l⟩), .int .i64 0] 58)) (RrP 65 (w3.alloc (.cells #[.int .i64 (st2N s ⟨a, 0, l⟩), .int .i64 0] 58)) rb s (.int .i64 (st3N s nx ⟨a, 0, l⟩)) (st3T s nx ⟨a, 0, l⟩) (st3E s nx ⟨a, 0, l⟩)) := number_any 1 16 hr3a hs (Int.le_trans b2 (by omega))
      refine HC2.mono ?_
      clear HC2
      rintro e w4 ⟨rfl, hr4, hk4⟩
      obtain ⟨v0, st, o1, o2, q, hR, hE⟩ := HRD.out w3 w4 hk13 hr4 hk4
      obtain ⟨e0, e1, s0, s1, s2, u0, u1, u2, t1, t2, x1, x2, y1, y2, z0, z1, z2⟩ := hR
      obtain ⟨bc, bf⟩ := HBX.out w3 w4 hk13 hr4 hk4
      have HE := Lib.hid hE
      clear hr1 hr2 hr3 hr4 hr3a hk12 hk13 hk3 hk4 hE tc0 tl hr
      go_wp2_with fail
      generalize w4.setCell ⟨w3.heap.size, 1, none⟩ (.int .i64 (st3N s nx ⟨a, 0, l⟩)) = W at e0 e1 s0 s1 s2 u0 u1 u2 z0 z1 z2 HE ⊢
      have z0 : W.cell? ⟨tb, 1, none⟩ = some (.map (some m)) := z0
      have z1 : W.cell? ⟨w3.heap.size, 0, none⟩ = some (.int .i64 (st2N s ⟨a, 0, l⟩)) := z1
      have z2 : W.cell? ⟨w3.heap.size, 1, none⟩ = some (.int .i64 (st3N s nx ⟨a, 0, l⟩)) := z2
      go_region
      all_goals
        go_wp2
        go_roundw
        case rel => first | exact ⟨k + 1, pstep s nx ⟨a, 0, l⟩, by go_num, by omega, by rw [show (pstep s nx ⟨a, 0, l⟩).l = l ++ [pone s nx ⟨a, 0, l⟩] from rfl, lastN_app]; rfl, HF.out, HA.out, HZ2.out, HE.out.1⟩ | exact ⟨k + 1, pstep s nx ⟨a, 0, l⟩, by go_num, by omega, by rw [show (pstep s nx ⟨a, 0, l⟩).l = l ++ [pone s nx ⟨a, 0, l⟩] from rfl, lastN_app]; rfl, HF.out, HA.out, HZ2.out, HE.out.2.1⟩ | exact ⟨k + 1, pstep s nx ⟨a, 0, l⟩, by go_num, by omega, by rw [show (pstep s nx ⟨a, 0, l⟩).l = l ++ [pone s nx ⟨a, 0, l⟩] from rfl, lastN_app]; rfl, HF.out, HA.out, HZ2.out, HE.out.2.2⟩
        case measure => simp [intOf]; omega
    · have hEND : prun s nx (n.toNat - k) p = p := by
        by_cases he : p.e = 0
        · have : n.toNat - k = 0 := by omega
          rw [this]; rfl
        · exact prun_stop s nx _ he
      by_cases hkn : (k : Int) < n
      · have he : (p.e == 0) = false := by rw [beq_eq_false_iff_ne]; exact fun h => hgo ⟨hkn, h⟩
        clear hgo hzz hp ha
        have HIL : Hid (MapAt (.int .i64) wr d (idsO p.l)) := HP.out.ids
        have HFE : Hid (prun s nx (n.toNat - k) p = p) := hEND
        have HFF : Hid (F = p) := by
          show F = p
          rw [← hF, hEND]
        obtain ⟨pa, pe, pl⟩ := p
        have hrd : Rr 65 wr rb s pa pe := HP.out.rd
        obtain ⟨r0, r1, r2, r3, r4, r5⟩ := hrd.all
        have HT0 : Hid (TblAt wr tb m ⟨nx, mapO pl⟩) := HP.out.tb
        have HIL : Hid (MapAt (.int .i64) wr d (idsO pl)) := HIL.out
        have HW : Hid (∀ b, Calls Try.prog 26 #[.pointer (some ⟨rb, 0, none⟩), .bool b] wr (RrP 65 wr rb s (.tuple #[]) pa (wE pe b))) := by
          show ∀ _, _
          exact fun b => want_any b hrd
        have HNO : Hid (∀ wx, wE pe (decide (pa = s.size) && decide (((idsO pl).length : Int) = n)) ≠ 0 → K0 wr wx ∨ Keeps (fun k => k = rb) wr wx → ParseP w s (.returned (.tuple #[.pointer none, .int .i64 (wE pe (decide (pa = s.size) && decide (((idsO pl).length : Int) = n)))])) wx) := by
          show ∀ _, _ → _ → _
          intro wx hne hkk
          have hpe : paE s = wE pe (decide (pa = s.size) && decide (((idsO pl).length : Int) = n)) := by rw [HPE.out, HFF.out]
          refine .inl ⟨by rw [hpe]; exact hne, by rw [hpe], ?_⟩
          rcases hkk with h | h
          · exact K0.tr HP.out.k0 h
          · exact k0_then HP.out.k0 h (fun k e => e ▸ HB.out.b1)
        have HYES : Hid (∀ wx, wE pe (decide (pa = s.size) && decide (((idsO pl).length : Int) = n)) = 0 → Keeps (fun k => k = rb) wr wx → ParseP w s (.returned (.tuple #[.pointer (some ⟨tb, 0, none⟩), .int .i64 0])) wx) := by
          show ∀ _, _ → _ → _
          intro wx hz hkk
          have hpe : paE s = wE pe (decide (pa = s.size) && decide (((idsO pl).length : Int) = n)) := by rw [HPE.out, HFF.out]
          have ht := HT0.out.keep hkk (fun e => HB.out.a1 e.symm) (fun e => HB.out.a2 e.symm)
          refine .inr ⟨by rw [hpe]; exact hz, tb, m, rfl, ?_, HB.out.b2, HB.out.b3, k0_then HP.out.k0 hkk (fun k e => e ▸ HB.out.b1)⟩
          rw [HNX.out, HFF2.out, HFF.out]
          exact ht
        have HLEN : Hid (∀ x : Nat, (idsO pl).length = x → MapAt (.int .i64) wr d (idsO pl)) := fun _ _ => HIL.out
        have hil : MapAt (.int .i64) wr d (idsO pl) := HIL.out
        have hln := hil.len Try.underlying67 3
        generalize hLL : (idsO pl).length = len at HNO HYES hln
        clear hrd HP hF hEND
        by_cases h1 : pa = s.size
        · by_cases h2 : (len : Int) = n
          · have hbb : (decide (pa = (s.size : Int)) && decide ((len : Int) = n)) = true := by simp [h1, h2]
            rw [hbb] at HNO HYES
            by_cases hz : pe = 0
            · rw [hz] at he; simp at he
            · obtain ⟨x, hx⟩ : ∃ x, wE pe true = x := ⟨_, rfl⟩
              have hx0 : x ≠ 0 := hx ▸ wE_ne (fun h => hz h.1)
              have hx1 : (x == 0) = false := by rw [beq_eq_false_iff_ne]; exact hx0
              have HX0 := Lib.hid hx0
              rw [hx] at HNO
              clear HYES
              go_wp2_with ((go_at_call 26; refine (HW.out true).mono ?_; rintro e w' ⟨rfl, hr, hk⟩; rw [hx] at hr; obtain ⟨g0, g1, g2, g3, g4, g5⟩ := Rr.all hr))
              go_quiet (fail)
              go_wp2
              go_ret2
              exact HNO.out _ HX0.out (.inr (hk.drewN _))
          · have hbb : (decide (pa = (s.size : Int)) && decide ((len : Int) = n)) = false := by simp [h2]
            have h2' : ((len : Int) == n) = false := by rw [beq_eq_false_iff_ne]; exact h2
            rw [hbb] at HNO HYES
            obtain ⟨x, hx⟩ : ∃ x, wE pe false = x := ⟨_, rfl⟩
            have hx0 : x ≠ 0 := hx ▸ wE_ne (fun h => by cases h.2)
            have hx1 : (x == 0) = false := by rw [beq_eq_false_iff_ne]; exact hx0
            have HX0 := Lib.hid hx0
            rw [hx] at HNO
            clear HYES
            go_wp2_with ((go_at_call 26; refine (HW.out false).mono ?_; rintro e w' ⟨rfl, hr, hk⟩; rw [hx] at hr; obtain ⟨g0, g1, g2, g3, g4, g5⟩ := Rr.all hr))
            go_quiet (fail)
            go_wp2
            go_ret2
            exact HNO.out _ HX0.out (.inr (hk.drewN _))
        · have hbb : (decide (pa = (s.size : Int)) && decide ((len : Int) = n)) = false := by simp [h1]
          have h1' : (pa == (s.size : Int)) = false := by rw [beq_eq_false_iff_ne]; exact h1
          rw [hbb] at HNO HYES
          obtain ⟨x, hx⟩ : ∃ x, wE pe false = x := ⟨_, rfl⟩
          have hx0 : x ≠ 0 := hx ▸ wE_ne (fun h => by cases h.2)
          have hx1 : (x == 0) = false := by rw [beq_eq_false_iff_ne]; exact hx0
          have HX0 := Lib.hid hx0
          rw [hx] at HNO
          clear HYES
          go_wp2_with ((go_at_call 26; refine (HW.out false).mono ?_; rintro e w' ⟨rfl, hr, hk⟩; rw [hx] at hr; obtain ⟨g0, g1, g2, g3, g4, g5⟩ := Rr.all hr))
          go_quiet (fail)
          go_wp2
          go_ret2
          exact HNO.out _ HX0.out (.inr (hk.drewN _))
      · clear hgo hzz hp ha
        have HIL : Hid (MapAt (.int .i64) wr d (idsO p.l)) := HP.out.ids
        have HFE : Hid (prun s nx (n.toNat - k) p = p) := hEND
        have HFF : Hid (F = p) := by
          show F = p
          rw [← hF, hEND]
        obtain ⟨pa, pe, pl⟩ := p
        have hrd : Rr 65 wr rb s pa pe := HP.out.rd
        obtain ⟨r0, r1, r2, r3, r4, r5⟩ := hrd.all
        have HT0 : Hid (TblAt wr tb m ⟨nx, mapO pl⟩) := HP.out.tb
        have HIL : Hid (MapAt (.int .i64) wr d (idsO pl)) := HIL.out
        have HW : Hid (∀ b, Calls Try.prog 26 #[.pointer (some ⟨rb, 0, none⟩), .bool b] wr (RrP 65 wr rb s (.tuple #[]) pa (wE pe b))) := by
          show ∀ _, _
          exact fun b => want_any b hrd
        have HNO : Hid (∀ wx, wE pe (decide (pa = s.size) && decide (((idsO pl).length : Int) = n)) ≠ 0 → K0 wr wx ∨ Keeps (fun k => k = rb) wr wx → ParseP w s (.returned (.tuple #[.pointer none, .int .i64 (wE pe (decide (pa = s.size) && decide (((idsO pl).length : Int) = n)))])) wx) := by
          show ∀ _, _ → _ → _
          intro wx hne hkk
          have hpe : paE s = wE pe (decide (pa = s.size) && decide (((idsO pl).length : Int) = n)) := by rw [HPE.out, HFF.out]
          refine .inl ⟨by rw [hpe]; exact hne, by rw [hpe], ?_⟩
          rcases hkk with h | h
          · exact K0.tr HP.out.k0 h
          · exact k0_then HP.out.k0 h (fun k e => e ▸ HB.out.b1)
        have HYES : Hid (∀ wx, wE pe (decide (pa = s.size) && decide (((idsO pl).length : Int) = n)) = 0 → Keeps (fun k => k = rb) wr wx → ParseP w s (.returned (.tuple #[.pointer (some ⟨tb, 0, none⟩), .int .i64 0])) wx) := by
          show ∀ _, _ → _ → _
          intro wx hz hkk
          have hpe : paE s = wE pe (decide (pa = s.size) && decide (((idsO pl).length : Int) = n)) := by rw [HPE.out, HFF.out]
          have ht := HT0.out.keep hkk (fun e => HB.out.a1 e.symm) (fun e => HB.out.a2 e.symm)
          refine .inr ⟨by rw [hpe]; exact hz, tb, m, rfl, ?_, HB.out.b2, HB.out.b3, k0_then HP.out.k0 hkk (fun k e => e ▸ HB.out.b1)⟩
          rw [HNX.out, HFF2.out, HFF.out]
          exact ht
        have HLEN : Hid (∀ x : Nat, (idsO pl).length = x → MapAt (.int .i64) wr d (idsO pl)) := fun _ _ => HIL.out
        have hil : MapAt (.int .i64) wr d (idsO pl) := HIL.out
        have hln := hil.len Try.underlying67 3
        generalize hLL : (idsO pl).length = len at HNO HYES hln
        clear hrd HP hF hEND
        by_cases h1 : pa = s.size
        · by_cases h2 : (len : Int) = n
          · have hbb : (decide (pa = (s.size : Int)) && decide ((len : Int) = n)) = true := by simp [h1, h2]
            rw [hbb] at HNO HYES
            by_cases hz : pe = 0
            · have hx : wE pe true = 0 := by unfold wE; rw [if_pos hz, if_pos rfl]
              rw [hx] at HYES
              clear HNO
              go_wp2_with ((go_at_call 26; refine (HW.out true).mono ?_; rintro e w' ⟨rfl, hr, hk⟩; rw [hx] at hr; obtain ⟨g0, g1, g2, g3, g4, g5⟩ := Rr.all hr))
              go_ret2
              exact HYES.out _ (by first | rfl | trivial) hk
            · obtain ⟨x, hx⟩ : ∃ x, wE pe true = x := ⟨_, rfl⟩
              have hx0 : x ≠ 0 := hx ▸ wE_ne (fun h => hz h.1)
              have hx1 : (x == 0) = false := by rw [beq_eq_false_iff_ne]; exact hx0
              have HX0 := Lib.hid hx0
              rw [hx] at HNO
              clear HYES
              go_wp2_with ((go_at_call 26; refine (HW.out true).mono ?_; rintro e w' ⟨rfl, hr, hk⟩; rw [hx] at hr; obtain ⟨g0, g1, g2, g3, g4, g5⟩ := Rr.all hr))
              go_quiet (fail)
              go_wp2
              go_ret2
              exact HNO.out _ HX0.out (.inr (hk.drewN _))
          · have hbb : (decide (pa = (s.size : Int)) && decide ((len : Int) = n)) = false := by simp [h2]
            have h2' : ((len : Int) == n) = false := by rw [beq_eq_false_iff_ne]; exact h2
            rw [hbb] at HNO HYES
            obtain ⟨x, hx⟩ : ∃ x, wE pe false = x := ⟨_, rfl⟩
            have hx0 : x ≠ 0 := hx ▸ wE_ne (fun h => by cases h.2)
            have hx1 : (x == 0) = false := by rw [beq_eq_false_iff_ne]; exact hx0
            have HX0 := Lib.hid hx0
            rw [hx] at HNO
            clear HYES
            go_wp2_with ((go_at_call 26; refine (HW.out false).mono ?_; rintro e w' ⟨rfl, hr, hk⟩; rw [hx] at hr; obtain ⟨g0, g1, g2, g3, g4, g5⟩ := Rr.all hr))
            go_quiet (fail)
            go_wp2
            go_ret2
            exact HNO.out _ HX0.out (.inr (hk.drewN _))
        · have hbb : (decide (pa = (s.size : Int)) && decide ((len : Int) = n)) = false := by simp [h1]
          have h1' : (pa == (s.size : Int)) = false := by rw [beq_eq_false_iff_ne]; exact h1
          rw [hbb] at HNO HYES
          obtain ⟨x, hx⟩ : ∃ x, wE pe false = x := ⟨_, rfl⟩
          have hx0 : x ≠ 0 := hx ▸ wE_ne (fun h => by cases h.2)
          have hx1 : (x == 0) = false := by rw [beq_eq_false_iff_ne]; exact hx0
          have HX0 := Lib.hid hx0
          rw [hx] at HNO
          clear HYES
          go_wp2_with ((go_at_call 26; refine (HW.out false).mono ?_; rintro e w' ⟨rfl, hr, hk⟩; rw [hx] at hr; obtain ⟨g0, g1, g2, g3, g4, g5⟩ := Rr.all hr))
          go_quiet (fail)
          go_wp2
          go_ret2
          exact HNO.out _ HX0.out (.inr (hk.drewN _))
end Go.Proofs.Ytegbiekfpcfnnaa
