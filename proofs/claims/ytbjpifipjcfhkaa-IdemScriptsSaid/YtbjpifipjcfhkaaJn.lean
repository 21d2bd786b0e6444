/-
  Parse: the document's.
-/
import Derived.Test.YtbjpifipjcfhkaaJm
import Derived.Deep.RegionLaw
namespace Go.Proofs.Ytbjpifipjcfhkaa
open Go.RowKit Fx

section
variable {w w' : World} {F S : Nat → Prop} {b : Nat} {v v' : Value} {L L' : List OneI}
theorem RPAt.step2 (h : RPAt w F b v L) (hk : Keeps S w w') (hS : ∀ k, F k → S k → k = b ∨ v.ownBlock = some k) (hblk : w'.heap[b]? = some (.cells #[v'] 28 (0, 0))) (hrow : w'.ownsRow 0 71 3 v' L'.length (L'.flatMap encI))
    (hv : ∀ k, v'.ownBlock = some k → v.ownBlock = some k ∨ w.heap.size ≤ k)
    (ho : ∀ x ∈ L', (∃ y ∈ L, x.lv = y.lv ∧ x.ws = y.ws) ∨ WinE w' (fun k => w.heap.size ≤ k ∧ v'.ownBlock ≠ some k) x.lv x.ws) :
    RPAt w' (fun k => F k ∨ (w.heap.size ≤ k ∧ k < w'.heap.size)) b v' L' := by
  have hb := block_lt h.blk
  refine ⟨hblk, hrow, .inl h.fb, fun k e => e.elim (fun e => Nat.lt_of_lt_of_le (h.lt k e) hk.size) (fun e => e.2), fun k e => ?_, fun x hx => ?_⟩
  · rcases hv k e with e1 | e1
    · exact ⟨.inl (h.own k e1).1, (h.own k e1).2⟩
    · exact ⟨.inr ⟨e1, (hrow.lt k e).2⟩, by omega⟩
  · rcases ho x hx with ⟨y, hy, e1, e2⟩ | h1
    · rw [e1, e2]
      exact (h.out y hy).keep hk (fun k _ e e2 => (hS k e.1 e2).elim e.2.1 e.2.2) (fun k hk' e => ⟨.inl e.1, e.2.1, fun e2 => (hv k e2).elim e.2.2 fun e3 => by omega⟩)
    · exact h1.keep (Keeps.refl (fun _ => False) _) (fun _ _ _ e => e) (fun k hlt e => ⟨.inr ⟨e.1, hlt⟩, by have := e.1; omega, e.2⟩)
end
def RParsePI (w : World) (s : ByteArray) (e : Ending) (w' : World) : Prop :=
  (pzE s ≠ 0 ∧ e = .returned (.tuple #[.pointer none, .int .i64 (pzE s)]) ∧ K0 w w') ∨
  (pzE s = 0 ∧ ∃ b F, e = .returned (.tuple #[.pointer (some ⟨b, 0, none⟩), .int .i64 0]) ∧ RPst w' F b (pzF s).l ∧ (∀ k, F k → w.heap.size ≤ k) ∧ K0 w w')
/-- The reader in block w.heap.size, the producers in the next one. -/
structure RPz (w wr : World) (s : ByteArray) (p : PI) (v : Value) (L : List OneI) (F : Nat → Prop) : Prop where
  rd : Rr 86 wr w.heap.size s p.a p.e
  at_ : RPAt wr F (w.heap.size + 1) v L
  core : L.map coreO = p.l.map coreI
  fr : ∀ k, F k → w.heap.size + 1 ≤ k
  k0 : K0 w wr
def RPzRel (w : World) (s : ByteArray) (n : Int) (FF : PI) (i idv : Value) (wr : World) : Prop :=
  ∃ (k : Nat) (p : PI) (v : Value) (L : List OneI) (F : Nat → Prop), i = .int .i64 k ∧ k ≤ n.toNat ∧ idv = .int .i64 p.id ∧ p.l.length = k ∧ orun s (n.toNat - k) p = FF ∧ p.a ≤ s.size ∧ (p.e = 0 → -1 ≤ p.id ∧ p.id ≤ 1073741824 ∧ 0 ≤ n ∧ n ≤ 10000) ∧ RPz w wr s p v L F
/-- A producer's box, its window's row, and the reader, in the inner loop. -/
structure RIn (w wr wx : World) (s : ByteArray) (ob : Nat) (nid ep : Int) (lv : Value) (q : IH) : Prop where
  rd : Rr 86 wx w.heap.size s q.a q.e
  box : wx.heap[ob]? = some (.cells #[.int .i64 nid, .int .i64 ep, lv] 71 (0, 0))
  row : wx.ownsRow (ob + 1) 73 3 lv (winL q.h).length ((winL q.h).flatMap encS)
  kp : Keeps (fun k => k = w.heap.size) wr wx
  sz : w.heap.size < wr.heap.size ∧ wr.heap.size ≤ ob
theorem RIn.keep {w wr wx wy : World} {s : ByteArray} {ob : Nat} {nid ep : Int} {lv : Value} {q q' : IH} {S : Nat → Prop} (h : RIn w wr wx s ob nid ep lv q) (hk : Keeps S wx wy) (hS : ∀ k, S k → k = w.heap.size ∨ wx.heap.size ≤ k) (hr : Rr 86 wy w.heap.size s q'.a q'.e) (hq : q'.h = q.h) : RIn w wr wy s ob nid ep lv q' := by
  have hol := block_lt h.box
  have hsz := h.sz
  refine ⟨hr, (hk.block _ hol (fun e => by have := hS _ e; omega)).trans h.box, ?_, h.kp.trans hk (fun k hlt e => (hS k e).elim (fun e => e) (fun e => by have := h.kp.size; omega)), hsz⟩
  rw [hq]
  exact row_keep hk h.row (fun k e e2 => by have := h.row.lt k e; have := hS k e2; omega)
theorem win_of_row {w : World} {base : Nat} {v : Value} {ws : List SentC} (h : w.ownsRow base 73 3 v ws.length (ws.flatMap encS)) : WinE w (fun k => base ≤ k) v ws := by
  have hc : ∀ g c, v = .slice (some ⟨g, 0, none⟩) ws.length c → ∀ q u, (ws.flatMap encS)[q]? = some u → w.cell? ⟨g, 0 + q, none⟩ = some u := fun g c e q u e2 => by
    subst e
    have hj := (List.getElem?_eq_some_iff.1 e2).1
    rw [flat_len encS 3 encS_len] at hj
    rw [Nat.zero_add, h.cellAt q (by omega)]
    exact e2
  rcases h.2 with ⟨h1, h2⟩ | ⟨g, cap, cur, h1, h2, h3, h4, h5, _⟩
  · exact .inl ⟨List.eq_nil_of_length_eq_zero h2, h1⟩
  · exact .inr ⟨g, 0, cap, h1, h4, h5, block_lt h3, h2, hc g cap h1⟩
set_option maxRecDepth 100000 in
set_option maxHeartbeats 16000000 in
theorem rparse_any (s : ByteArray) (w : World) (hs : s.size ≤ 9223372036854775807) : Calls Try.prog 20 #[.string s] w (RParsePI w s) := by
  have H0 : Hid (RPz w ((w.alloc (.cells #[.string s, .int .i64 0, .int .i64 0] 86)).alloc (.cells #[.slice none 0 0] 28)) s ⟨0, 0, -1, []⟩ (.slice none 0 0) [] (fun k => k = w.heap.size + 1)) := by
    have h1 : Rr 86 (w.alloc (.cells #[.string s, .int .i64 0, .int .i64 0] 86)) w.heap.size s 0 0 := heap_new _ _ _ rfl
    refine ⟨h1.keep (S := fun _ => False) ((Keeps.refl _ _).alloc _) (fun e => e), ⟨heap_new _ _ _ (by simp), World.ownsRow_nil _ _ _ _, rfl, fun k e => ?_, (fun k e => by cases e), (fun x hx => by cases hx)⟩, rfl, fun k e => ?_, ((Keeps.refl _ _).alloc _).alloc _⟩
    · have e : k = w.heap.size + 1 := e
      simp; omega
    · have e : k = w.heap.size + 1 := e
      omega
  have b0 : (0 : Int) ≤ 9223372036854775807 := by omega
  go_enter Try.func20, Try.ntmps20
  go_wp2_with fail
  refine (rwithin_any 0 10000 H0.out.rd hs b0).mono ?_
  rintro e w1 ⟨rfl, hr1, hk1⟩
  have HZ0 : Hid (RPz w w1 s (pz0 s) (.slice none 0 0) [] (fun k => k = w.heap.size + 1)) := ⟨hr1, H0.out.at_.keep hk1 (fun k e e2 => by have e : k = w.heap.size + 1 := e; have e2 : k = w.heap.size := e2; omega), rfl, H0.out.fr, H0.out.k0.trans hk1 (fun k hlt e => by have e : k = w.heap.size := e; omega)⟩
  have hcc : nuN s 0 0 = pzC s := rfl
  rw [hcc]
  have HPE : Hid (pzE s = wE (pzF s).e (decide ((pzF s).a = s.size))) := rfl
  have HFF1 : Hid (pzF s = orun s (pzC s).toNat (pz0 s)) := rfl
  have HZ := Lib.hid (@pz0_zero s)
  have HA0 : Hid ((pz0 s).a ≤ s.size) := by show nuT s 0 0 ≤ s.size; exact nuT_le (by omega)
  have HID0 : Hid ((pz0 s).id = -1 ∧ (pz0 s).l = []) := ⟨rfl, rfl⟩
  generalize hFg : pzF s = F at HPE HFF1
  have HFF2 : Hid (pzF s = F) := hFg
  generalize pz0 s = p0 at HZ0 HFF1 HZ HA0 HID0
  generalize pzC s = n at HFF1 HZ ⊢
  clear hr1 hk1 hcc hFg H0
  go_wp2
  go_loopw [8, 7] (RPzRel w s n F) (fun i _ _ => n.toNat - (intOf i).toNat)
  case atStart => exact ⟨0, p0, _, _, _, rfl, Nat.zero_le _, by rw [HID0.out.1], by rw [HID0.out.2]; rfl, HFF1.out.symm, HA0.out, fun e => ⟨by rw [HID0.out.1]; omega, by rw [HID0.out.1]; omega, (HZ.out e).1, (HZ.out e).2⟩, HZ0.out⟩
  case round =>
    obtain ⟨wu, rfl⟩ : ∃ wu : World, wu = wr := ⟨_, rfl⟩
    obtain ⟨k, p, v, L, F1, rfl, hk, rfl, hlk, hF, ha, hz, hp⟩ := hrel
    have HP := Lib.hid hp
    have HLK := Lib.hid hlk
    by_cases hgo : (k : Int) < n ∧ p.e = 0
    · obtain ⟨hkn, he⟩ := hgo
      obtain ⟨z1, z2, z3, z4⟩ := hz he
      have hkn2 : k < n.toNat := by omega
      rw [orun_next s hkn2 he] at hF
      have HF := Lib.hid hF
      have HKN := Lib.hid hkn2
      have hLl : L.length = k := by
        have := congrArg List.length hp.core
        rw [List.length_map, List.length_map, hlk] at this
        exact this
      have HLL := Lib.hid hLl
      obtain ⟨a, e, id, l⟩ := p
      obtain rfl : e = 0 := he
      have hr : Rr 86 wu w.heap.size s a 0 := hp.rd
      obtain ⟨r0, r1, r2, r3, r4, r5⟩ := hr.all
      have ha : a ≤ s.size := ha
      obtain ⟨b1, b2, b3⟩ := o3T_le (p := ⟨a, 0, id, l⟩) ha
      have z1 : -1 ≤ id := z1
      have z2 : id ≤ 1073741824 := z2
      have nn1 : IntKind.i64.wrap (id + 1) = id + 1 := IntWalk.i64_in _ (by omega)
      clear hp hF hz hlk
      go_wp2_with fail
      have HC1 : Calls Try.prog 36 #[.pointer (some ⟨w.heap.size, 0, none⟩), .int .i64 (id + 1), .int .i64 1073741824] wu (RrP 86 wu w.heap.size s (.int .i64 (o1N s ⟨a, 0, id, l⟩)) (o1T s ⟨a, 0, id, l⟩) (o1E s ⟨a, 0, id, l⟩)) := rwithin_any (id + 1) 1073741824 hr hs (Int.le_trans ha (by omega))
      refine HC1.mono ?_
      clear HC1
      rintro e w1 ⟨rfl, hr1, hk1⟩
      go_wp2_with fail
      have HC2 : Calls Try.prog 36 #[.pointer (some ⟨w.heap.size, 0, none⟩), .int .i64 0, .int .i64 32768] w1 (RrP 86 w1 w.heap.size s (.int .i64 (o2N s ⟨a, 0, id, l⟩)) (o2T s ⟨a, 0, id, l⟩) (o2E s ⟨a, 0, id, l⟩)) := rwithin_any 0 32768 hr1 hs (Int.le_trans b1 (by omega))
      refine HC2.mono ?_
      clear HC2
      rintro e w2 ⟨rfl, hr2, hk2⟩
      have hk12 : Keeps (fun k => k = w.heap.size) wu w2 := hk1.trans hk2 (fun _ _ e => e)
      have HI0 : Hid (RIn w wu (w2.alloc (.cells #[.int .i64 (o1N s ⟨a, 0, id, l⟩), .int .i64 (o2N s ⟨a, 0, id, l⟩), .slice none 0 0] 71)) s w2.heap.size (o1N s ⟨a, 0, id, l⟩) (o2N s ⟨a, 0, id, l⟩) (.slice none 0 0) ⟨o2T s ⟨a, 0, id, l⟩, o2E s ⟨a, 0, id, l⟩, newHd (o2N s ⟨a, 0, id, l⟩)⟩) :=
        ⟨hr2.keep (S := fun _ => False) ((Keeps.refl _ _).alloc _) (fun e => e), heap_new _ _ _ rfl, World.ownsRow_nil _ _ _ _, hk12.alloc _, r3, hk12.size⟩
      clear hk1 hk2 hk12 hr1 hr r0 r1 r2 r3 r4 r5 hr2
      go_wp2_with fail
      generalize hWA : w2.alloc _ = WA at HI0 ⊢
      generalize w2.heap.size = ob at HI0 ⊢
      have HC3 : Calls Try.prog 36 #[.pointer (some ⟨w.heap.size, 0, none⟩), .int .i64 1, .int .i64 5] WA (RrP 86 WA w.heap.size s (.int .i64 (o3N s ⟨a, 0, id, l⟩)) (o3T s ⟨a, 0, id, l⟩) (o3E s ⟨a, 0, id, l⟩)) := rwithin_any 1 5 HI0.out.rd hs (Int.le_trans b2 (by omega))
      refine HC3.mono ?_
      clear HC3
      rintro e w3 ⟨rfl, hr3, hk3⟩
      have HIN0 : Hid (RIn w wu w3 s ob (o1N s ⟨a, 0, id, l⟩) (o2N s ⟨a, 0, id, l⟩) (.slice none 0 0) (oBeg s ⟨a, 0, id, l⟩)) := HI0.out.keep (q' := oBeg s ⟨a, 0, id, l⟩) hk3 (fun k e => .inl e) hr3 rfl
      have HIR : Hid (oIn s ⟨a, 0, id, l⟩ = irun s (o3N s ⟨a, 0, id, l⟩).toNat (oBeg s ⟨a, 0, id, l⟩)) := rfl
      have HB3 : Hid ((oBeg s ⟨a, 0, id, l⟩).a ≤ s.size) := b3
      have HOB : Hid (HOk (oBeg s ⟨a, 0, id, l⟩).h ∧ (winL (oBeg s ⟨a, 0, id, l⟩).h).length = 0 ∧ (oBeg s ⟨a, 0, id, l⟩).h.epoch = o2N s ⟨a, 0, id, l⟩) := ⟨newHd_ok _, rfl, rfl⟩
      have HZK : Hid ((oBeg s ⟨a, 0, id, l⟩).e = 0 → o3N s ⟨a, 0, id, l⟩ ≤ 5) := by
        show _ → _
        intro h3
        obtain ⟨_, _, _, hb3, hn3, _⟩ := nuE_zero (show nuE s (o2T s ⟨a, 0, id, l⟩) (o2E s ⟨a, 0, id, l⟩) 1 5 = 0 from h3)
        rw [show o3N s ⟨a, 0, id, l⟩ = vgetN s (o2T s ⟨a, 0, id, l⟩) from hn3]
        exact hb3
      have HOST : Hid (ostep s ⟨a, 0, id, l⟩ = ⟨(oIn s ⟨a, 0, id, l⟩).a, (oIn s ⟨a, 0, id, l⟩).e, o1N s ⟨a, 0, id, l⟩, l ++ [(o1N s ⟨a, 0, id, l⟩, (oIn s ⟨a, 0, id, l⟩).h)]⟩) := rfl
      have HO1 : Hid (o1E s ⟨a, 0, id, l⟩ = 0 → -1 ≤ o1N s ⟨a, 0, id, l⟩ ∧ o1N s ⟨a, 0, id, l⟩ ≤ 1073741824) := by
        show _ → _
        intro h1
        obtain ⟨_, _, ha1, hb1, hn1, _⟩ := nuE_zero (show nuE s a 0 (id + 1) 1073741824 = 0 from h1)
        have : o1N s ⟨a, 0, id, l⟩ = vgetN s a := hn1
        omega
      have HO2 : Hid ((oIn s ⟨a, 0, id, l⟩).e = 0 → o1E s ⟨a, 0, id, l⟩ = 0) := by
        show _ → _
        intro h0
        have h3 : o3E s ⟨a, 0, id, l⟩ = 0 := by
          by_cases h9 : o3E s ⟨a, 0, id, l⟩ = 0
          · exact h9
          · have h8 : (irun s (o3N s ⟨a, 0, id, l⟩).toNat (oBeg s ⟨a, 0, id, l⟩)).e = 0 := h0
            rw [irun_stop s _ (p := oBeg s ⟨a, 0, id, l⟩) h9] at h8
            exact h8
        exact (nuE_zero (show nuE s (o1T s ⟨a, 0, id, l⟩) (o1E s ⟨a, 0, id, l⟩) 0 32768 = 0 from (nuE_zero (show nuE s (o2T s ⟨a, 0, id, l⟩) (o2E s ⟨a, 0, id, l⟩) 1 5 = 0 from h3)).1)).1
      clear hr3 hk3 HI0 hWA b1 b2 b3
      generalize oBeg s ⟨a, 0, id, l⟩ = q0 at HIN0 HIR HB3 HOB HZK
      generalize o3N s ⟨a, 0, id, l⟩ = kn at HIR HZK ⊢
      generalize ostep s ⟨a, 0, id, l⟩ = OS at HF HOST
      generalize oIn s ⟨a, 0, id, l⟩ = FI at HIR HOST HO2
      generalize o1N s ⟨a, 0, id, l⟩ = nid at HOST HO1 HIN0 ⊢
      generalize o2N s ⟨a, 0, id, l⟩ = ep at HOB HIN0 ⊢
      go_wp2
      go_loopw [11] (fun i wx => ∃ (j : Nat) (q : IH) (lv : Value), i = .int .i64 j ∧ j ≤ kn.toNat ∧ irun s (kn.toNat - j) q = FI ∧ q.a ≤ s.size ∧ HOk q.h ∧ (winL q.h).length = j ∧ q.h.epoch = ep ∧ (q.e = 0 → kn ≤ 5) ∧ RIn w wu wx s ob nid ep lv q) (fun i _ => kn.toNat - (intOf i).toNat)
      case atStart => exact ⟨0, q0, _, rfl, Nat.zero_le _, HIR.out.symm, HB3.out, HOB.out.1, HOB.out.2.1, HOB.out.2.2, HZK.out, HIN0.out⟩
      case round =>
        obtain ⟨wo, rfl⟩ : ∃ wo : World, wo = wr := ⟨_, rfl⟩
        obtain ⟨j, q, lv, rfl, hj, hI, hqa, hok, hwl, hep, hk5, hin⟩ := hrel
        have HIN := Lib.hid hin
        have HI := Lib.hid hI
        have HWL := Lib.hid hwl
        obtain ⟨lva, lvc, rfl⟩ := own_slice hin.row
        obtain ⟨r0, r1, r2, r3, r4, r5⟩ := hin.rd.all
        have hrow := hin.row
        rw [hwl] at hrow
        have hbx := hin.box
        have hol := block_lt hbx
        rw [hwl] at hbx
        by_cases hgi : (j : Int) < kn ∧ q.e = 0
        · obtain ⟨hjk, hqe⟩ := hgi
          have hkn5 := hk5 hqe
          have hj2 : j < kn.toNat := by omega
          have hj5 : j < 5 := by omega
          have HJ2 := Lib.hid hj2
          have HI2 : Hid (irun s (kn.toNat - (j + 1)) (istep s q) = FI) := by show _ = _; rw [← irun_next s hj2 hqe]; exact HI.out
          obtain ⟨b1, b2, b3⟩ := i3T_le hqa
          have HB9 := Lib.hid b3
          have HST : Hid (istep s q = ⟨i3T s q, i3E s q, addH q.h ⟨i1N s q, i2N s q, i3N s q⟩⟩) := rfl
          have HWN : Hid (∀ x, winL (addH q.h x) = winL q.h ++ [x] ∧ HOk (addH q.h x) ∧ (addH q.h x).epoch = q.h.epoch) := by
            show ∀ _, _
            exact fun x => ⟨by rw [winL_add hok, if_neg (by rw [hwl]; omega)], addH_ok hok x, rfl⟩
          have HEP := Lib.hid hep
          have HK5 := Lib.hid hkn5
          rw [hqe] at r2
          have hx0 : (wo.alloc (.cells #[.int .i64 0, .int .i64 0, .int .i64 0] 73)).heap[wo.heap.size]? = some (.cells #[.int .i64 0, .int .i64 0, .int .i64 0] 73 (0, 0)) := heap_new _ _ _ rfl
          have hrx : Rr 86 (wo.alloc (.cells #[.int .i64 0, .int .i64 0, .int .i64 0] 73)) w.heap.size s q.a q.e := hin.rd.keep (S := fun _ => False) ((Keeps.refl _ _).alloc _) (fun e => e)
          have hkx : Keeps (fun k => k = w.heap.size ∨ k = wo.heap.size) wo (wo.alloc (.cells #[.int .i64 0, .int .i64 0, .int .i64 0] 73)) := (Keeps.refl _ _).alloc _
          have HX0 := Lib.hid hx0
          have HRX := Lib.hid hrx
          have HKX := Lib.hid hkx
          have hnx : ¬ wo.heap.size = w.heap.size := by omega
          have HROW := Lib.hid hrow
          have HBX := Lib.hid hbx
          have HRL := Lib.hid r3
          have HOL := Lib.hid hol
          clear hx0 hrx hkx hI hk5 hok hep hin hrow hbx r4 r5 r0 r1
          go_wp2_with fail
          have HC1 : Calls Try.prog 36 #[.pointer (some ⟨w.heap.size, 0, none⟩), .int .i64 0, .int .i64 1073741824] (wo.alloc (.cells #[.int .i64 0, .int .i64 0, .int .i64 0] 73)) (RrP 86 (wo.alloc (.cells #[.int .i64 0, .int .i64 0, .int .i64 0] 73)) w.heap.size s (.int .i64 (i1N s q)) (i1T s q) (i1E s q)) := rwithin_any 0 1073741824 HRX.out hs (Int.le_trans hqa (by omega))
          refine HC1.mono ?_
          clear HC1
          rintro e w4 ⟨rfl, hr4, hk4⟩
          have hx4 := (hk4.block _ (block_lt HX0.out) hnx).trans HX0.out
          have c0 := block_cell hx4 0
          have f0 := block_free hx4 0
          have l4 := block_lt hx4
          have HX4 : Hid ((w4.setCell ⟨wo.heap.size, 0, none⟩ (.int .i64 (i1N s q))).heap[wo.heap.size]? = some (.cells #[.int .i64 (i1N s q), .int .i64 0, .int .i64 0] 73 (0, 0))) := setCell_block hx4 0 _
          have HR4 : Hid (Rr 86 (w4.setCell ⟨wo.heap.size, 0, none⟩ (.int .i64 (i1N s q))) w.heap.size s (i1T s q) (i1E s q)) := Rr.keep hr4 ((Keeps.refl (fun k => k = wo.heap.size) w4).setC 0 _ (fun _ => rfl)) (fun e => hnx e.symm)
          have HK4 : Hid (Keeps (fun k => k = w.heap.size ∨ k = wo.heap.size) wo (w4.setCell ⟨wo.heap.size, 0, none⟩ (.int .i64 (i1N s q)))) := (HKX.out.trans hk4 (fun _ _ e => .inl e)).setC 0 _ (fun _ => .inr rfl)
          clear hr4 hk4 hx4 r2 r3 hol
          go_wp2_with fail
          generalize w4.setCell ⟨wo.heap.size, 0, none⟩ (.int .i64 (i1N s q)) = W4 at HX4 HR4 HK4 ⊢
          have HC2 : Calls Try.prog 36 #[.pointer (some ⟨w.heap.size, 0, none⟩), .int .i64 0, .int .i64 1099511627776] W4 (RrP 86 W4 w.heap.size s (.int .i64 (i2N s q)) (i2T s q) (i2E s q)) := rwithin_any 0 1099511627776 HR4.out hs (Int.le_trans b1 (by omega))
          refine HC2.mono ?_
          clear HC2
          rintro e w5 ⟨rfl, hr5, hk5⟩
          have hx5 := (hk5.block _ (block_lt HX4.out) hnx).trans HX4.out
          have c1 := block_cell hx5 1
          have f1 := block_free hx5 1
          have l5 := block_lt hx5
          have HX6 : Hid ((w5.setCell ⟨wo.heap.size, 1, none⟩ (.int .i64 (i2N s q))).heap[wo.heap.size]? = some (.cells #[.int .i64 (i1N s q), .int .i64 (i2N s q), .int .i64 0] 73 (0, 0))) := setCell_block hx5 1 _
          have HR6 : Hid (Rr 86 (w5.setCell ⟨wo.heap.size, 1, none⟩ (.int .i64 (i2N s q))) w.heap.size s (i2T s q) (i2E s q)) := Rr.keep hr5 ((Keeps.refl (fun k => k = wo.heap.size) w5).setC 1 _ (fun _ => rfl)) (fun e => hnx e.symm)
          have HK6 : Hid (Keeps (fun k => k = w.heap.size ∨ k = wo.heap.size) wo (w5.setCell ⟨wo.heap.size, 1, none⟩ (.int .i64 (i2N s q)))) := (HK4.out.trans hk5 (fun _ _ e => .inl e)).setC 1 _ (fun _ => .inr rfl)
          clear hr5 hk5 hx5 c0 f0 l4
          go_wp2_with fail
          generalize w5.setCell ⟨wo.heap.size, 1, none⟩ (.int .i64 (i2N s q)) = W6 at HX6 HR6 HK6 ⊢
          have HC3 : Calls Try.prog 36 #[.pointer (some ⟨w.heap.size, 0, none⟩), .int .i64 1, .int .i64 50] W6 (RrP 86 W6 w.heap.size s (.int .i64 (i3N s q)) (i3T s q) (i3E s q)) := rwithin_any 1 50 HR6.out hs (Int.le_trans b2 (by omega))
          refine HC3.mono ?_
          clear HC3
          rintro e w7 ⟨rfl, hr7, hk7⟩
          have hx7 := (hk7.block _ (block_lt HX6.out) hnx).trans HX6.out
          have d2 := block_cell hx7 2
          have g2 := block_free hx7 2
          have l7 := block_lt hx7
          have HX8 : Hid ((w7.setCell ⟨wo.heap.size, 2, none⟩ (.int .i64 (i3N s q))).heap[wo.heap.size]? = some (.cells #[.int .i64 (i1N s q), .int .i64 (i2N s q), .int .i64 (i3N s q)] 73 (0, 0))) := setCell_block hx7 2 _
          have HR8 : Hid (Rr 86 (w7.setCell ⟨wo.heap.size, 2, none⟩ (.int .i64 (i3N s q))) w.heap.size s (i3T s q) (i3E s q)) := Rr.keep hr7 ((Keeps.refl (fun k => k = wo.heap.size) w7).setC 2 _ (fun _ => rfl)) (fun e => hnx e.symm)
          have HK8 : Hid (Keeps (fun k => k = w.heap.size ∨ k = wo.heap.size) wo (w7.setCell ⟨wo.heap.size, 2, none⟩ (.int .i64 (i3N s q)))) := (HK6.out.trans hk7 (fun _ _ e => .inl e)).setC 2 _ (fun _ => .inr rfl)
          have HQ2 : Hid (w7.cell? ⟨ob, 2, none⟩ = some (.slice lva j lvc)) := (HK6.out.trans hk7 (fun _ _ e => .inl e)).cell' (block_cell HBX.out 2) (fun e => by have := HOL.out; have := HIN.out.sz; rcases e with e | e <;> (have e : ob = _ := e; omega))
          have HQL : Hid (ob < w7.heap.size) := by have h1 := (HK6.out.trans hk7 (fun _ _ e => .inl e)).size; have := HOL.out; show _ < _; omega
          clear hr7 hk7 hx7 c1 f1 l5
          obtain ⟨W8, hW8⟩ : ∃ W8 : World, W8 = w7.setCell ⟨wo.heap.size, 2, none⟩ (.int .i64 (i3N s q)) := ⟨_, rfl⟩
          rw [← hW8] at HX8 HR8 HK8
          have hI8 := HIN.out.keep (q' := ⟨i3T s q, i3E s q, q.h⟩) HK8.out (fun k e => e.imp (fun e => e) (fun e => by rw [e]; exact Nat.le_refl _)) HR8.out rfl
          have HI8 := Lib.hid hI8
          have e0 := block_cell HX8.out 0
          have e1 := block_cell HX8.out 1
          have e2 := block_cell HX8.out 2
          have el := block_lt HX8.out
          have hbx8 := hI8.box
          have hown8 := hI8.row
          rw [HWL.out] at hbx8 hown8
          have z1 := block_cell hbx8 2
          have zf := block_free hbx8 2
          have zl := block_lt hbx8
          have HZB := Lib.hid hbx8
          have HOW := Lib.hid hown8
          have HSZ := Lib.hid hI8.sz
          have hob1 : ob + 1 ≤ W8.heap.size := zl
          subst hW8
          have q2 : w7.cell? ⟨ob, 2, none⟩ = some (.slice lva j lvc) := HQ2.out
          have ql : ob < w7.heap.size := HQL.out
          have hnob : ¬ ob = wo.heap.size := by have := HOL.out; omega
          clear hI8 hbx8 hown8
          go_wp2_with (at_builtin; refine wpList_app1 rfl rfl Try.underlying69 infoSent rfl (by decide) rfl (HOW.out.alloc _) rfl (heap_new _ _ _ (by simp)) rfl rfl ⟨by omega, by decide⟩ (by first | (simp; done) | (simp; omega)) ?_; intro g1 cap1 w9 hA; have HAA := Lib.hid hA; have hg9 := grown_alloc hA.grown; have hb9 := (hg9.block _ (block_lt HZB.out) (fun e => by have := (HOW.out.lt _ e.symm).1; omega)).trans HZB.out; have u1 := block_cell hb9 2; have u2 := block_free hb9 2; have u3 := block_lt hb9; have HG9 := Lib.hid hg9; have HB99 := Lib.hid hb9; clear hA hg9 hb9)
          all_goals
            have HFIN : Hid (RIn w wu (w9.setCell ⟨ob, 2, none⟩ (.slice (some ⟨g1, 0, none⟩) (j + 1) cap1)) s ob nid ep (.slice (some ⟨g1, 0, none⟩) (j + 1) cap1) (istep s q)) := by
              have hkg : Keeps (fun k => k = w.heap.size ∨ ob ≤ k) (w7.setCell ⟨wo.heap.size, 2, none⟩ (.int .i64 (i3N s q))) w9 := (Keeps.refl (fun k => k = w.heap.size ∨ ob ≤ k) (w7.setCell ⟨wo.heap.size, 2, none⟩ (.int .i64 (i3N s q)))).grown HG9.out (fun k e _ => .inr (by have := (HOW.out.lt k e).1; omega))
              have hks : Keeps (fun k => k = w.heap.size ∨ ob ≤ k) w9 (w9.setCell ⟨ob, 2, none⟩ (.slice (some ⟨g1, 0, none⟩) (j + 1) cap1)) := (Keeps.refl (fun k => k = w.heap.size ∨ ob ≤ k) w9).setC 2 _ (fun _ => .inr (Nat.le_refl _))
              have hsz := HSZ.out
              have hk1 := HI8.out.kp
              have hrd1 : Rr 86 w9 w.heap.size s (i3T s q) (i3E s q) := (HG9.out.block _ (block_lt HR8.out) (fun e => by have := (HOW.out.lt _ e.symm).1; omega)).trans HR8.out
              rw [HST.out]
              refine ⟨hrd1.keep (S := fun k => k = ob) ((Keeps.refl _ _).setC 2 _ (fun _ => rfl)) (fun e => by have e : w.heap.size = ob := e; omega), setCell_block HB99.out 2 _, ?_, (hk1.trans hkg (fun k hlt e => e.elim (fun e => e) (fun e => by omega))).trans hks (fun k hlt e => e.elim (fun e => e) (fun e => by omega)), hsz⟩
              have hrw := HAA.out.own
              have hrw2 := row_keep ((Keeps.refl (fun k => k = ob) w9).setC 2 (.slice (some ⟨g1, 0, none⟩) (j + 1) cap1) (fun _ => rfl)) hrw (fun k e1 e2 => by have := (hrw.lt k e1).1; have e2 : k = ob := e2; omega)
              show World.ownsRow _ _ _ _ _ (winL (addH q.h ⟨i1N s q, i2N s q, i3N s q⟩)).length ((winL (addH q.h ⟨i1N s q, i2N s q, i3N s q⟩)).flatMap encS)
              rw [(HWN.out _).1, List.length_append, HWL.out, List.flatMap_append]
              exact hrw2
            go_wp2
            go_roundw
            case rel => exact ⟨j + 1, istep s q, _, by go_num, HJ2.out, HI2.out, HB9.out, by rw [HST.out]; exact (HWN.out _).2.1, by rw [HST.out]; show (winL (addH q.h _)).length = _; rw [(HWN.out _).1, List.length_append, HWL.out]; rfl, by rw [HST.out]; show (addH q.h _).epoch = _; rw [(HWN.out _).2.2]; exact HEP.out, fun _ => HK5.out, HFIN.out⟩
            case measure => have := HJ2.out; simp [intOf]; omega
        · have hFI : Hid (q = FI) := by
            show _ = _
            rw [← HI.out]
            by_cases hqe : q.e = 0
            · rw [show kn.toNat - j = 0 by omega]; rfl
            · exact (irun_stop s _ hqe).symm
          have hFI2 := hFI.out
          subst hFI2
          have hat := HP.out.at_.keep hin.kp (fun k e e2 => by have := HP.out.fr k e; have e2 : k = w.heap.size := e2; omega)
          have x0 : wo.cell? ⟨w.heap.size + 1, 0, none⟩ = some v := block_cell hat.blk 0
          have xf := block_free hat.blk 0
          have xl := block_lt hat.blk
          obtain ⟨va, vc, rfl⟩ := own_slice hat.row
          rw [HLL.out] at hat x0
          have hrowP := hat.row
          rw [HLL.out] at hrowP
          have HAT := Lib.hid hat
          have HRP := Lib.hid hrowP
          have y0 := block_cell hbx 0
          have y1 := block_cell hbx 1
          have y2 := block_cell hbx 2
          have hkl : k ≤ 10000 := by omega
          have HLV : Hid (WinE wo (fun k => ob + 1 ≤ k) (.slice lva j lvc) (winL q.h)) := by
            have := win_of_row hin.row
            rw [hwl] at this
            exact this
          have HRL : Hid (OS.a ≤ s.size ∧ (OS.e = 0 → -1 ≤ OS.id ∧ OS.id ≤ 1073741824)) := by
            show _ ∧ (_ → _)
            rw [HOST.out]
            exact ⟨hqa, fun e => HO1.out (HO2.out e)⟩
          have HOI : Hid (nid = OS.id ∧ OS.l = l ++ [(nid, q.h)]) := by show _ ∧ _; rw [HOST.out]; exact ⟨rfl, rfl⟩
          have HCO : Hid (coreO ⟨nid, ep, .slice lva j lvc, winL q.h⟩ = coreI (nid, q.h)) := by show _ = _; unfold coreO coreI; rw [hep]
          have HZN : Hid (0 ≤ n ∧ n ≤ 10000) := ⟨z3, z4⟩
          have hsz := hin.sz
          clear hat hrowP hrow hI hk5 hok hep hbx hwl hFI
          have hlvk : lva = lva := rfl
          have HNX : Hid (∀ g1 cap1 w9, w9.ownsRow 0 71 3 (.slice (some ⟨g1, 0, none⟩) (k + 1) cap1) (k + 1) (L.flatMap encI ++ [.int .i64 nid, .int .i64 ep, .slice lva j lvc]) → wo.grownBy w9 (Value.slice va k vc).ownBlock → ((Value.slice va k vc).ownBlock = some g1 ∨ wo.heap.size ≤ g1) →
              ∃ F2, RPz w (w9.setCell ⟨w.heap.size + 1, 0, none⟩ (.slice (some ⟨g1, 0, none⟩) (k + 1) cap1)) s OS (.slice (some ⟨g1, 0, none⟩) (k + 1) cap1) (L ++ [⟨nid, ep, .slice lva j lvc, winL q.h⟩]) F2) := by
            show ∀ _ _ _, _ → _ → _ → _
            intro g1 cap1 w9 hrow9 hg hat9
            have hAU := HP.out.at_
            rw [HLL.out] at hAU
            have hown1 : ∀ j', (Value.slice (some ⟨g1, 0, none⟩) (k + 1) cap1).ownBlock = some j' → j' = g1 := fun j' e => by cases e; rfl
            have hbl := block_lt hAU.blk
            have hwo := HIN.out.kp.size
            have howlt : ∀ j', (Value.slice va k vc).ownBlock = some j' → j' < wu.heap.size ∧ w.heap.size + 1 < j' := fun j' e => by
              have h1 := hAU.own j' e
              have h2 := hAU.lt j' h1.1
              have h3 := HP.out.fr j' h1.1
              exact ⟨h2, by have := h1.2; omega⟩
            have hkf : Keeps (fun j' => j' = w.heap.size ∨ j' = w.heap.size + 1 ∨ (Value.slice va k vc).ownBlock = some j') wu (w9.setCell ⟨w.heap.size + 1, 0, none⟩ (.slice (some ⟨g1, 0, none⟩) (k + 1) cap1)) := ((HIN.out.kp.mono (S1 := fun j' => j' = w.heap.size ∨ j' = w.heap.size + 1 ∨ (Value.slice va k vc).ownBlock = some j') (fun _ _ e => .inl e)).grown hg (fun j' e _ => .inr (.inr e))).setC 0 _ (fun _ => .inr (.inl rfl))
            have hk2 : Keeps (fun j' => j' = w.heap.size + 1 ∨ (Value.slice va k vc).ownBlock = some j') wo (w9.setCell ⟨w.heap.size + 1, 0, none⟩ (.slice (some ⟨g1, 0, none⟩) (k + 1) cap1)) := ((Keeps.refl (fun j' => j' = w.heap.size + 1 ∨ (Value.slice va k vc).ownBlock = some j') wo).grown hg (fun j' e _ => .inr e)).setC 0 _ (fun _ => .inl rfl)
            have hkl : Keeps (fun j' => j' = w.heap.size + 1) w9 (w9.setCell ⟨w.heap.size + 1, 0, none⟩ (.slice (some ⟨g1, 0, none⟩) (k + 1) cap1)) := (Keeps.refl (fun j' => j' = w.heap.size + 1) w9).setC 0 _ (fun _ => rfl)
            have blk9 := (hg.block (w.heap.size + 1) (by omega) (fun e => by have := howlt _ e.symm; omega)).trans HAT.out.blk
            have hg1b : ¬ g1 = w.heap.size + 1 := fun e => hat9.elim (fun e2 => by have := howlt _ e2; omega) (fun e2 => by omega)
            have hlL : (L ++ [(⟨nid, ep, .slice lva j lvc, winL q.h⟩ : OneI)]).length = k + 1 := by rw [List.length_append, HLL.out]; rfl
            have rowF := row_keep hkl hrow9 (fun j' e e2 => hg1b (by rw [← hown1 j' e]; exact e2))
            have hst := hAU.step2 (v' := .slice (some ⟨g1, 0, none⟩) (k + 1) cap1) (L' := L ++ [⟨nid, ep, .slice lva j lvc, winL q.h⟩]) hkf (fun j' hF e => e.elim (fun e => by have := HP.out.fr j' hF; omega) (fun e => e)) (setCell_block blk9 0 _) (by rw [hlL, List.flatMap_append]; exact rowF) (fun j' e => by rw [hown1 j' e]; exact hat9.imp (fun e2 => e2) (fun e2 => by omega)) (fun x hx => by
              rcases List.mem_append.1 hx with hx | hx
              · exact .inl ⟨x, hx, rfl, rfl⟩
              · rw [List.mem_singleton.1 hx]
                exact .inr (HLV.out.keep hk2 (fun j' hlt e e2 => by
                  have e : ob + 1 ≤ j' := e
                  rcases e2 with e2 | e2
                  · omega
                  · have := howlt _ e2; omega) (fun j' hlt e => by
                  have e : ob + 1 ≤ j' := e
                  exact ⟨by omega, fun e2 => hat9.elim (fun e3 => by have e4 := hown1 j' e2; have := howlt _ e3; omega) (fun e3 => by have e4 := hown1 j' e2; omega)⟩)))
            refine ⟨_, ?_, hst, ?_, fun j' e => ?_, HP.out.k0.trans hkf (fun j' hlt e => ?_)⟩
            · rw [HOST.out]
              exact HIN.out.rd.keep hk2 (fun e => e.elim (fun e => by omega) (fun e => by have := howlt _ e; omega))
            · rw [HOI.out.2, List.map_append, List.map_append, HP.out.core]
              show _ ++ [coreO _] = _ ++ [coreI _]
              rw [HCO.out]
            · rcases e with e | e
              · exact HP.out.fr j' e
              · omega
            · rcases e with e | e | e
              · omega
              · omega
              · have := howlt _ e; omega
          clear hlvk
          by_cases hjk : (j : Int) < kn
          · have he9 : ¬ q.e = 0 := fun e => hgi ⟨hjk, e⟩
            have he : (q.e == 0) = false := by rw [beq_eq_false_iff_ne]; exact he9
            clear hgi he9
            go_wp2
            go_region_law (refine step_app1 rfl rfl Try.underlying26 infoOneI rfl (by decide) rfl ((HRP.out.alloc _).drew) rfl (heap_new_drew _ _ _ (by simp)) rfl rfl ⟨by omega, by decide⟩ (by first | (simp; done) | (simp; omega) | exact Nat.zero_le _) ?_; intro g1 cap1 w9 hA; have HAA := Lib.hid hA; have hg9 := grown_alloc (grown_drew hA.grown); have HAT9 := Lib.hid (hA.at_.imp (fun e => e) (fun e => (by rw [e]; simp : wo.heap.size ≤ g1))); have hb9 := (hg9.block _ (block_lt HAT.out.blk) (fun e => (HAT.out.own _ e.symm).2 rfl)).trans HAT.out.blk; have u1 := block_cell hb9 0; have u2 := block_free hb9 0; have u3 := block_lt hb9; have HG9 := Lib.hid hg9; clear hA hg9 hb9)
            all_goals
              go_wp2
              obtain ⟨F2, hF2⟩ := HNX.out _ _ _ HAA.out.own HG9.out HAT9.out
              have HF2 := Lib.hid hF2
              clear hF2
              go_roundw
              case rel => exact ⟨k + 1, OS, _, _, F2, by go_num, HKN.out, by rw [HOI.out.1], by rw [HOI.out.2, List.length_append, HLK.out]; rfl, HF.out, HRL.out.1, fun e => ⟨(HRL.out.2 e).1, (HRL.out.2 e).2, HZN.out.1, HZN.out.2⟩, HF2.out⟩
              case measure => have := HKN.out; simp [intOf]; omega
          · clear hgi
            go_wp2
            go_region_law (refine step_app1 rfl rfl Try.underlying26 infoOneI rfl (by decide) rfl ((HRP.out.alloc _).drew) rfl (heap_new_drew _ _ _ (by simp)) rfl rfl ⟨by omega, by decide⟩ (by first | (simp; done) | (simp; omega) | exact Nat.zero_le _) ?_; intro g1 cap1 w9 hA; have HAA := Lib.hid hA; have hg9 := grown_alloc (grown_drew hA.grown); have HAT9 := Lib.hid (hA.at_.imp (fun e => e) (fun e => (by rw [e]; simp : wo.heap.size ≤ g1))); have hb9 := (hg9.block _ (block_lt HAT.out.blk) (fun e => (HAT.out.own _ e.symm).2 rfl)).trans HAT.out.blk; have u1 := block_cell hb9 0; have u2 := block_free hb9 0; have u3 := block_lt hb9; have HG9 := Lib.hid hg9; clear hA hg9 hb9)
            all_goals
              go_wp2
              obtain ⟨F2, hF2⟩ := HNX.out _ _ _ HAA.out.own HG9.out HAT9.out
              have HF2 := Lib.hid hF2
              clear hF2
              go_roundw
              case rel => exact ⟨k + 1, OS, _, _, F2, by go_num, HKN.out, by rw [HOI.out.1], by rw [HOI.out.2, List.length_append, HLK.out]; rfl, HF.out, HRL.out.1, fun e => ⟨(HRL.out.2 e).1, (HRL.out.2 e).2, HZN.out.1, HZN.out.2⟩, HF2.out⟩
              case measure => have := HKN.out; simp [intOf]; omega
    · have hFF : Hid (F = p) := by
        show _ = _
        rw [← hF]
        by_cases hqe : p.e = 0
        · have := hz hqe
          rw [show n.toNat - k = 0 by omega]; rfl
        · exact orun_stop s _ hqe
      have HPZ : Hid (pzE s = wE p.e (decide (p.a = s.size))) := by show _ = _; rw [HPE.out, hFF.out]
      have HYES : Hid (wE p.e (decide (p.a = s.size)) = 0 → RParsePI w s (.returned (.tuple #[.pointer (some ⟨w.heap.size + 1, 0, none⟩), .int .i64 0])) wu) := by
        show _ → _
        intro h0
        refine .inr ⟨by rw [HPZ.out]; exact h0, _, F1, rfl, ?_, fun k e => by have := HP.out.fr k e; omega, HP.out.k0⟩
        rw [HFF2.out, hFF.out]
        exact ⟨v, L, HP.out.at_, HP.out.core⟩
      have HNO : Hid (∀ x wx, wE p.e (decide (p.a = s.size)) = x → x ≠ 0 → Keeps (fun k => k = w.heap.size) wu wx → RParsePI w s (.returned (.tuple #[.pointer none, .int .i64 x])) wx) := by
        show ∀ _ _, _ → _ → _ → _
        intro x wx hx hx0 hk
        exact .inl ⟨by rw [HPZ.out, hx]; exact hx0, by rw [HPZ.out, hx], HP.out.k0.trans hk (fun k hlt e => by have e : k = w.heap.size := e; omega)⟩
      obtain ⟨r0, r1, r2, r3, r4, r5⟩ := hp.rd.all
      obtain ⟨a, e, id, l⟩ := p
      have r1 : wu.cell? ⟨w.heap.size, 1, none⟩ = some (.int .i64 a) := r1
      have r2 : wu.cell? ⟨w.heap.size, 2, none⟩ = some (.int .i64 e) := r2
      have HYES : Hid (wE e (decide (a = s.size)) = 0 → RParsePI w s (.returned (.tuple #[.pointer (some ⟨w.heap.size + 1, 0, none⟩), .int .i64 0])) wu) := HYES.out
      have HNO : Hid (∀ x wx, wE e (decide (a = s.size)) = x → x ≠ 0 → Keeps (fun k => k = w.heap.size) wu wx → RParsePI w s (.returned (.tuple #[.pointer none, .int .i64 x])) wx) := HNO.out
      have hgo2 : ((k : Int) < n ∧ ¬ e = 0) ∨ ¬ (k : Int) < n := by
        by_cases h1 : (k : Int) < n
        · exact .inl ⟨h1, fun h2 => hgo ⟨h1, h2⟩⟩
        · exact .inr h1
      clear hF hz hp hgo hFF HPZ hlk
      by_cases he0 : e = 0
      · have hnn : ¬ (k : Int) < n := hgo2.elim (fun h => absurd he0 h.2) (fun h => h)
        have he : (e == 0) = true := by simp [he0]
        by_cases has : a = s.size
        · have ha1 : (a == (s.size : Int)) = true := by simp [has]
          have hw0 : wE e (decide (a = s.size)) = 0 := by rw [he0, decide_eq_true has]; rfl
          have HY := Lib.hid (HYES.out hw0)
          clear hgo2 has hw0 ha
          subst he0
          go_wp2
          go_ret2
          exact HY.out
        · have ha1 : (a == (s.size : Int)) = false := by rw [beq_eq_false_iff_ne]; exact has
          have hw0 : wE e (decide (a = s.size)) = 3 := by rw [he0, decide_eq_false has]; rfl
          have HN := Lib.hid (fun wx hk => HNO.out 3 wx hw0 (by decide) hk)
          clear hgo2 has hw0 ha
          subst he0
          go_wp2
          go_quiet (fail)
          go_wp2
          go_ret2
          exact HN.out _ (((Keeps.refl (fun k => k = w.heap.size) wu).setC 2 _ (fun _ => rfl)).drewN _)
      · have he : (e == 0) = false := by rw [beq_eq_false_iff_ne]; exact he0
        have hw0 : wE e (decide (a = s.size)) = e := by unfold wE; rw [if_neg he0]
        have HN := Lib.hid (fun wx hk => HNO.out e wx hw0 he0 hk)
        clear hw0 ha he0
        rcases hgo2 with ⟨h1, _⟩ | h1
        all_goals
          go_wp2
          go_quiet (fail)
          go_wp2
          go_ret2
          exact HN.out _ ((Keeps.refl _ _).drewN _)
end Go.Proofs.Ytbjpifipjcfhkaa
