/-
  The two readers of numbers.
-/
import Derived.Test.YtbjpifipjcfhkaaJa
import Derived.Test.YtbjpifipjcfhkaaVf
import Derived.Deep.RegionWith
import Derived.Deep.DeepCutAuto
namespace Go.Proofs.Ytbjpifipjcfhkaa
open Go.RowKit Fx

def wE (e : Int) (is : Bool) : Int := if e = 0 then (if is = true then 0 else 3) else e
def nuN (s : ByteArray) (a e : Int) : Int := if e = 0 then vgetN s a else 0
def nuT (s : ByteArray) (a e : Int) : Int := if e = 0 then vgetT s a else a
def nuE (s : ByteArray) (a e lo hi : Int) : Int := if e = 0 then wE (vgetE s a) (decide (lo ≤ vgetN s a) && decide (vgetN s a ≤ hi)) else e
/-- A reader's record of type ty in block b. -/
def Rr (ty : Nat) (w : World) (b : Nat) (s : ByteArray) (i e : Int) : Prop := w.heap[b]? = some (.cells #[.string s, .int .i64 i, .int .i64 e] ty (0, 0))
def RrP (ty : Nat) (w : World) (b : Nat) (s : ByteArray) (v : Value) (i e : Int) (en : Ending) (w' : World) : Prop := en = .returned v ∧ Rr ty w' b s i e ∧ Keeps (fun k => k = b) w w'
/-- What a walk uses of it. -/
structure RrC (ty : Nat) (w : World) (b : Nat) (s : ByteArray) (i e : Int) : Prop where
  c0 : w.cell? ⟨b, 0, none⟩ = some (.string s)
  c1 : w.cell? ⟨b, 1, none⟩ = some (.int .i64 i)
  c2 : w.cell? ⟨b, 2, none⟩ = some (.int .i64 e)
  lt : b < w.heap.size
  f1 : w.frozen? ⟨b, 1, none⟩ = false
  f2 : w.frozen? ⟨b, 2, none⟩ = false
section
variable {ty : Nat} {w w' : World} {b : Nat} {s : ByteArray} {i e : Int}
theorem Rr.all (h : Rr ty w b s i e) : RrC ty w b s i e := ⟨block_cell h 0, block_cell h 1, block_cell h 2, block_lt h, block_free h 1, block_free h 2⟩
theorem Rr.keep {S : Nat → Prop} (h : Rr ty w b s i e) (hk : Keeps S w w') (hb : ¬ S b) : Rr ty w' b s i e := (hk.block b (block_lt h) hb).trans h
theorem Rr.set1 (h : Rr ty w b s i e) (x : Int) : Rr ty (w.setCell ⟨b, 1, none⟩ (.int .i64 x)) b s x e := setCell_block h 1 _
theorem Rr.set2 (h : Rr ty w b s i e) (x : Int) : Rr ty (w.setCell ⟨b, 2, none⟩ (.int .i64 x)) b s i x := setCell_block h 2 _
theorem Rr.drew (h : Rr ty w b s i e) : Rr ty w.drew b s i e := h
end
theorem kb_set {w wx : World} {b : Nat} (h : Keeps (fun k => k = b) w wx) (j : Nat) (v : Value) : Keeps (fun k => k = b) w (wx.setCell ⟨b, j, none⟩ v) := h.setC j v (fun _ => rfl)
theorem k0b {w wx : World} {b : Nat} (h : K0 w wx) : Keeps (fun k => k = b) w wx := h.mono (fun _ _ e => e.elim)
set_option maxRecDepth 100000 in
set_option maxHeartbeats 4000000 in
theorem number_any {w : World} {b : Nat} {s : ByteArray} {i e : Int} (lo hi : Int) (h : Rr 77 w b s i e) (hs : s.size ≤ 9223372036854775807) (ha : i ≤ 9223372036854775807) :
    Calls Try.prog 31 #[.pointer (some ⟨b, 0, none⟩), .int .i64 lo, .int .i64 hi] w (RrP 77 w b s (.int .i64 (nuN s i e)) (nuT s i e) (nuE s i e lo hi)) := by
  obtain ⟨c0, c1, c2, lt, f1, f2⟩ := h.all
  have HH := Lib.hid h
  unfold nuN nuT nuE
  by_cases he : e = 0
  · subst he
    have HG : Hid (∀ wx, Calls Try.prog 38 #[.string s, .int .i64 i] wx (GetPost wx s i)) := by
      show ∀ _, _
      exact fun wx => vget_any s i wx hs ha
    unfold GetPost at HG
    simp only [if_true]
    generalize vgetN s i = n at HG ⊢
    generalize vgetT s i = t at HG ⊢
    generalize vgetE s i = x at HG ⊢
    have HW : Hid (∀ wx, Calls Try.prog 37 #[.int .i64 n, .int .i64 lo, .int .i64 hi] wx fun e w' => Same wx e (.bool (win n lo hi)) w') := by
      show ∀ _, _
      exact fun wx => within_any n lo hi wx
    clear h hs ha
    go_enter Try.func31, Try.ntmps31
    go_upto_region 3 with fail
    go_cut [6] (fun nv wc => nv = .int .i64 n ∧ Rr 77 wc b s t x ∧ Keeps (fun k => k = b) w wc)
    case first =>
      go_region_with (go_at_call 38; refine (HG.out _).mono ?_; rintro e w' ⟨rfl, rfl⟩)
      all_goals
        go_wp2
        go_meet
        case rel => first | exact ⟨rfl, ((HH.out.set1 t).set2 x).drew, (kb_set (kb_set (Keeps.refl _ _) 1 _) 2 _).drew⟩ | exact ⟨rfl, ((HH.out.set2 x).set1 t).drew, (kb_set (kb_set (Keeps.refl _ _) 2 _) 1 _).drew⟩ | exact ⟨rfl, (HH.out.drew.set1 t).set2 x, kb_set (kb_set (Keeps.refl _ _).drew 1 _) 2 _⟩ | exact ⟨rfl, (HH.out.drew.set2 x).set1 t, kb_set (kb_set (Keeps.refl _ _).drew 2 _) 1 _⟩
    case rest =>
      obtain ⟨rfl, hr, hk⟩ := hcut
      obtain ⟨g0, g1, g2, g3, g4, g5⟩ := hr.all
      have HR := Lib.hid hr
      have HK := Lib.hid hk
      have HD : Hid ((decide (lo ≤ n) && decide (n ≤ hi)) = win n lo hi) := rfl
      clear hr hk c0 c1 c2 lt f1 f2
      generalize win n lo hi = is at HW HD
      by_cases hx : x = 0
      · cases is
        · have hx1 : (x == 0) = true := by simp [hx]
          clear HG
          go_wp2_with (go_at_call 37; refine (HW.out _).mono ?_; rintro e w' ⟨rfl, hk5⟩; have h5 := HR.out.keep hk5 (fun e => e); obtain ⟨u0, u1, u2, u3, u4, u5⟩ := Rr.all h5)
          go_ret
          rw [HD.out, hx]
          exact ⟨rfl, h5.set2 3, (HK.out.trans hk5 (fun _ _ h => h.elim)).setC 2 _ (fun _ => rfl)⟩
        · have hx1 : (x == 0) = true := by simp [hx]
          clear HG
          go_wp2_with (go_at_call 37; refine (HW.out _).mono ?_; rintro e w' ⟨rfl, hk5⟩; have h5 := HR.out.keep hk5 (fun e => e); obtain ⟨u0, u1, u2, u3, u4, u5⟩ := Rr.all h5)
          go_ret
          rw [HD.out, hx]
          rw [hx] at h5
          exact ⟨rfl, h5, HK.out.trans hk5 (fun _ _ h => h.elim)⟩
      · have hx1 : (x == 0) = false := by rw [beq_eq_false_iff_ne]; exact hx
        have HWE : Hid (∀ b, wE x b = x) := by
          show ∀ _, _
          intro b
          unfold wE
          rw [if_neg hx]
        clear HG hx
        go_wp2
        go_ret
        rw [HWE.out]
        exact ⟨rfl, HR.out, HK.out⟩
  · rw [if_neg he, if_neg he, if_neg he]
    have he : (e == 0) = false := by rw [beq_eq_false_iff_ne]; exact he
    clear h
    go_enter Try.func31, Try.ntmps31
    go_wp2
    go_ret
    exact ⟨rfl, HH.out, Keeps.refl _ _⟩
set_option maxRecDepth 100000 in
set_option maxHeartbeats 4000000 in
theorem rnum_any {w : World} {b : Nat} {s : ByteArray} {i e : Int} (h : Rr 86 w b s i e) (hs : s.size ≤ 9223372036854775807) (ha : i ≤ 9223372036854775807) :
    Calls Try.prog 42 #[.pointer (some ⟨b, 0, none⟩)] w (RrP 86 w b s (.int .i64 (nuN s i e)) (nuT s i e) (if e = 0 then vgetE s i else e)) := by
  obtain ⟨c0, c1, c2, lt, f1, f2⟩ := h.all
  have HH := Lib.hid h
  unfold nuN nuT
  by_cases he : e = 0
  · subst he
    have HG : Hid (∀ wx, Calls Try.prog 46 #[.string s, .int .i64 i] wx (RGetPost wx s i)) := by
      show ∀ _, _
      exact fun wx => rvget_any s i wx hs ha
    unfold RGetPost at HG
    simp only [if_true]
    generalize vgetN s i = n at HG ⊢
    generalize vgetT s i = t at HG ⊢
    generalize vgetE s i = x at HG ⊢
    clear h hs ha
    go_enter Try.func42, Try.ntmps42
    go_wp2_with fail
    go_region_with (go_at_call 46; refine (HG.out _).mono ?_; rintro e w' ⟨rfl, hk⟩; have h2 := Rr.keep (Rr.drew HH.out) hk (fun e => e); obtain ⟨g0, g1, g2, g3, g4, g5⟩ := Rr.all h2)
    all_goals
      go_wp2
      go_ret
      first | exact ⟨rfl, (h2.set2 x).set1 t, kb_set (kb_set (k0b (K0.tr (Keeps.refl _ _).drew hk)) 2 _) 1 _⟩ | exact ⟨rfl, (h2.set2 x).set1 t, kb_set (kb_set (k0b hk) 2 _) 1 _⟩
  · rw [if_neg he, if_neg he, if_neg he]
    have he : (e == 0) = false := by rw [beq_eq_false_iff_ne]; exact he
    clear h
    go_enter Try.func42, Try.ntmps42
    go_wp2
    go_ret
    exact ⟨rfl, HH.out, Keeps.refl _ _⟩
theorem nuE_alt (s : ByteArray) (a e lo hi : Int) : nuE s a e lo hi = if (if e = 0 then vgetE s a else e) = 0 ∧ e = 0 ∧ ¬ (lo ≤ vgetN s a ∧ vgetN s a ≤ hi) then 3 else (if e = 0 then vgetE s a else e) := by
  unfold nuE wE
  by_cases he : e = 0
  · simp only [he, if_true]
    by_cases hx : vgetE s a = 0
    · simp only [hx, if_true]
      by_cases h1 : lo ≤ vgetN s a ∧ vgetN s a ≤ hi
      · simp [h1]
      · by_cases h2 : lo ≤ vgetN s a
        · have : ¬ vgetN s a ≤ hi := fun h => h1 ⟨h2, h⟩
          simp [this]
        · simp [h2]
    · simp [hx]
  · simp [he]
set_option maxRecDepth 100000 in
set_option maxHeartbeats 4000000 in
theorem rwithin_any {w : World} {b : Nat} {s : ByteArray} {i e : Int} (lo hi : Int) (h : Rr 86 w b s i e) (hs : s.size ≤ 9223372036854775807) (ha : i ≤ 9223372036854775807) :
    Calls Try.prog 36 #[.pointer (some ⟨b, 0, none⟩), .int .i64 lo, .int .i64 hi] w (RrP 86 w b s (.int .i64 (nuN s i e)) (nuT s i e) (nuE s i e lo hi)) := by
  have HN := Lib.hid (rnum_any h hs ha)
  unfold RrP at HN
  rw [nuE_alt]
  by_cases hx : (if e = 0 then vgetE s i else e) = 0
  · have he : e = 0 := by
      by_cases h0 : e = 0
      · exact h0
      · rw [if_neg h0] at hx; exact absurd hx h0
    rw [hx] at HN ⊢
    simp only [true_and, he]
    have hn : nuN s i 0 = vgetN s i := by unfold nuN; rw [if_pos rfl]
    rw [he, hn] at HN
    rw [hn]
    generalize vgetN s i = n at HN ⊢
    clear h hs ha hx hn
    by_cases h1 : lo ≤ n
    · by_cases h2 : n ≤ hi
      · rw [if_neg (by simp [h1, h2])]
        go_enter Try.func36, Try.ntmps36
        go_wp2_with (go_at_call 42; refine HN.out.mono ?_; rintro e w' ⟨rfl, hr, hk⟩; obtain ⟨g0, g1, g2, g3, g4, g5⟩ := Rr.all hr)
        go_ret
        exact ⟨rfl, hr, hk⟩
      · rw [if_pos (by simp [h2])]
        go_enter Try.func36, Try.ntmps36
        go_wp2_with (go_at_call 42; refine HN.out.mono ?_; rintro e w' ⟨rfl, hr, hk⟩; obtain ⟨g0, g1, g2, g3, g4, g5⟩ := Rr.all hr)
        go_ret
        exact ⟨rfl, hr.set2 3, kb_set hk 2 _⟩
    · rw [if_pos (by simp [h1])]
      go_enter Try.func36, Try.ntmps36
      go_wp2_with (go_at_call 42; refine HN.out.mono ?_; rintro e w' ⟨rfl, hr, hk⟩; obtain ⟨g0, g1, g2, g3, g4, g5⟩ := Rr.all hr)
      go_ret
      exact ⟨rfl, hr.set2 3, kb_set hk 2 _⟩
  · rw [if_neg (fun h => hx h.1)]
    generalize (if e = 0 then vgetE s i else e) = x at HN hx ⊢
    have hx : (x == 0) = false := by rw [beq_eq_false_iff_ne]; exact hx
    generalize nuN s i e = n at HN ⊢
    generalize nuT s i e = t at HN ⊢
    clear h hs ha
    go_enter Try.func36, Try.ntmps36
    go_wp2_with (go_at_call 42; refine HN.out.mono ?_; rintro e w' ⟨rfl, hr, hk⟩; obtain ⟨g0, g1, g2, g3, g4, g5⟩ := Rr.all hr)
    go_ret
    exact ⟨rfl, hr, hk⟩
end Go.Proofs.Ytbjpifipjcfhkaa
