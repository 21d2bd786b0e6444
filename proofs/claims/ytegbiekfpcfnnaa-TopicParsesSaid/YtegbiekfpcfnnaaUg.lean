/-
  The two readers of a text: their numbers, their names.
-/
import Derived.Test.YtegbiekfpcfnnaaUf
import Derived.Test.YtegbiekfpcfnnaaTc
namespace Go.Proofs.Ytegbiekfpcfnnaa
open Go.RowKit Fx

def wE (e : Int) (is : Bool) : Int := if e = 0 then (if is = true then 0 else 3) else e
def nuN (s : ByteArray) (a e : Int) : Int := if e = 0 then vgetN s a else 0
def nuT (s : ByteArray) (a e : Int) : Int := if e = 0 then vgetT s a else a
def nuE (s : ByteArray) (a e lo hi : Int) : Int := if e = 0 then wE (vgetE s a) (decide (lo ≤ vgetN s a) && decide (vgetN s a ≤ hi)) else e
def txS (s : ByteArray) (a e : Int) : ByteArray := if e = 0 then tkS s a 100 else ⟨#[]⟩
def txT (s : ByteArray) (a e : Int) : Int := if e = 0 then tkT s a 100 else a
def txE (s : ByteArray) (a e : Int) : Int := if e = 0 then tkE s a 100 else e
/-- A reader's record of type ty in block b. -/
def Rr (ty : Nat) (w : World) (b : Nat) (s : ByteArray) (i e : Int) : Prop := w.heap[b]? = some (.cells #[.string s, .int .i64 i, .int .i64 e] ty (0, 0))
def RrP (ty : Nat) (w : World) (b : Nat) (s : ByteArray) (v : Value) (i e : Int) (en : Ending) (w' : World) : Prop := en = .returned v ∧ Rr ty w' b s i e ∧ Keeps (fun k => k = b) w w'
/-- What a walk uses of it. -/
structure RrC (ty : Nat) (w : World) (b : Nat) (s : ByteArray) (i e : Int) : Prop where
  c0 : w.cell? ⟨b, 0, none⟩ = some (.string s)
  c1 : w.cell? ⟨b, 1, none⟩ = some (.int .i64 i)
  c2 : w.cell? ⟨b, 2, none⟩ = some (.int .i64 e)
  lt : b < w.heap.size
  f1 : w.frozen? ⟨b, 1, none⟩ = false
  f2 : w.frozen? ⟨b, 2, none⟩ = false
section
variable {ty : Nat} {w w' : World} {b : Nat} {s : ByteArray} {i e : Int}
theorem Rr.all (h : Rr ty w b s i e) : RrC ty w b s i e := ⟨block_cell h 0, block_cell h 1, block_cell h 2, block_lt h, block_free h 1, block_free h 2⟩
theorem Rr.keep {S : Nat → Prop} (h : Rr ty w b s i e) (hk : Keeps S w w') (hb : ¬ S b) : Rr ty w' b s i e := (hk.block b (block_lt h) hb).trans h
theorem Rr.set1 (h : Rr ty w b s i e) (x : Int) : Rr ty (w.setCell ⟨b, 1, none⟩ (.int .i64 x)) b s x e := setCell_block h 1 _
theorem Rr.set2 (h : Rr ty w b s i e) (x : Int) : Rr ty (w.setCell ⟨b, 2, none⟩ (.int .i64 x)) b s i x := setCell_block h 2 _
theorem Rr.drew (h : Rr ty w b s i e) : Rr ty w.drew b s i e := h
end
theorem kb_set {w wx : World} {b : Nat} (h : Keeps (fun k => k = b) w wx) (j : Nat) (v : Value) : Keeps (fun k => k = b) w (wx.setCell ⟨b, j, none⟩ v) := h.setC j v (fun _ => rfl)
theorem k0b {w wx : World} {b : Nat} (h : K0 w wx) : Keeps (fun k => k = b) w wx := h.mono (fun _ _ e => e.elim)
set_option maxHeartbeats 1000000 in
theorem want_any {w : World} {b : Nat} {s : ByteArray} {i e : Int} (is : Bool) (h : Rr 65 w b s i e) :
    Calls Try.prog 26 #[.pointer (some ⟨b, 0, none⟩), .bool is] w (RrP 65 w b s (.tuple #[]) i (wE e is)) := by
  obtain ⟨c0, c1, c2, lt, f1, f2⟩ := h.all
  have HH := Lib.hid h
  unfold wE
  by_cases he : e = 0
  · subst he
    cases is
    · clear h
      go_enter Try.func26, Try.ntmps26
      go_wp2
      go_end0
      exact ⟨rfl, HH.out.set2 3, kb_set (Keeps.refl _ _) 2 _⟩
    · clear h
      go_enter Try.func26, Try.ntmps26
      go_wp2
      go_end0
      exact ⟨rfl, HH.out, Keeps.refl _ _⟩
  · rw [if_neg he]
    have he : (e == 0) = false := by rw [beq_eq_false_iff_ne]; exact he
    clear h
    go_enter Try.func26, Try.ntmps26
    go_wp2
    go_end0
    exact ⟨rfl, HH.out, Keeps.refl _ _⟩
set_option maxRecDepth 100000 in
set_option maxHeartbeats 4000000 in
theorem number_any {w : World} {b : Nat} {s : ByteArray} {i e : Int} (lo hi : Int) (h : Rr 65 w b s i e) (hs : s.size ≤ 9223372036854775807) (ha : i ≤ 9223372036854775807) :
    Calls Try.prog 24 #[.pointer (some ⟨b, 0, none⟩), .int .i64 lo, .int .i64 hi] w (RrP 65 w b s (.int .i64 (nuN s i e)) (nuT s i e) (nuE s i e lo hi)) := by
  obtain ⟨c0, c1, c2, lt, f1, f2⟩ := h.all
  have HH := Lib.hid h
  unfold nuN nuT nuE
  by_cases he : e = 0
  · subst he
    have HG : Hid (∀ wx, Calls Try.prog 35 #[.string s, .int .i64 i] wx (GetPost wx s i)) := by
      show ∀ _, _
      exact fun wx => vget_any s i wx hs ha
    unfold GetPost at HG
    simp only [if_true]
    generalize vgetN s i = n at HG ⊢
    generalize vgetT s i = t at HG ⊢
    generalize vgetE s i = x at HG ⊢
    clear h hs ha
    go_enter Try.func24, Try.ntmps24
    go_upto_region 2 with fail
    go_cut [6] (fun nv wc => nv = .int .i64 n ∧ Rr 65 wc b s t x ∧ Keeps (fun k => k = b) w wc)
    case first =>
      go_wp2_with fail
      go_region_with (go_at_call 35; refine (HG.out _).mono ?_; rintro e w' ⟨rfl, rfl⟩)
      all_goals
        go_wp2
        go_meet
        case rel => first | exact ⟨rfl, ((HH.out.set1 t).set2 x).drew, (kb_set (kb_set (Keeps.refl _ _) 1 _) 2 _).drew⟩ | exact ⟨rfl, ((HH.out.set2 x).set1 t).drew, (kb_set (kb_set (Keeps.refl _ _) 2 _) 1 _).drew⟩ | exact ⟨rfl, (HH.out.drew.set1 t).set2 x, kb_set (kb_set (Keeps.refl _ _).drew 1 _) 2 _⟩ | exact ⟨rfl, (HH.out.drew.set2 x).set1 t, kb_set (kb_set (Keeps.refl _ _).drew 2 _) 1 _⟩
    case rest =>
      obtain ⟨rfl, hr, hk⟩ := hcut
      have HK := Lib.hid hk
      have HW : Hid (∀ is, Calls Try.prog 26 #[.pointer (some ⟨b, 0, none⟩), .bool is] wc (RrP 65 wc b s (.tuple #[]) t (wE x is))) := by
        show ∀ _, _
        exact fun is => want_any is hr
      clear hr hk c0 c1 c2 lt f1 f2
      have HD : ∀ y : Bool, (decide (lo ≤ n) && decide (n ≤ hi)) = y → Hid ((decide (lo ≤ n) && decide (n ≤ hi)) = y) := fun _ h => h
      by_cases h1 : lo ≤ n
      · by_cases h2 : n ≤ hi
        · have HD := HD true (by simp [h1, h2])
          go_wp2_with (go_at_call 26; refine (HW.out _).mono ?_; rintro e w' ⟨rfl, h5, hk5⟩)
          go_ret
          rw [HD.out]
          exact ⟨rfl, h5, HK.out.trans hk5 (fun _ _ h => h)⟩
        · have HD := HD false (by simp [h1, h2])
          go_wp2_with (go_at_call 26; refine (HW.out _).mono ?_; rintro e w' ⟨rfl, h5, hk5⟩)
          go_ret
          rw [HD.out]
          exact ⟨rfl, h5, HK.out.trans hk5 (fun _ _ h => h)⟩
      · have HD := HD false (by simp [h1])
        go_wp2_with (go_at_call 26; refine (HW.out _).mono ?_; rintro e w' ⟨rfl, h5, hk5⟩)
        go_ret
        rw [HD.out]
        exact ⟨rfl, h5, HK.out.trans hk5 (fun _ _ h => h)⟩
  · rw [if_neg he, if_neg he, if_neg he]
    have he : (e == 0) = false := by rw [beq_eq_false_iff_ne]; exact he
    clear h
    go_enter Try.func24, Try.ntmps24
    go_wp2
    go_ret
    exact ⟨rfl, HH.out, Keeps.refl _ _⟩
set_option maxRecDepth 100000 in
set_option maxHeartbeats 4000000 in
theorem name_any {w : World} {b : Nat} {s : ByteArray} {i e : Int} (h : Rr 65 w b s i e) (hs : s.size ≤ 9223372036854775807) (ha : i ≤ 9223372036854775807) :
    Calls Try.prog 25 #[.pointer (some ⟨b, 0, none⟩)] w (RrP 65 w b s (.string (txS s i e)) (txT s i e) (txE s i e)) := by
  obtain ⟨c0, c1, c2, lt, f1, f2⟩ := h.all
  have HH := Lib.hid h
  unfold txS txT txE
  by_cases he : e = 0
  · subst he
    have HG : Hid (∀ wx, Calls Try.prog 36 #[.string s, .int .i64 i, .int .i64 100] wx (TakePost wx s i 100)) := by
      show ∀ _, _
      exact fun wx => take_any s i 100 wx hs ha
    unfold TakePost at HG
    simp only [if_true]
    generalize tkS s i 100 = n at HG ⊢
    generalize tkT s i 100 = t at HG ⊢
    generalize tkE s i 100 = x at HG ⊢
    clear h hs ha
    go_enter Try.func25, Try.ntmps25
    go_wp2_with fail
    go_region_with (go_at_call 36; refine (HG.out _).mono ?_; rintro e w' ⟨rfl, hk⟩; have h2 := Rr.keep (Rr.drew HH.out) hk (fun e => e); obtain ⟨g0, g1, g2, g3, g4, g5⟩ := Rr.all h2)
    all_goals
      go_wp2
      go_ret
      first | exact ⟨rfl, (h2.set1 t).set2 x, kb_set (kb_set (k0b (K0.tr (Keeps.refl _ _).drew hk)) 1 _) 2 _⟩ | exact ⟨rfl, (h2.set2 x).set1 t, kb_set (kb_set (k0b (K0.tr (Keeps.refl _ _).drew hk)) 2 _) 1 _⟩ | exact ⟨rfl, ((h2.set1 t).set2 x).drew, (kb_set (kb_set (k0b hk) 1 _) 2 _).drew⟩ | exact ⟨rfl, ((h2.set2 x).set1 t).drew, (kb_set (kb_set (k0b hk) 2 _) 1 _).drew⟩
  · rw [if_neg he, if_neg he, if_neg he]
    have he : (e == 0) = false := by rw [beq_eq_false_iff_ne]; exact he
    clear h
    go_enter Try.func25, Try.ntmps25
    go_wp2
    go_ret
    exact ⟨rfl, HH.out, Keeps.refl _ _⟩
end Go.Proofs.Ytegbiekfpcfnnaa
