/-
  The document's reader of a text: its numbers, its names.
-/
import Derived.Test.YtegbiekfpcfnnaaUg
namespace Go.Proofs.Ytegbiekfpcfnnaa
open Go.RowKit Fx

set_option maxRecDepth 100000 in
set_option maxHeartbeats 4000000 in
theorem rnum_any {w : World} {b : Nat} {s : ByteArray} {i e : Int} (h : Rr 73 w b s i e) (hs : s.size ≤ 9223372036854775807) (ha : i ≤ 9223372036854775807) :
    Calls Try.prog 37 #[.pointer (some ⟨b, 0, none⟩)] w (RrP 73 w b s (.int .i64 (nuN s i e)) (nuT s i e) (if e = 0 then vgetE s i else e)) := by
  obtain ⟨c0, c1, c2, lt, f1, f2⟩ := h.all
  have HH := Lib.hid h
  unfold nuN nuT
  by_cases he : e = 0
  · subst he
    have HG : Hid (∀ wx, Calls Try.prog 42 #[.string s, .int .i64 i] wx (RGetPost wx s i)) := by
      show ∀ _, _
      exact fun wx => rvget_any s i wx hs ha
    unfold RGetPost at HG
    simp only [if_true]
    generalize vgetN s i = n at HG ⊢
    generalize vgetT s i = t at HG ⊢
    generalize vgetE s i = x at HG ⊢
    clear h hs ha
    go_enter Try.func37, Try.ntmps37
    go_wp2_with fail
    go_region_with (go_at_call 42; refine (HG.out _).mono ?_; rintro e w' ⟨rfl, hk⟩; have h2 := Rr.keep (Rr.drew HH.out) hk (fun e => e); obtain ⟨g0, g1, g2, g3, g4, g5⟩ := Rr.all h2)
    all_goals
      go_wp2
      go_ret
      first | exact ⟨rfl, (h2.set2 x).set1 t, kb_set (kb_set (k0b (K0.tr (Keeps.refl _ _).drew hk)) 2 _) 1 _⟩ | exact ⟨rfl, (h2.set2 x).set1 t, kb_set (kb_set (k0b hk) 2 _) 1 _⟩
  · rw [if_neg he, if_neg he, if_neg he]
    have he : (e == 0) = false := by rw [beq_eq_false_iff_ne]; exact he
    clear h
    go_enter Try.func37, Try.ntmps37
    go_wp2
    go_ret
    exact ⟨rfl, HH.out, Keeps.refl _ _⟩
set_option maxRecDepth 100000 in
set_option maxHeartbeats 4000000 in
theorem rtxt_any {w : World} {b : Nat} {s : ByteArray} {i e : Int} (h : Rr 73 w b s i e) (hs : s.size ≤ 9223372036854775807) (ha : i ≤ 9223372036854775807) :
    Calls Try.prog 32 #[.pointer (some ⟨b, 0, none⟩), .int .i64 100] w (RrP 73 w b s (.string (txS s i e)) (txT s i e) (txE s i e)) := by
  obtain ⟨c0, c1, c2, lt, f1, f2⟩ := h.all
  have HH := Lib.hid h
  unfold txS txT txE
  by_cases he : e = 0
  · subst he
    have HG : Hid (∀ wx, Calls Try.prog 38 #[.string s, .int .i64 i, .int .i64 100] wx (TakePost wx s i 100)) := by
      show ∀ _, _
      exact fun wx => rtake_any s i 100 wx hs ha
    unfold TakePost at HG
    simp only [if_true]
    generalize tkS s i 100 = n at HG ⊢
    generalize tkT s i 100 = t at HG ⊢
    generalize tkE s i 100 = x at HG ⊢
    clear h hs ha
    go_enter Try.func32, Try.ntmps32
    go_wp2_with fail
    go_region_with (go_at_call 38; refine (HG.out _).mono ?_; rintro e w' ⟨rfl, hk⟩; have h2 := Rr.keep (Rr.drew HH.out) hk (fun e => e); obtain ⟨g0, g1, g2, g3, g4, g5⟩ := Rr.all h2)
    all_goals
      go_wp2
      go_ret
      first | exact ⟨rfl, (h2.set2 x).set1 t, kb_set (kb_set (k0b (K0.tr (Keeps.refl _ _).drew hk)) 2 _) 1 _⟩ | exact ⟨rfl, (h2.set2 x).set1 t, kb_set (kb_set (k0b hk) 2 _) 1 _⟩
  · rw [if_neg he, if_neg he, if_neg he]
    have he : (e == 0) = false := by rw [beq_eq_false_iff_ne]; exact he
    clear h
    go_enter Try.func32, Try.ntmps32
    go_wp2
    go_ret
    exact ⟨rfl, HH.out, Keeps.refl _ _⟩
theorem nuE_alt (s : ByteArray) (a e lo hi : Int) : nuE s a e lo hi = if (if e = 0 then vgetE s a else e) = 0 ∧ e = 0 ∧ ¬ (lo ≤ vgetN s a ∧ vgetN s a ≤ hi) then 3 else (if e = 0 then vgetE s a else e) := by
  unfold nuE wE
  by_cases he : e = 0
  · simp only [he, if_true]
    by_cases hx : vgetE s a = 0
    · simp only [hx, if_true]
      by_cases h1 : lo ≤ vgetN s a ∧ vgetN s a ≤ hi
      · simp [h1]
      · by_cases h2 : lo ≤ vgetN s a
        · have : ¬ vgetN s a ≤ hi := fun h => h1 ⟨h2, h⟩
          simp [this]
        · simp [h2]
    · simp [hx]
  · simp [he]
set_option maxRecDepth 100000 in
set_option maxHeartbeats 4000000 in
theorem within_any {w : World} {b : Nat} {s : ByteArray} {i e : Int} (lo hi : Int) (h : Rr 73 w b s i e) (hs : s.size ≤ 9223372036854775807) (ha : i ≤ 9223372036854775807) :
    Calls Try.prog 31 #[.pointer (some ⟨b, 0, none⟩), .int .i64 lo, .int .i64 hi] w (RrP 73 w b s (.int .i64 (nuN s i e)) (nuT s i e) (nuE s i e lo hi)) := by
  have HN := Lib.hid (rnum_any h hs ha)
  unfold RrP at HN
  rw [nuE_alt]
  by_cases hx : (if e = 0 then vgetE s i else e) = 0
  · have he : e = 0 := by
      by_cases h0 : e = 0
      · exact h0
      · rw [if_neg h0] at hx; exact absurd hx h0
    rw [hx] at HN ⊢
    simp only [true_and, he]
    have hn : nuN s i 0 = vgetN s i := by unfold nuN; rw [if_pos rfl]
    rw [he, hn] at HN
    rw [hn]
    generalize vgetN s i = n at HN ⊢
    clear h hs ha hx hn
    by_cases h1 : lo ≤ n
    · by_cases h2 : n ≤ hi
      · rw [if_neg (by simp [h1, h2])]
        go_enter Try.func31, Try.ntmps31
        go_wp2_with (go_at_call 37; refine HN.out.mono ?_; rintro e w' ⟨rfl, hr, hk⟩; obtain ⟨g0, g1, g2, g3, g4, g5⟩ := Rr.all hr)
        go_ret
        exact ⟨rfl, hr, hk⟩
      · rw [if_pos (by simp [h2])]
        go_enter Try.func31, Try.ntmps31
        go_wp2_with (go_at_call 37; refine HN.out.mono ?_; rintro e w' ⟨rfl, hr, hk⟩; obtain ⟨g0, g1, g2, g3, g4, g5⟩ := Rr.all hr)
        go_ret
        exact ⟨rfl, hr.set2 3, kb_set hk 2 _⟩
    · rw [if_pos (by simp [h1])]
      go_enter Try.func31, Try.ntmps31
      go_wp2_with (go_at_call 37; refine HN.out.mono ?_; rintro e w' ⟨rfl, hr, hk⟩; obtain ⟨g0, g1, g2, g3, g4, g5⟩ := Rr.all hr)
      go_ret
      exact ⟨rfl, hr.set2 3, kb_set hk 2 _⟩
  · rw [if_neg (fun h => hx h.1)]
    generalize (if e = 0 then vgetE s i else e) = x at HN hx ⊢
    have hx : (x == 0) = false := by rw [beq_eq_false_iff_ne]; exact hx
    generalize nuN s i e = n at HN ⊢
    generalize nuT s i e = t at HN ⊢
    clear h hs ha
    go_enter Try.func31, Try.ntmps31
    go_wp2_with (go_at_call 37; refine HN.out.mono ?_; rintro e w' ⟨rfl, hr, hk⟩; obtain ⟨g0, g1, g2, g3, g4, g5⟩ := Rr.all hr)
    go_ret
    exact ⟨rfl, hr, hk⟩
end Go.Proofs.Ytegbiekfpcfnnaa
