/-
  What Parse makes of a text, in plain Lean.
-/
import Derived.Test.YtegbiekfpcfnnaaUh
import Derived.Test.YtegbiekfpcfnnaaMe
namespace Go.Proofs.Ytegbiekfpcfnnaa
open Go.RowKit Fx

/-- Where a reading stands: its place, its error, what it has read. -/
structure PSt where
  a : Int
  e : Int
  l : List OneP
def lastN (l : List OneP) : ByteArray := (l.getLast?.map (·.1)).getD ⟨#[]⟩
theorem lastN_app (l : List OneP) (p : OneP) : lastN (l ++ [p]) = p.1 := by simp [lastN]
def mapO (l : List OneP) : List OneP := l.foldl (fun M p => aput M p.1 p.2) []
def idsO (l : List OneP) : List (Int × Value) := l.foldl (fun D p => aput D p.2.1 (.bool true)) []
theorem mapO_app (l : List OneP) (p : OneP) : mapO (l ++ [p]) = aput (mapO l) p.1 p.2 := by simp [mapO]
theorem idsO_app (l : List OneP) (p : OneP) : idsO (l ++ [p]) = aput (idsO l) p.2.1 (.bool true) := by simp [idsO]
-- the steps of one round
def st1E (s : ByteArray) (p : PSt) : Int := wE (txE s p.a p.e) (bltB (lastN p.l) (txS s p.a p.e))
def st2N (s : ByteArray) (p : PSt) : Int := nuN s (txT s p.a p.e) (st1E s p)
def st2T (s : ByteArray) (p : PSt) : Int := nuT s (txT s p.a p.e) (st1E s p)
def st2E (s : ByteArray) (nx : Int) (p : PSt) : Int := nuE s (txT s p.a p.e) (st1E s p) 0 (nx - 1)
def st3N (s : ByteArray) (nx : Int) (p : PSt) : Int := nuN s (st2T s p) (st2E s nx p)
def st3T (s : ByteArray) (nx : Int) (p : PSt) : Int := nuT s (st2T s p) (st2E s nx p)
def st3E (s : ByteArray) (nx : Int) (p : PSt) : Int := nuE s (st2T s p) (st2E s nx p) 1 16
def pone (s : ByteArray) (nx : Int) (p : PSt) : OneP := (txS s p.a p.e, (st2N s p, st3N s nx p))
def pstep (s : ByteArray) (nx : Int) (p : PSt) : PSt := ⟨st3T s nx p, st3E s nx p, p.l ++ [pone s nx p]⟩
def prun (s : ByteArray) (nx : Int) : Nat → PSt → PSt
  | 0, p => p
  | k + 1, p => if p.e = 0 then prun s nx k (pstep s nx p) else p
theorem prun_stop (s : ByteArray) (nx : Int) (k : Nat) {p : PSt} (h : p.e ≠ 0) : prun s nx k p = p := by
  cases k with
  | zero => rfl
  | succ k => rw [prun, if_neg h]
theorem prun_next (s : ByteArray) (nx : Int) {n k : Nat} (hk : k < n) {p : PSt} (h : p.e = 0) : prun s nx (n - k) p = prun s nx (n - (k + 1)) (pstep s nx p) := by
  rw [show n - k = n - (k + 1) + 1 by omega, prun, if_pos h]
theorem nuT_le {s : ByteArray} {a e : Int} (h : a ≤ s.size) : nuT s a e ≤ s.size := by
  unfold nuT
  split
  · by_cases hx : vgetE s a = 0
    · exact (vget_ok hx).2.2.1
    · rw [(vget_bad hx).2]; omega
  · exact h
theorem txT_le {s : ByteArray} {a e : Int} (h : a ≤ s.size) : txT s a e ≤ s.size := by
  unfold txT
  split
  · by_cases hx : tkE s a 100 = 0
    · exact (tk_ok hx).2.2.1
    · unfold tkT; rw [if_neg hx]; omega
  · exact h
theorem wE_zero {e : Int} {b : Bool} (h : wE e b = 0) : e = 0 ∧ b = true := by
  unfold wE at h
  split at h
  · rename_i he
    split at h
    · rename_i hb; exact ⟨he, hb⟩
    · cases h
  · rename_i he; exact absurd h he
theorem nuE_zero {s : ByteArray} {a e lo hi : Int} (h : nuE s a e lo hi = 0) : e = 0 ∧ vgetE s a = 0 ∧ lo ≤ vgetN s a ∧ vgetN s a ≤ hi ∧ nuN s a e = vgetN s a ∧ nuT s a e = vgetT s a := by
  unfold nuE at h
  split at h
  · rename_i he
    obtain ⟨h1, h2⟩ := wE_zero h
    simp only [Bool.and_eq_true, decide_eq_true_eq] at h2
    unfold nuN nuT
    rw [if_pos he, if_pos he]
    exact ⟨he, h1, h2.1, h2.2, rfl, rfl⟩
  · rename_i he; exact absurd h he
theorem txE_zero {s : ByteArray} {a e : Int} (h : txE s a e = 0) : e = 0 ∧ tkE s a 100 = 0 ∧ txS s a e = tkS s a 100 ∧ txT s a e = tkT s a 100 := by
  unfold txE at h
  split at h
  · rename_i he
    unfold txS txT
    rw [if_pos he, if_pos he]
    exact ⟨he, h, rfl, rfl⟩
  · rename_i he; exact absurd h he
-- the whole
def paX (s : ByteArray) : Int := nuN s 0 0
def pa1E (s : ByteArray) : Int := nuE s 0 0 0 1073741824
def paC (s : ByteArray) : Int := nuN s (nuT s 0 0) (pa1E s)
def paP (s : ByteArray) : PSt := ⟨nuT s (nuT s 0 0) (pa1E s), nuE s (nuT s 0 0) (pa1E s) 0 20, []⟩
def paF (s : ByteArray) : PSt := prun s (paX s) (paC s).toNat (paP s)
def paE (s : ByteArray) : Int := wE (paF s).e (decide ((paF s).a = s.size) && decide (((idsO (paF s).l).length : Int) = paC s))
theorem paP_zero {s : ByteArray} (h : (paP s).e = 0) : 0 ≤ paX s ∧ paX s ≤ 1073741824 ∧ 0 ≤ paC s ∧ paC s ≤ 20 := by
  obtain ⟨h1, _, h2, h3, h4, _⟩ := nuE_zero h
  obtain ⟨_, _, g2, g3, g4, _⟩ := nuE_zero h1
  unfold paX paC
  rw [h4, g4]
  exact ⟨g2, g3, h2, h3⟩
end Go.Proofs.Ytegbiekfpcfnnaa
