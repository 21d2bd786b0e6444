/-
  Text and Take: the program's and the document's.
-/
import Derived.Test.YtbjpifipjcfhkaaVe
namespace Go.Proofs.Ytbjpifipjcfhkaa
open Go.RowKit Fx

theorem vget_ok {s : ByteArray} {a : Int} (h : vgetE s a = 0) : 0 ≤ a ∧ a < vgetT s a ∧ vgetT s a ≤ s.size ∧ -9223372036854775808 ≤ vgetN s a ∧ vgetN s a ≤ 9223372036854775807 := by
  unfold vgetE at h
  split at h
  · cases h
  · rename_i hb
    unfold vgetT vgetN
    rw [if_neg hb, if_neg hb]
    obtain ⟨h1, h2, h3⟩ := decE_ok h
    unfold decT decN
    rw [if_pos h, if_pos h]
    have hl := tailN_len s a.toNat
    have hv := dz_in (canon_value (tailN_byte s a.toNat) h1 h2 h3)
    omega
theorem vget_bad {s : ByteArray} {a : Int} (h : ¬ vgetE s a = 0) : vgetN s a = 0 ∧ vgetT s a = 0 := by
  unfold vgetE at h
  unfold vgetN vgetT
  split at h
  · rename_i hb; rw [if_pos hb, if_pos hb]; exact ⟨rfl, rfl⟩
  · rename_i hb
    rw [if_neg hb, if_neg hb]
    unfold decN decT
    rw [if_neg h, if_neg h]
    exact ⟨rfl, rfl⟩
def tkE (s : ByteArray) (a m : Int) : Int := if vgetE s a = 0 then (if vgetN s a < 0 ∨ m < vgetN s a then 3 else if s.size - vgetT s a < vgetN s a then 2 else 0) else vgetE s a
def tkT (s : ByteArray) (a m : Int) : Int := if tkE s a m = 0 then vgetT s a + vgetN s a else 0
def tkS (s : ByteArray) (a m : Int) : ByteArray := if tkE s a m = 0 then s.extract (vgetT s a).toNat (vgetT s a + vgetN s a).toNat else ⟨#[]⟩
theorem tk_ok {s : ByteArray} {a m : Int} (h : tkE s a m = 0) : 0 ≤ a ∧ a < tkT s a m ∧ tkT s a m ≤ s.size ∧ vgetE s a = 0 ∧ 0 ≤ vgetN s a ∧ vgetN s a ≤ m := by
  unfold tkT
  rw [if_pos h]
  unfold tkE at h
  split at h
  · rename_i h1
    have := vget_ok h1
    split at h
    · cases h
    · split at h
      · cases h
      · omega
  · rename_i h1; exact absurd h h1
theorem putB_size {n : Int} (h : -9223372036854775808 ≤ n ∧ n ≤ 9223372036854775807) : (putB n).size ≤ 10 := by
  unfold putB bytesN
  rw [strOfNums_size, List.length_map]
  exact enc_len (zz_lt h)
def TakePost (w : World) (s : ByteArray) (a m : Int) (e : Ending) (w' : World) : Prop := e = .returned (.tuple #[.string (tkS s a m), .int .i64 (tkT s a m), .int .i64 (tkE s a m)]) ∧ K0 w w'
end Go.Proofs.Ytbjpifipjcfhkaa
