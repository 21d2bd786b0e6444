/-
  What was printed is read; what was read prints the same.
-/
import Derived.Test.YtegbiekfpcfnnaaUi
namespace Go.Proofs.Ytegbiekfpcfnnaa
open Go.RowKit Fx

theorem tailN_put (pre rest : ByteArray) (n : Int) : tailN (pre ++ putB n ++ rest) pre.size = encU (zz n) ++ tailN rest 0 := by
  have h1 : (pre ++ putB n ++ rest).data.toList = pre.data.toList ++ ((putB n).data.toList ++ rest.data.toList) := by simp
  unfold tailN
  rw [h1, List.drop_left' (by rfl), List.map_append, List.drop_zero]
  congr 1
  unfold putB
  rw [bytesN_data, List.map_map]
  conv => rhs; rw [← List.map_id (encU (zz n))]
  refine List.map_congr_left fun b hb => ?_
  have := encU_bytes _ b hb
  simp only [Function.comp, id, Int.toNat_natCast]
  rw [UInt8.toNat_ofNat']
  omega
theorem putB_len (n : Int) : (putB n).size = (encU (zz n)).length := by
  have h := congrArg List.length (bytesN_data (encU (zz n)))
  rw [List.length_map] at h
  exact h
theorem get_at (pre rest : ByteArray) {n : Int} (h : -9223372036854775808 ≤ n ∧ n ≤ 9223372036854775807) :
    vgetE (pre ++ putB n ++ rest) pre.size = 0 ∧ vgetN (pre ++ putB n ++ rest) pre.size = n ∧ vgetT (pre ++ putB n ++ rest) pre.size = pre.size + (putB n).size := by
  have hb : ¬ ((pre.size : Int) < 0 ∨ ((pre ++ putB n ++ rest).size : Int) < pre.size) := by
    rw [ByteArray.size_append, ByteArray.size_append]
    omega
  obtain ⟨h1, h2, h3⟩ := dec_enc (zz_lt h) (tailN rest 0)
  unfold vgetE vgetN vgetT decT
  rw [if_neg hb, if_neg hb, if_neg hb, Int.toNat_natCast, tailN_put, if_pos h1, h3, dz_zz, putB_len, ← h2]
  exact ⟨h1, rfl, by push_cast; omega⟩
theorem get_put {s : ByteArray} {a : Int} (h : vgetE s a = 0) : s.extract a.toNat (vgetT s a).toNat = putB (vgetN s a) := by
  unfold vgetE at h
  split at h
  · cases h
  · rename_i hb
    unfold vgetT vgetN decT decN
    rw [if_neg hb, if_neg hb, if_pos h, if_pos h]
    obtain ⟨h1, h2, h3⟩ := decE_ok h
    have h4 := (put_again h1 h2).2 h3
    rw [Nat.mod_eq_of_lt (canon_value (tailN_byte s _) h1 h2 h3)] at h4
    rw [h4]
    congr 1
    omega
theorem ext_split {s : ByteArray} {a b c : Nat} (h1 : a ≤ b) (h2 : b ≤ c) (h3 : c ≤ s.size) : s.extract a c = s.extract a b ++ s.extract b c := by
  have h : (s.extract a c).data.toList = (s.extract a b ++ s.extract b c).data.toList := by
    simp only [ByteArray.data_extract, ByteArray.data_append, Array.toList_extract, Array.toList_append, List.extract_eq_take_drop]
    apply List.ext_getElem?
    intro i
    simp only [List.getElem?_append, List.getElem?_take, List.getElem?_drop, List.length_take, List.length_drop]
    have hs : s.data.toList.length = s.size := rfl
    by_cases hi : i < b - a
    · rw [if_pos (by omega), if_pos (by omega), if_pos hi]
    · by_cases hj : i < c - a
      · rw [if_pos hj, if_neg (by omega), if_pos (by omega)]
        congr 1
        omega
      · rw [if_neg hj]
        split
        · rfl
        · rw [if_neg (by omega)]
  cases hx : s.extract a c
  cases hy : s.extract a b ++ s.extract b c
  rw [hx, hy] at h
  exact congrArg ByteArray.mk (Array.toList_inj.1 h)
theorem ext_all (s : ByteArray) : s.extract 0 s.size = s := by simp
theorem ext_mid (pre x rest : ByteArray) : (pre ++ x ++ rest).extract pre.size (pre.size + x.size) = x := by
  have h : ((pre ++ x ++ rest).extract pre.size (pre.size + x.size)).data.toList = x.data.toList := by
    simp only [ByteArray.data_extract, ByteArray.data_append, Array.toList_extract, Array.toList_append, List.extract_eq_take_drop]
    have h1 : pre.size = pre.data.toList.length := rfl
    have h2 : x.size = x.data.toList.length := rfl
    rw [h1, h2, List.append_assoc, List.drop_left, Nat.add_sub_cancel_left, List.take_left]
  cases hx : (pre ++ x ++ rest).extract pre.size (pre.size + x.size)
  rw [hx] at h
  cases x
  exact congrArg ByteArray.mk (Array.toList_inj.1 h)
/-- A text that was written is taken. -/
theorem take_at (pre rest nm : ByteArray) (h : nm.size ≤ 100) :
    tkE (pre ++ (putB nm.size ++ nm) ++ rest) pre.size 100 = 0 ∧ tkS (pre ++ (putB nm.size ++ nm) ++ rest) pre.size 100 = nm ∧ tkT (pre ++ (putB nm.size ++ nm) ++ rest) pre.size 100 = pre.size + (putB nm.size ++ nm).size := by
  have e1 : pre ++ (putB (nm.size : Int) ++ nm) ++ rest = pre ++ putB (nm.size : Int) ++ (nm ++ rest) := by simp only [ByteArray.append_assoc]
  have e2 : pre ++ (putB (nm.size : Int) ++ nm) ++ rest = (pre ++ putB (nm.size : Int)) ++ nm ++ rest := by simp only [ByteArray.append_assoc]
  obtain ⟨h1, h2, h3⟩ := get_at pre (nm ++ rest) (n := (nm.size : Int)) ⟨by omega, by omega⟩
  rw [← e1] at h1 h2 h3
  have hsz : (pre ++ (putB (nm.size : Int) ++ nm) ++ rest).size = pre.size + (putB (nm.size : Int)).size + nm.size + rest.size := by
    rw [e2]; simp only [ByteArray.size_append]
  have hE : tkE (pre ++ (putB nm.size ++ nm) ++ rest) pre.size 100 = 0 := by
    unfold tkE
    rw [if_pos h1, h2, if_neg (by omega), h3, hsz, if_neg (by omega)]
  refine ⟨hE, ?_, ?_⟩
  · unfold tkS
    rw [if_pos hE, h2, h3, e2]
    have g1 : ((pre.size : Int) + ((putB (nm.size : Int)).size : Int)).toNat = (pre ++ putB (nm.size : Int)).size := by rw [ByteArray.size_append]; omega
    have g2 : ((pre.size : Int) + ((putB (nm.size : Int)).size : Int) + (nm.size : Int)).toNat = (pre ++ putB (nm.size : Int)).size + nm.size := by rw [ByteArray.size_append]; omega
    rw [g1, g2, ext_mid]
  · unfold tkT
    rw [if_pos hE, h2, h3, ByteArray.size_append]
    omega
theorem tk_put {s : ByteArray} {a : Int} (h : tkE s a 100 = 0) : s.extract a.toNat (tkT s a 100).toNat = putB (tkS s a 100).size ++ tkS s a 100 ∧ (tkS s a 100).size ≤ 100 := by
  obtain ⟨h1, h2, h3, h4, h5, h6⟩ := tk_ok h
  have hv := vget_ok h4
  have hT : tkT s a 100 = vgetT s a + vgetN s a := by unfold tkT; rw [if_pos h]
  have hS : tkS s a 100 = s.extract (vgetT s a).toNat (vgetT s a + vgetN s a).toNat := by unfold tkS; rw [if_pos h]
  have hz : (tkS s a 100).size = (vgetN s a).toNat := by rw [hS, ByteArray.size_extract]; omega
  refine ⟨?_, by omega⟩
  rw [ext_split (b := (vgetT s a).toNat) (by omega) (by omega) (by omega), get_put h4]
  rw [hz, hT, hS]
  congr 2
  omega
end Go.Proofs.Ytegbiekfpcfnnaa
