/-
  The document's disk: a file's cells turned in its row; where a name's file stands.
-/
import Derived.Test.YtjfblcmpdcbpgaaEf
namespace Go.Proofs.Ytjfblcmpdcbpgaa
open Go.RowKit Fx

theorem flat_setF {α : Type} (enc : α → List Value) (n : Nat) (hn : ∀ x, (enc x).length = n) (f : α → α) (j : Nat) (u : Value) (hj : j < n) (hf : ∀ x, enc (f x) = (enc x).set j u) : ∀ (l : List α) (i : Nat), i < l.length → (l.flatMap enc).set (i * n + j) u = (l.modify i f).flatMap enc
  | [], i, h => absurd h (Nat.not_lt_zero _)
  | x :: l, 0, _ => by
    simp only [List.flatMap_cons, Nat.zero_mul, Nat.zero_add, List.modify_zero_cons]
    rw [List.set_append_left _ _ (by rw [hn]; exact hj), hf]
  | x :: l, i + 1, h => by
    have h1 := flat_setF enc n hn f j u hj hf l i (by simpa using h)
    simp only [List.flatMap_cons, List.modify_succ_cons]
    rw [List.set_append_right _ _ (by rw [hn, Nat.add_mul]; omega), hn, show (i + 1) * n + j - n = i * n + j by rw [Nat.add_mul]; omega, h1]
theorem RAt.turn {w : World} {F : Nat → Prop} {b r cap : Nat} {R : DiskC} (h : RAt w F b R (.slice (some ⟨r, 0, none⟩) R.files.length cap)) {i : Nat} (hi : i < R.files.length) (f : (ByteArray × FileC) → (ByteArray × FileC)) (j : Nat) (u : Value) (hj : j < 3) (hf : ∀ x, fenc (f x) = (fenc x).set j u) (usd : Int) :
    RAt (w.setCell ⟨r, i * 3 + j, none⟩ u) F b ⟨R.room, usd, R.fuse, R.files.modify i f⟩ (.slice (some ⟨r, 0, none⟩) R.files.length cap) := by
  have h1 := (h.row.stored (i * 3 + j) u).1
  rw [flat_setF fenc 3 fenc_len f j u hj hf R.files i hi] at h1
  have hrb : r ≠ b := (h.own r rfl).2
  have hk : Keeps (fun k => k = r) w (w.setCell ⟨r, i * 3 + j, none⟩ u) := (Keeps.refl (fun k => k = r) w).setC _ _ (fun _ => rfl)
  exact ⟨(hk.block b (block_lt h.blk) (fun e => hrb e.symm)).trans h.blk, by rw [List.length_modify]; exact h1, h.fb, fun k e => Nat.lt_of_lt_of_le (h.lt k e) hk.size, h.own⟩
theorem modify_aput {l : List (ByteArray × FileC)} (hd : KD l) (g : FileC → FileC) : ∀ {i : Nat} (hi : i < l.length), l.modify i (fun p => (p.1, g p.2)) = aput l l[i].1 (g l[i].2) := by
  induction l with
  | nil => intro i hi; exact absurd hi (Nat.not_lt_zero _)
  | cons p l ih =>
    intro i hi
    have hd2 : KD l := (List.nodup_cons.1 hd).2
    have hp := (List.nodup_cons.1 hd).1
    cases i with
    | zero => simp [aput]
    | succ i =>
      have hi' : i < l.length := by simpa using hi
      have hne : p.1 ≠ l[i].1 := fun e => hp (List.mem_map.2 ⟨l[i], List.getElem_mem hi', e.symm⟩)
      have := ih hd2 hi'
      simp only [List.modify_succ_cons, List.getElem_cons_succ, aput, if_neg hne, this]
theorem erase_adel {l : List (ByteArray × FileC)} (hd : KD l) : ∀ {i : Nat} (hi : i < l.length), l.eraseIdx i = adel l l[i].1 := by
  induction l with
  | nil => intro i hi; exact absurd hi (Nat.not_lt_zero _)
  | cons p l ih =>
    intro i hi
    have hd2 : KD l := (List.nodup_cons.1 hd).2
    have hp := (List.nodup_cons.1 hd).1
    cases i with
    | zero => simp [adel]
    | succ i =>
      have hi' : i < l.length := by simpa using hi
      have hne : p.1 ≠ l[i].1 := fun e => hp (List.mem_map.2 ⟨l[i], List.getElem_mem hi', e.symm⟩)
      have := ih hd2 hi'
      simp only [List.eraseIdx_cons_succ, List.getElem_cons_succ, adel, if_neg hne, this]
theorem aget_atI {l : List (ByteArray × FileC)} (hd : KD l) {i : Nat} (hi : i < l.length) : aget l l[i].1 = some l[i].2 := aget_of_mem hd (List.getElem_mem hi)
theorem oldF_at {R : DiskC} (hd : KD R.files) {i : Nat} (hi : i < R.files.length) {s : ByteArray} (e : R.files[i].1 = s) : oldF R s = R.files[i].2 := by
  subst e
  unfold oldF
  rw [aget_atI hd hi]
  rfl
theorem rfind_some {w : World} {F : Nat → Prop} {b : Nat} {R : DiskC} {v : Value} {s : ByteArray} (h : RAt w F b R v) (hl : R.files.length ≤ 1000) (hs : (aget R.files s).isSome = true) :
    Calls Try.prog 49 #[.pointer (some ⟨b, 0, none⟩), .string s] w fun e w' => ∃ (i : Nat) (_ : i < R.files.length), e = .returned (.int .i64 i) ∧ w' = w ∧ R.files[i].1 = s :=
  (rfind_any s h hl).mono fun e w' hq => by
    obtain ⟨x, rfl, rfl, hf⟩ := hq
    rcases hf with ⟨i, hi, rfl, e⟩ | ⟨_, e⟩
    · exact ⟨i, hi, rfl, rfl, e⟩
    · rw [e] at hs; cases hs
theorem aget_not {l : List (ByteArray × FileC)} {s : ByteArray} (h : aget l s = none) {i : Nat} (hi : i < l.length) : l[i].1 ≠ s := fun e => aget_none h l[i] (List.getElem_mem hi) e
theorem rfind_none {w : World} {F : Nat → Prop} {b : Nat} {R : DiskC} {v : Value} {s : ByteArray} (h : RAt w F b R v) (hl : R.files.length ≤ 1000) (hs : aget R.files s = none) :
    Calls Try.prog 49 #[.pointer (some ⟨b, 0, none⟩), .string s] w fun e w' => e = .returned (.int .i64 (-1)) ∧ w' = w :=
  (rfind_any s h hl).mono fun e w' hq => by
    obtain ⟨x, rfl, rfl, hf⟩ := hq
    rcases hf with ⟨i, hi, rfl, e⟩ | ⟨rfl, e⟩
    · exact absurd e (aget_not hs hi)
    · exact ⟨rfl, rfl⟩
theorem rup_no {w : World} {F : Nat → Prop} {b : Nat} {R : DiskC} {v : Value} (h : RAt w F b R v) (hf : R.fuse = 0) : Calls Try.prog 43 #[.pointer (some ⟨b, 0, none⟩)] w fun e w' => e = .returned (.bool false) ∧ w' = w := by
  have := rup_any h
  rw [show (R.fuse != 0) = false by rw [hf]; rfl] at this
  exact this
theorem rup_yes {w : World} {F : Nat → Prop} {b : Nat} {R : DiskC} {v : Value} (h : RAt w F b R v) (hf : ¬ R.fuse = 0) : Calls Try.prog 43 #[.pointer (some ⟨b, 0, none⟩)] w fun e w' => e = .returned (.bool true) ∧ w' = w := by
  have := rup_any h
  rw [show (R.fuse != 0) = true by simpa using hf] at this
  exact this
theorem rnamed_is {s : ByteArray} {v : Bool} (hn : namedB s = v) (w : World) : Calls Try.prog 48 #[.string s] w fun e w' => e = .returned (.bool v) ∧ w' = w := by
  have := rnamed_any s w
  rw [hn] at this
  exact this
end Go.Proofs.Ytjfblcmpdcbpgaa
