/-
  A disk as an object: its own block, the map of its files, each file's block. All of it made since w0.
-/
import Derived.Test.YtjfblcmpdcbpgaaRows
import Derived.Test.YtjfblcmpdcbpgaaMl
import Derived.Test.YtjfblcmpdcbpgaaAp
import Derived.WalkKit
import Derived.WalkSpells
import Derived.WalkLawsBesides
import Derived.Deep.QuietTactic
import Derived.BigQuiet
import Derived.Outline
import Derived.Lib.Hide
namespace Go.Proofs.Ytjfblcmpdcbpgaa
open Go.RowKit Fx

def Same (w : World) (e : Ending) (v : Value) (w' : World) : Prop := e = .returned v ∧ Keeps (fun _ => False) w w'
structure FileC where
  bytes : ByteArray
  safe : Int
structure DiskC where
  room : Int
  used : Int
  fuse : Int
  files : List (ByteArray × FileC)
def fptr (p : Nat × FileC) : Value := .pointer (some ⟨p.1, 0, none⟩)
structure DAt (w0 w : World) (db : Nat) (D : DiskC) (mb : Nat) (L : List (ByteArray × (Nat × FileC))) : Prop where
  k0 : K0 w0 w
  blk : w.heap[db]? = some (.cells #[.int .i64 D.room, .int .i64 D.used, .int .i64 D.fuse, .map (some mb)] 59 (0, 0))
  core : amap (·.2) L = D.files
  map : MapAt .string w mb (avals fptr L)
  fil : ∀ s p, aget L s = some p → w.heap[p.1]? = some (.cells #[.string p.2.bytes, .int .i64 p.2.safe] 65 (0, 0))
  apart : ∀ s t p q, aget L s = some p → aget L t = some q → s ≠ t → p.1 ≠ q.1
  ne : db ≠ mb
  new : w0.heap.size ≤ db ∧ w0.heap.size ≤ mb
  fnew : ∀ s p, aget L s = some p → w0.heap.size ≤ p.1 ∧ p.1 ≠ db ∧ p.1 ≠ mb
  keys : KD L
def DSt (w0 w : World) (db : Nat) (D : DiskC) : Prop := ∃ mb L, DAt w0 w db D mb L
section
variable {w0 w w' : World} {db mb : Nat} {D : DiskC} {L : List (ByteArray × (Nat × FileC))}
theorem DAt.keep (h : DAt w0 w db D mb L) (hk : K0 w w') : DAt w0 w' db D mb L :=
  ⟨K0.tr h.k0 hk, (hk.block db (block_lt h.blk) (fun e => e)).trans h.blk, h.core, h.map.keep hk (fun e => e), fun s p e => (hk.block _ (block_lt (h.fil s p e)) (fun e => e)).trans (h.fil s p e), h.apart, h.ne, h.new, h.fnew, h.keys⟩
theorem DAt.keepS (h : DAt w0 w db D mb L) {S : Nat → Prop} (hk : Keeps S w w') (hS : ∀ k, S k → w0.heap.size ≤ k ∧ k ≠ db ∧ k ≠ mb ∧ ∀ s p, aget L s = some p → p.1 ≠ k) : DAt w0 w' db D mb L :=
  ⟨h.k0.trans hk (fun k hk e => absurd (hS k e).1 (by omega)), (hk.block db (block_lt h.blk) (fun e => (hS _ e).2.1 rfl)).trans h.blk, h.core, h.map.keep hk (fun e => (hS _ e).2.2.1 rfl), fun s p e => (hk.block _ (block_lt (h.fil s p e)) (fun e2 => (hS _ e2).2.2.2 s p e rfl)).trans (h.fil s p e), h.apart, h.ne, h.new, h.fnew, h.keys⟩
theorem DSt.keep (h : DSt w0 w db D) (hk : K0 w w') : DSt w0 w' db D := by
  obtain ⟨mb, L, h⟩ := h
  exact ⟨mb, L, h.keep hk⟩
theorem DSt.k0 (h : DSt w0 w db D) : K0 w0 w := by
  obtain ⟨_, _, h⟩ := h
  exact h.k0
theorem DAt.agetL (h : DAt w0 w db D mb L) (s : ByteArray) : aget D.files s = (aget L s).map (·.2) := by rw [← h.core, aget_amap]
theorem DAt.some (h : DAt w0 w db D mb L) {s : ByteArray} {x : FileC} (e : aget D.files s = Option.some x) : ∃ b, aget L s = Option.some (b, x) := by
  rw [h.agetL] at e
  cases h1 : aget L s with
  | none => rw [h1] at e; cases e
  | some p =>
    rw [h1] at e
    obtain ⟨b, x1⟩ := p
    cases e
    exact ⟨b, rfl⟩
theorem DAt.none (h : DAt w0 w db D mb L) {s : ByteArray} (e : aget D.files s = Option.none) : aget L s = Option.none := by
  rw [h.agetL] at e
  cases h1 : aget L s with
  | none => rfl
  | some p => rw [h1] at e; cases e
theorem aput_fptr {s : ByteArray} {b : Nat} {x : FileC} (h : aget L s = Option.some (b, x)) (x' : FileC) : avals fptr (aput L s (b, x')) = avals fptr L := by
  induction L with
  | nil => simp [aget] at h
  | cons p L ih =>
    obtain ⟨k, u⟩ := p
    simp only [aget] at h
    by_cases hk : k = s
    · rw [if_pos hk] at h
      cases h
      simp [avals, aput, hk, fptr]
    · rw [if_neg hk] at h
      have := ih h
      simp only [avals, aput, if_neg hk, List.map_cons] at this ⊢
      rw [this]
/-- Its own cells have turned. -/
theorem DAt.own (h : DAt w0 w db D mb L) (hk : Keeps (fun k => k = db) w w') {r u f : Int} (hb : w'.heap[db]? = Option.some (.cells #[.int .i64 r, .int .i64 u, .int .i64 f, .map (Option.some mb)] 59 (0, 0))) : DAt w0 w' db ⟨r, u, f, D.files⟩ mb L :=
  ⟨h.k0.trans hk (fun k hk e => by have := h.new.1; omega), hb, h.core, h.map.keep hk (fun e => h.ne e.symm), fun s p e => (hk.block _ (block_lt (h.fil s p e)) (h.fnew s p e).2.1).trans (h.fil s p e), h.apart, h.ne, h.new, h.fnew, h.keys⟩
/-- A file and its own cells have turned. -/
theorem DAt.set (h : DAt w0 w db D mb L) {s : ByteArray} {b : Nat} {x x' : FileC} (e : aget L s = Option.some (b, x)) (hk : Keeps (fun k => k = b ∨ k = db) w w') {r u f : Int}
    (hb : w'.heap[db]? = Option.some (.cells #[.int .i64 r, .int .i64 u, .int .i64 f, .map (Option.some mb)] 59 (0, 0)))
    (hf : w'.heap[b]? = Option.some (.cells #[.string x'.bytes, .int .i64 x'.safe] 65 (0, 0))) : DAt w0 w' db ⟨r, u, f, aput D.files s x'⟩ mb (aput L s (b, x')) := by
  have hn := h.fnew s _ e
  refine ⟨h.k0.trans hk (fun k hk e2 => by have := h.new.1; have := hn.1; omega), hb, ?_, ?_, fun t p e2 => ?_, fun t1 t2 p q e1 e2 hne => ?_, h.ne, h.new, fun t p e2 => ?_, h.keys.put _ _⟩
  · rw [← aput_amap (fun p : Nat × FileC => p.2) L s (b, x'), h.core]
  · rw [aput_fptr e]
    exact h.map.keep hk (fun e2 => e2.elim hn.2.2.symm h.ne.symm)
  · rw [aget_aput] at e2
    split at e2
    · cases e2; exact hf
    · rename_i hst
      exact (hk.block _ (block_lt (h.fil t p e2)) (fun e3 => e3.elim (fun e4 => h.apart s t _ _ e e2 hst e4.symm) (h.fnew t p e2).2.1)).trans (h.fil t p e2)
  · rw [aget_aput] at e1 e2
    split at e1
    · split at e2
      · rename_i h1 h2; exact absurd (h1.symm.trans h2) hne
      · rename_i h1 h2
        cases e1
        exact h.apart s t2 (b, x) _ e e2 h2
    · split at e2
      · rename_i h1 h2
        cases e2
        exact h.apart t1 s _ (b, x) e1 e (Ne.symm h1)
      · exact h.apart t1 t2 _ _ e1 e2 hne
  · rw [aget_aput] at e2
    split at e2
    · cases e2; exact hn
    · exact h.fnew t p e2
/-- The map has turned: each of its files was one ahead. -/
theorem DAt.remap (h : DAt w0 w db D mb L) (hk : Keeps (fun k => k = mb) w w') {L' : List (ByteArray × (Nat × FileC))} (hm : MapAt .string w' mb (avals fptr L')) (hd : KD L') (hin : ∀ s p, aget L' s = Option.some p → ∃ t, aget L t = Option.some p)
    (ha : ∀ s t p q, aget L' s = Option.some p → aget L' t = Option.some q → s ≠ t → p.1 ≠ q.1) : DAt w0 w' db ⟨D.room, D.used, D.fuse, amap (·.2) L'⟩ mb L' :=
  ⟨h.k0.trans hk (fun k hk e => by have := h.new.2; omega), (hk.block _ (block_lt h.blk) h.ne).trans h.blk, rfl, hm, fun s p e => by
    obtain ⟨t, e2⟩ := hin s p e
    exact (hk.block _ (block_lt (h.fil t p e2)) (h.fnew t p e2).2.2).trans (h.fil t p e2), ha, h.ne, h.new, fun s p e => by
    obtain ⟨t, e2⟩ := hin s p e
    exact h.fnew t p e2, hd⟩
/-- A key struck. -/
theorem DAt.del (h : DAt w0 w db D mb L) (hk : Keeps (fun k => k = mb) w w') (s : ByteArray) (hm : MapAt .string w' mb (adel (avals fptr L) s)) : DAt w0 w' db ⟨D.room, D.used, D.fuse, adel D.files s⟩ mb (adel L s) := by
  have := h.remap hk (L' := adel L s) (by rw [← adel_avals]; exact hm) (h.keys.del s) (fun t p e => ⟨t, by
    rw [aget_adel h.keys] at e
    split at e
    · cases e
    · exact e⟩) (fun t1 t2 p q e1 e2 hne => by
    rw [aget_adel h.keys] at e1 e2
    split at e1
    · cases e1
    · split at e2
      · cases e2
      · exact h.apart t1 t2 p q e1 e2 hne)
  rw [← adel_amap, h.core] at this
  exact this
/-- A file's name has turned. -/
theorem DAt.move (h : DAt w0 w db D mb L) (hk : Keeps (fun k => k = mb) w w') {s : ByteArray} {b : Nat} {x : FileC} (e : aget L s = Option.some (b, x)) (t : ByteArray) (hm : MapAt .string w' mb (aput (adel (avals fptr L) s) t (fptr (b, x)))) :
    DAt w0 w' db ⟨D.room, D.used, D.fuse, aput (adel D.files s) t x⟩ mb (aput (adel L s) t (b, x)) := by
  have hag : ∀ u p, aget (aput (adel L s) t (b, x)) u = Option.some p → (u = t ∧ p = (b, x)) ∨ (u ≠ s ∧ u ≠ t ∧ aget L u = Option.some p) := fun u p e1 => by
    rw [aget_aput, aget_adel h.keys] at e1
    split at e1
    · rename_i h1; cases e1; exact .inl ⟨h1.symm, rfl⟩
    · split at e1
      · cases e1
      · rename_i h1 h2
        exact .inr ⟨Ne.symm h2, Ne.symm h1, e1⟩
  have := h.remap hk (L' := aput (adel L s) t (b, x)) (by rw [← aput_avals, ← adel_avals]; exact hm) ((h.keys.del s).put _ _) (fun u p e1 => by
    rcases hag u p e1 with ⟨_, rfl⟩ | ⟨_, _, e2⟩
    · exact ⟨s, e⟩
    · exact ⟨u, e2⟩) (fun u1 u2 p q e1 e2 hne => by
    rcases hag u1 p e1 with ⟨h1, rfl⟩ | ⟨h1, h1', e1'⟩
    · rcases hag u2 q e2 with ⟨h2, rfl⟩ | ⟨h2, _, e2'⟩
      · exact absurd (h1.trans h2.symm) hne
      · exact h.apart s u2 _ _ e e2' (Ne.symm h2)
    · rcases hag u2 q e2 with ⟨h2, rfl⟩ | ⟨h2, _, e2'⟩
      · exact h.apart u1 s _ _ e1' e h1
      · exact h.apart u1 u2 _ _ e1' e2' hne)
  rw [← aput_amap (fun p : Nat × FileC => p.2) (adel L s) t (b, x), ← adel_amap, h.core] at this
  exact this
/-- A file more. -/
theorem DAt.add (h : DAt w0 w db D mb L) {w1 : World} {s : ByteArray} {b : Nat} {x : FileC} (e : aget L s = Option.none) (hk : K0 w w1) (hb : w.heap.size ≤ b) (hf : w1.heap[b]? = Option.some (.cells #[.string x.bytes, .int .i64 x.safe] 65 (0, 0)))
    {o : Obj} (hm : MapAt .string (setObjAt w1 mb o) mb (aput (avals fptr L) s (fptr (b, x)))) : DAt w0 (setObjAt w1 mb o) db ⟨D.room, D.used, D.fuse, aput D.files s x⟩ mb (aput L s (b, x)) := by
  have hp : Keeps (fun k => k = mb) w (setObjAt w1 mb o) := Keeps.setObj (S := fun k => k = mb) (hk.mono (fun _ _ e => absurd e id)) (fun _ => rfl) _
  have h1 := block_lt h.blk
  have h2 := h.map.lt
  have h3 := h.k0.size
  have hlt : ∀ t p, aget L t = Option.some p → p.1 < w.heap.size := fun t p e => block_lt (h.fil t p e)
  refine ⟨h.k0.trans hp (fun k hk e => by have := h.new.2; omega), (hp.block _ h1 h.ne).trans h.blk, ?_, ?_, fun t p e2 => ?_, fun t1 t2 p q e1 e2 hne => ?_, h.ne, h.new, fun t p e2 => ?_, h.keys.put _ _⟩
  · rw [← aput_amap (fun p : Nat × FileC => p.2) L s (b, x), h.core]
  · rw [← aput_avals]
    exact hm
  · rw [aget_aput] at e2
    split at e2
    · cases e2
      exact (setObjAt_other _ _ (by show b ≠ mb; omega)).trans hf
    · exact (hp.block _ (hlt t p e2) (h.fnew t p e2).2.2).trans (h.fil t p e2)
  · rw [aget_aput] at e1 e2
    split at e1
    · split at e2
      · rename_i h1 h2; exact absurd (h1.symm.trans h2) hne
      · cases e1
        have := hlt t2 q e2
        show b ≠ q.1
        omega
    · split at e2
      · cases e2
        have := hlt t1 p e1
        show p.1 ≠ b
        omega
      · exact h.apart t1 t2 _ _ e1 e2 hne
  · rw [aget_aput] at e2
    split at e2
    · cases e2
      exact ⟨by show w0.heap.size ≤ b; omega, by show b ≠ db; omega, by show b ≠ mb; omega⟩
    · exact h.fnew t p e2
end
end Go.Proofs.Ytjfblcmpdcbpgaa
