/-
  Producers as an object: the map of those heard, each one's block.
-/
import Derived.Test.YtbjpifipjcfhkaaIb
namespace Go.Proofs.Ytbjpifipjcfhkaa
open Go.RowKit Fx

def hptr (p : Nat × HeardC) : Value := .pointer (some ⟨p.1, 0, none⟩)
structure PAt (w0 w : World) (pb : Nat) (M : List (Int × HeardC)) (mb : Nat) (L : List (Int × (Nat × HeardC))) : Prop where
  k0 : K0 w0 w
  blk : w.heap[pb]? = some (.cells #[.map (some mb)] 58 (0, 0))
  core : amap (·.2) L = M
  map : MapAt (.int .i64) w mb (avals hptr L)
  her : ∀ s p, aget L s = some p → HAt w p.1 p.2
  apart : ∀ s t p q, aget L s = some p → aget L t = some q → s ≠ t → p.1 ≠ q.1
  ne : pb ≠ mb
  new : w0.heap.size ≤ pb ∧ w0.heap.size ≤ mb
  fnew : ∀ s p, aget L s = some p → w0.heap.size ≤ p.1 ∧ p.1 ≠ pb ∧ p.1 ≠ mb
  keys : KD L
def PSt (w0 w : World) (pb : Nat) (M : List (Int × HeardC)) : Prop := ∃ mb L, PAt w0 w pb M mb L
section
variable {w0 w w' : World} {pb mb : Nat} {M : List (Int × HeardC)} {L : List (Int × (Nat × HeardC))}
theorem PAt.keep (h : PAt w0 w pb M mb L) (hk : K0 w w') : PAt w0 w' pb M mb L :=
  ⟨K0.tr h.k0 hk, (hk.block pb (block_lt h.blk) (fun e => e)).trans h.blk, h.core, h.map.keep hk (fun e => e), fun s p e => (hk.block _ (block_lt (h.her s p e)) (fun e => e)).trans (h.her s p e), h.apart, h.ne, h.new, h.fnew, h.keys⟩
theorem PSt.keep (h : PSt w0 w pb M) (hk : K0 w w') : PSt w0 w' pb M := by
  obtain ⟨mb, L, h⟩ := h
  exact ⟨mb, L, h.keep hk⟩
theorem PSt.k0 (h : PSt w0 w pb M) : K0 w0 w := by
  obtain ⟨_, _, h⟩ := h
  exact h.k0
theorem PAt.agetL (h : PAt w0 w pb M mb L) (s : Int) : aget M s = (aget L s).map (·.2) := by rw [← h.core, aget_amap]
theorem aput_hptr {s : Int} {b : Nat} {x : HeardC} (h : aget L s = Option.some (b, x)) (x' : HeardC) : avals hptr (aput L s (b, x')) = avals hptr L := by
  induction L with
  | nil => simp [aget] at h
  | cons p L ih =>
    obtain ⟨k, u⟩ := p
    simp only [aget] at h
    by_cases hk : k = s
    · rw [if_pos hk] at h
      cases h
      simp [avals, aput, hk, hptr]
    · rw [if_neg hk] at h
      have := ih h
      simp only [avals, aput, if_neg hk, List.map_cons] at this ⊢
      rw [this]
/-- One producer has turned. -/
theorem PAt.turn (h : PAt w0 w pb M mb L) {s : Int} {b : Nat} {x x' : HeardC} (e : aget L s = Option.some (b, x)) (hk : Keeps (fun k => k = b) w w') (hf : HAt w' b x') : PAt w0 w' pb (aput M s x') mb (aput L s (b, x')) := by
  have hn := h.fnew s _ e
  refine ⟨h.k0.trans hk (fun k hk e2 => by have := h.new.1; have := hn.1; omega), (hk.block _ (block_lt h.blk) (fun e2 => hn.2.1 e2.symm)).trans h.blk, ?_, ?_, fun t p e2 => ?_, fun t1 t2 p q e1 e2 hne => ?_, h.ne, h.new, fun t p e2 => ?_, h.keys.put _ _⟩
  · rw [← aput_amap (fun p : Nat × HeardC => p.2) L s (b, x'), h.core]
  · rw [aput_hptr e]
    exact h.map.keep hk (fun e2 => hn.2.2 e2.symm)
  · rw [aget_aput] at e2
    split at e2
    · cases e2; exact hf
    · rename_i hst
      exact (hk.block _ (block_lt (h.her t p e2)) (fun e3 => h.apart s t _ _ e e2 hst e3.symm)).trans (h.her t p e2)
  · rw [aget_aput] at e1 e2
    split at e1
    · split at e2
      · rename_i h1 h2; exact absurd (h1.symm.trans h2) hne
      · rename_i h1 h2
        cases e1
        exact h.apart s t2 (b, x) _ e e2 h2
    · split at e2
      · rename_i h1 h2
        cases e2
        exact h.apart t1 s _ (b, x) e1 e (Ne.symm h1)
      · exact h.apart t1 t2 _ _ e1 e2 hne
  · rw [aget_aput] at e2
    split at e2
    · cases e2; exact hn
    · exact h.fnew t p e2
/-- A producer anew: a block made since. -/
theorem PAt.put (h : PAt w0 w pb M mb L) {w1 : World} (s : Int) {b : Nat} {x : HeardC} (hk : K0 w w1) (hb : w.heap.size ≤ b) (hf : HAt w1 b x)
    {o : Obj} (hm : MapAt (.int .i64) (setObjAt w1 mb o) mb (aput (avals hptr L) s (hptr (b, x)))) : PAt w0 (setObjAt w1 mb o) pb (aput M s x) mb (aput L s (b, x)) := by
  have hp : Keeps (fun k => k = mb) w (setObjAt w1 mb o) := Keeps.setObj (S := fun k => k = mb) (hk.mono (fun _ _ e => absurd e id)) (fun _ => rfl) _
  have h1 := block_lt h.blk
  have h2 := h.map.lt
  have h3 := h.k0.size
  have hlt : ∀ t p, aget L t = Option.some p → p.1 < w.heap.size := fun t p e => block_lt (h.her t p e)
  refine ⟨h.k0.trans hp (fun k hk e => by have := h.new.2; omega), (hp.block _ h1 h.ne).trans h.blk, ?_, ?_, fun t p e2 => ?_, fun t1 t2 p q e1 e2 hne => ?_, h.ne, h.new, fun t p e2 => ?_, h.keys.put _ _⟩
  · rw [← aput_amap (fun p : Nat × HeardC => p.2) L s (b, x), h.core]
  · rw [← aput_avals]
    exact hm
  · rw [aget_aput] at e2
    split at e2
    · cases e2
      exact (setObjAt_other _ _ (by show b ≠ mb; omega)).trans hf
    · exact (hp.block _ (hlt t p e2) (h.fnew t p e2).2.2).trans (h.her t p e2)
  · rw [aget_aput] at e1 e2
    split at e1
    · split at e2
      · rename_i h1 h2; exact absurd (h1.symm.trans h2) hne
      · cases e1
        have := hlt t2 q e2
        show b ≠ q.1
        omega
    · split at e2
      · cases e2
        have := hlt t1 p e1
        show p.1 ≠ b
        omega
      · exact h.apart t1 t2 _ _ e1 e2 hne
  · rw [aget_aput] at e2
    split at e2
    · cases e2
      exact ⟨by show w0.heap.size ≤ b; omega, by show b ≠ pb; omega, by show b ≠ mb; omega⟩
    · exact h.fnew t p e2
def noneH : HeardC := ⟨-1, fun _ => ⟨0, 0, 0⟩, 0, 0⟩
theorem noneH_ok : HOk noneH := ⟨by decide, by decide⟩
theorem zeroHeard (w : World) : (zeroValue 59).run Try.prog w = .ok (.pointer none) w := by kernel_rfl
set_option maxRecDepth 100000 in
set_option maxHeartbeats 1000000 in
theorem of_nil (id : Int) (w : World) : Calls Try.prog 25 #[.pointer none, .int .i64 id] w fun e w' => e = .returned (.pointer (some ⟨w.heap.size, 0, none⟩)) ∧ HAt w' w.heap.size noneH ∧ K0 w w' := by
  go_enter Try.func25, Try.ntmps25
  go_wp2
  go_ret
  exact ⟨rfl, heap_new _ _ _ rfl, (Keeps.refl _ _).alloc _⟩
set_option maxRecDepth 100000 in
set_option maxHeartbeats 1000000 in
theorem of_none (h : PAt w0 w pb M mb L) (id : Int) (e : aget L id = none) : Calls Try.prog 25 #[.pointer (some ⟨pb, 0, none⟩), .int .i64 id] w fun e w' => e = .returned (.pointer (some ⟨w.heap.size, 0, none⟩)) ∧ HAt w' w.heap.size noneH ∧ K0 w w' := by
  have c0 : w.cell? ⟨pb, 0, none⟩ = some (.map (some mb)) := block_cell h.blk 0
  have hlt := block_lt h.blk
  have hm := Lib.hid h.map
  have HV : Hid (aget (avals hptr L) id = none) := by show _ = _; rw [aget_avals, e]; rfl
  clear h e
  go_enter Try.func25, Try.ntmps25
  go_wp2_with (at_lookup; refine wpList_look (intKey Try.underlying3) rfl rfl Try.underlying56 zeroHeard rfl id rfl hm.out _ HV.out ?_)
  go_ret
  exact ⟨rfl, heap_new _ _ _ rfl, (Keeps.refl _ _).alloc _⟩
set_option maxRecDepth 100000 in
set_option maxHeartbeats 1000000 in
theorem of_some (h : PAt w0 w pb M mb L) (id : Int) {b : Nat} {x : HeardC} (e : aget L id = some (b, x)) : Calls Try.prog 25 #[.pointer (some ⟨pb, 0, none⟩), .int .i64 id] w fun e w' => Same w e (.pointer (some ⟨b, 0, none⟩)) w' := by
  have c0 : w.cell? ⟨pb, 0, none⟩ = some (.map (some mb)) := block_cell h.blk 0
  have hlt := block_lt h.blk
  have hm := Lib.hid h.map
  have HV : Hid (aget (avals hptr L) id = some (.pointer (some ⟨b, 0, none⟩))) := by show _ = _; rw [aget_avals, e]; rfl
  clear h e
  go_enter Try.func25, Try.ntmps25
  go_wp2_with (at_lookup; refine wpList_look (intKey Try.underlying3) rfl rfl Try.underlying56 zeroHeard rfl id rfl hm.out _ HV.out ?_)
  go_ret
  exact ⟨rfl, Keeps.refl _ _⟩
/-- Who a name's producer is: one that is there, or one anew that nobody has heard. -/
def oldH (M : List (Int × HeardC)) (id : Int) : HeardC := (aget M id).getD noneH
def OfPost (w : World) (L : List (Int × (Nat × HeardC))) (M : List (Int × HeardC)) (id : Int) (e : Ending) (w' : World) : Prop :=
  ∃ b, e = .returned (.pointer (some ⟨b, 0, none⟩)) ∧ HAt w' b (oldH M id) ∧ K0 w w' ∧ ((aget L id = some (b, oldH M id)) ∨ (aget L id = none ∧ w.heap.size ≤ b))
theorem of_any (h : PAt w0 w pb M mb L) (id : Int) : Calls Try.prog 25 #[.pointer (some ⟨pb, 0, none⟩), .int .i64 id] w fun e w' => OfPost w L M id e w' := by
  cases e : aget L id with
  | none =>
    have ho : oldH M id = noneH := by unfold oldH; rw [h.agetL, e]; rfl
    refine (of_none h id e).mono fun e w' hq => ?_
    exact ⟨_, hq.1, by rw [ho]; exact hq.2.1, hq.2.2, .inr ⟨by assumption, Nat.le_refl _⟩⟩
  | some p =>
    obtain ⟨b, x⟩ := p
    have ho : oldH M id = x := by unfold oldH; rw [h.agetL, e]; rfl
    refine (of_some h id e).mono fun e2 w' hq => ?_
    exact ⟨b, hq.1, by rw [ho]; exact (hq.2.block _ (block_lt (h.her _ _ e)) (fun e => e)).trans (h.her _ _ e), hq.2, .inl (by rw [ho]; exact e)⟩
end
end Go.Proofs.Ytbjpifipjcfhkaa
