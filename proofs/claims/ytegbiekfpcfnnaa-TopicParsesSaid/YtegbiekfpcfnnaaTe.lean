/-
  TopicIds: no id is given twice.
-/
import Derived.Test.YtegbiekfpcfnnaaTd
import Derived.Test.YtegbiekfpcfnnaaRd
namespace Go.Proofs.Ytegbiekfpcfnnaa
open Go.RowKit Fx
/-- A call of a script. -/
structure OpC where
  doo : Int
  name : ByteArray
  parts : Int
def rOp : Rdr OpC := fun _ cs o => cs = [.int .i64 o.doo, .string o.name, .int .i64 o.parts]

/-- A table whose ids are all below the next one. -/
def Tbl.ok (t : Tbl) (last : Int) : Prop := last < t.next ∧ 0 ≤ t.next
theorem create_ok (t : Tbl) (last : Int) (h : t.ok last) (s : ByteArray) (p : Int) :
    ((t.create s p).2.1 = 0 → last < (t.create s p).1 ∧ (t.create s p).2.2.ok (t.create s p).1 ∧ (t.create s p).2.2.find s = ((t.create s p).1, p, 0)) ∧
    ((t.create s p).2.1 ≠ 0 → (t.create s p).2.2 = t) := by
  unfold Tbl.create
  split
  · simp
  · cases hg : aget t.all s with
    | some q => simp
    | none =>
      dsimp only
      split
      · simp
      · refine ⟨fun _ => ⟨h.1, ⟨by simp; omega, by have := h.2; simp; omega⟩, ?_⟩, fun e => absurd rfl e⟩
        have : aget (aput t.all s (t.next, p)) s = some (t.next, p) := by
          rw [aput_new hg]
          generalize t.all = l at hg
          induction l with
          | nil => simp [aget]
          | cons x l ih =>
            obtain ⟨k, u⟩ := x
            simp only [aget] at hg
            split at hg
            · cases hg
            · rename_i hk; simp [aget, hk, ih hg]
        simp [Tbl.find, this]
theorem delete_ok (t : Tbl) (last : Int) (h : t.ok last) (s : ByteArray) : (⟨t.next, adel t.all s⟩ : Tbl).ok last := h

theorem op_cells {w w' : World} {b off : Nat} {l : List OpC} {S : Nat → Prop} (h : RowAt 3 rOp w b off l) (hk : Keeps S w w') (hb : b < w.heap.size → ¬ S b) (k : Nat) (hl : k < l.length) :
    w'.cell? ⟨b, off + k * 3, none⟩ = some (.int .i64 l[k].doo) ∧ w'.cell? ⟨b, off + k * 3 + 1, none⟩ = some (.string l[k].name) ∧ w'.cell? ⟨b, off + k * 3 + 2, none⟩ = some (.int .i64 l[k].parts) ∧ b < w'.heap.size := by
  obtain ⟨cs, h1, h2, h3⟩ := h k hl
  unfold rOp at h3
  subst h3
  have e0 : w.cell? ⟨b, off + k * 3, none⟩ = some (.int .i64 l[k].doo) := h2 0 (by omega)
  have hlt := World.block_lt_of_cell? w _ e0
  exact ⟨hk.cell' e0 (hb hlt), hk.cell' (h2 1 (by omega)) (hb hlt), hk.cell' (h2 2 (by omega)) (hb hlt), Nat.lt_of_lt_of_le hlt hk.size⟩
/-- What the loop of TopicIds keeps. -/
def IdsRel (b m : Nat) (n : Nat) (last i : Value) (w0 w : World) : Prop :=
  ∃ (k : Nat) (la : Int) (t : Tbl), k ≤ n ∧ i = .int .i64 k ∧ last = .int .i64 la ∧ -1 ≤ la ∧ t.ok la ∧ TblAt w b m t ∧ Keeps (TblS b m) w0 w ∧ w0.heap.size + 2 ≤ w.heap.size
set_option maxRecDepth 100000 in
set_option maxHeartbeats 1000000 in
theorem ids_walk (b off cap : Nat) (l : List OpC) (w : World) (hc : l.length ≤ cap) (hm : l.length ≤ maxLen) (h : RowAt 3 rOp w b off l) :
    Calls Try.prog 3 #[.slice (some ⟨b, off, none⟩) l.length cap] w fun e w' => Same w e (.bool true) w' := by
  unfold maxLen at hm
  go_enter Try.func3, Try.ntmps3
  go_wp2_with (go_at_call 8; refine (new_calls _).mono ?_; rintro e w1 ⟨rfl, t1, k1, hz⟩)
  go_loopw [4, 5] (fun la i wr => IdsRel (w.heap.size + 1) w.heap.size l.length la i w wr) (fun _ i _ => l.length - (intOf i).toNat)
  case atStart => exact ⟨0, -1, ⟨0, []⟩, Nat.zero_le _, rfl, rfl, by omega, ⟨by decide, by decide⟩, t1, k1.mono (by simp), by omega⟩
  case round =>
    obtain ⟨k, la, t, hk, rfl, rfl, hla, hok, ht, kw, hsz⟩ := hrel
    clear t1 k1 hz
    by_cases hlt : k < l.length ∧ k < 60
    · obtain ⟨h1, h2⟩ := hlt
      obtain ⟨c0, c1, c2, hb⟩ := op_cells h kw (by unfold TblS; omega) k h1
      have hS : ∀ w' : World, Keeps (TblS (w.heap.size + 1) w.heap.size) (wr.alloc (.cells #[.int .i64 l[k].doo, .string l[k].name, .int .i64 l[k].parts] 26)) w' → Keeps (TblS (w.heap.size + 1) w.heap.size) w w' := fun w' hk => (kw.alloc _).trans hk (fun _ _ h => h)
      have hx : ∀ (w' : World), Keeps (TblS (w.heap.size + 1) w.heap.size) (wr.alloc (.cells #[.int .i64 l[k].doo, .string l[k].name, .int .i64 l[k].parts] 26)) w' → w'.cell? ⟨wr.heap.size, 1, none⟩ = some (.string l[k].name) ∧ w'.cell? ⟨wr.heap.size, 2, none⟩ = some (.int .i64 l[k].parts) :=
        fun w' hk => ⟨hk.cell' (by simp) (by unfold TblS; simp; omega), hk.cell' (by simp) (by unfold TblS; simp; omega)⟩
      have HT := Lib.hid (ht.keep ((Keeps.refl (fun _ => False) wr).alloc (.cells #[.int .i64 l[k].doo, .string l[k].name, .int .i64 l[k].parts] 26)) (by simp) (by simp))
      have HO := Lib.hid hok
      have HS := Lib.hid hS
      have HX := Lib.hid hx
      have HH := Lib.hid h
      clear kw ht hok hS h hx
      generalize hs : l[k] = o at *
      clear hs
      by_cases hd : o.doo = 1
      · have hd1 : (o.doo == 1) = true := by rw [hd]; rfl
        clear hd
        go_wp2_with fail
        refine (delete_any _ _ t o.name _ HT.out).mono ?_
        rintro e w2 ⟨rfl, t2, k2⟩
        have K2 := Lib.hid k2
        have T2 := Lib.hid t2
        clear k2 t2
        go_wp2
        go_roundw
        case rel => exact ⟨k + 1, la, _, by omega, by go_num, rfl, hla, delete_ok t la HO.out _, T2.out, HS.out _ K2.out, by have := K2.out.size; simp at this; omega⟩
        case measure => simp [intOf]; omega
      · have hd1 : (o.doo == 1) = false := by simpa using hd
        clear hd
        have HC := Lib.hid (create_at _ _ t o.name o.parts _ HT.out HO.out.2)
        have HQ := Lib.hid (create_ok t la HO.out o.name o.parts)
        generalize t.create o.name o.parts = r at HC HQ
        obtain ⟨id, er, t'⟩ := r
        dsimp only at HC HQ
        by_cases he : er = 0
        · subst he
          obtain ⟨q1, q2, q3⟩ := HQ.out.1 rfl
          have Q2 := Lib.hid q2
          have Q3 := Lib.hid q3
          have hq4 : ¬ id ≤ la := by omega
          clear q2 q3 HQ
          go_wp2_with fail
          refine HC.out.mono ?_
          rintro e w2 ⟨rfl, t2, k2⟩
          obtain ⟨x1, x2⟩ := HX.out _ k2
          have hf := find_at _ _ _ o.name _ t2
          rw [Q3.out] at hf
          have HF := Lib.hid hf
          have T2 := Lib.hid t2
          have K2 := Lib.hid k2
          clear hf t2 k2
          go_wp2_with fail
          refine HF.out.mono ?_
          rintro e w3 ⟨rfl, k3⟩
          have x3 := k3.cell' x2 (by simp)
          have T3 := Lib.hid (T2.out.keep k3 (by simp) (by simp))
          have K3 := Lib.hid (HS.out _ (K2.out.trans k3 (by simp)))
          have SZ : w.heap.size + 2 ≤ w3.heap.size := by have := K2.out.size; have := k3.size; simp at *; omega
          clear x1 x2 k3 HF T2 K2
          have i1 : (id != id) = false := by simp
          have i2 : (o.parts != o.parts) = false := by simp
          go_wp2
          go_roundw
          case rel => exact ⟨k + 1, id, _, by omega, by go_num, rfl, by omega, Q2.out, T3.out, K3.out, SZ⟩
          case measure => simp [intOf]; omega
        · have ht' : t' = t := HQ.out.2 he
          subst ht'
          have he1 : (er != 0) = true := by simpa using he
          clear he HQ
          go_wp2_with fail
          refine HC.out.mono ?_
          rintro e w2 ⟨rfl, t2, k2⟩
          have K2 := Lib.hid k2
          have T2 := Lib.hid t2
          clear k2 t2
          go_wp2
          go_roundw
          case rel => exact ⟨k + 1, la, _, by omega, by go_num, rfl, hla, HO.out, T2.out, HS.out _ K2.out, by have := K2.out.size; simp at this; omega⟩
          case measure => simp [intOf]; omega
    · have HK := Lib.hid (kw.none (fun k hk => by unfold TblS; omega))
      clear kw ht hok h
      by_cases h1 : k < l.length
      · have h2 : ¬ k < 60 := fun e => hlt ⟨h1, e⟩
        clear hlt
        go_wp2_with (go_at_call 12; refine (live_any _).mono ?_; rintro e w2 ⟨rfl, k2⟩)
        go_ret
        exact ⟨rfl, HK.out.trans k2 (by simp)⟩
      · clear hlt
        go_wp2_with (go_at_call 12; refine (live_any _).mono ?_; rintro e w2 ⟨rfl, k2⟩)
        go_ret
        exact ⟨rfl, HK.out.trans k2 (by simp)⟩
end Go.Proofs.Ytegbiekfpcfnnaa
