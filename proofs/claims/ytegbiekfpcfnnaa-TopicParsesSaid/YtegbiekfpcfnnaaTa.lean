/-
  The package topic's table: what New, Create, Delete and Find do to it.
-/
import Derived.Test.YtegbiekfpcfnnaaRows
import Derived.Test.YtegbiekfpcfnnaaMq
import Derived.WalkKit
import Derived.WalkSpells
import Derived.WalkLawsBesides
import Derived.Deep.QuietTactic
import Derived.BigQuiet
import Derived.Outline
import Derived.Lib.Hide
namespace Go.Proofs.Ytegbiekfpcfnnaa
open Go.RowKit Fx

/-- A table: the next id; each topic's name, id, number of partitions. -/
structure Tbl where
  next : Int
  all : List (ByteArray × (Int × Int))
def Tbl.vals (l : List (ByteArray × (Int × Int))) : List (ByteArray × Value) := l.map fun p => (p.1, .agg #[.int .i64 p.2.1, .int .i64 p.2.2])
theorem aget_vals (l : List (ByteArray × (Int × Int))) (s : ByteArray) : aget (Tbl.vals l) s = (aget l s).map fun p => .agg #[.int .i64 p.1, .int .i64 p.2] := by
  induction l with
  | nil => rfl
  | cons p l ih =>
    obtain ⟨k, x, y⟩ := p
    simp only [Tbl.vals, List.map_cons, aget] at ih ⊢
    by_cases h : k = s
    · simp [h]
    · simp only [h, if_false]; exact ih
theorem aput_vals (l : List (ByteArray × (Int × Int))) (s : ByteArray) (x y : Int) : aput (Tbl.vals l) s (.agg #[.int .i64 x, .int .i64 y]) = Tbl.vals (aput l s (x, y)) := by
  induction l with
  | nil => rfl
  | cons p l ih =>
    obtain ⟨k, u, v⟩ := p
    simp only [Tbl.vals, List.map_cons, aput] at ih ⊢
    by_cases h : k = s
    · simp [h]
    · simp only [h, if_false, List.map_cons]; rw [ih]
theorem adel_vals (l : List (ByteArray × (Int × Int))) (s : ByteArray) : adel (Tbl.vals l) s = Tbl.vals (adel l s) := by
  induction l with
  | nil => rfl
  | cons p l ih =>
    obtain ⟨k, u, v⟩ := p
    simp only [Tbl.vals, List.map_cons, adel] at ih ⊢
    by_cases h : k = s
    · simp [h]
    · simp only [h, if_false, List.map_cons]; rw [ih]

/-- Where a table lies: its record in block b, its map in block m. -/
structure TblAt (w : World) (b m : Nat) (t : Tbl) : Prop where
  ne : b ≠ m
  rcd : w.heap[b]? = some (.cells #[.int .i64 t.next, .map (some m)] 56 (0, 0))
  map : MapAt .string w m (Tbl.vals t.all)

theorem TblAt.lt {w : World} {b m : Nat} {t : Tbl} (h : TblAt w b m t) : b < w.heap.size := (Array.getElem?_eq_some_iff.1 h.rcd).1
theorem TblAt.cell0 {w : World} {b m : Nat} {t : Tbl} (h : TblAt w b m t) : w.cell? ⟨b, 0, none⟩ = some (.int .i64 t.next) := by simp [World.cell?, h.rcd]
theorem TblAt.cell1 {w : World} {b m : Nat} {t : Tbl} (h : TblAt w b m t) : w.cell? ⟨b, 1, none⟩ = some (.map (some m)) := by simp [World.cell?, h.rcd]
theorem TblAt.free {w : World} {b m : Nat} {t : Tbl} (h : TblAt w b m t) (i : Nat) : w.frozen? ⟨b, i, none⟩ = false := by simp [World.frozen?, h.rcd]
/-- The blocks of a table. -/
def TblS (b m : Nat) (k : Nat) : Prop := k = b ∨ k = m
theorem TblAt.keep {w w' : World} {b m : Nat} {t : Tbl} {S : Nat → Prop} (h : TblAt w b m t) (hk : Keeps S w w') (hb : ¬ S b) (hm : ¬ S m) : TblAt w' b m t :=
  ⟨h.ne, (hk.block b h.lt hb).trans h.rcd, h.map.keep hk hm⟩

set_option maxHeartbeats 400000 in
theorem new_any (w : World) :
    Calls Try.prog 8 #[] w fun e w' => e = .returned (.pointer (some ⟨w.heap.size + 1, 0, none⟩)) ∧ w' = (w.alloc (.map #[] 0)).alloc (.cells #[.int .i64 0, .map (some w.heap.size)] 56) := by
  have hmm := @run_makeMap Try.prog
  go_enter Try.func8, Try.ntmps8
  go_wp2
  go_ret
  exact ⟨rfl, rfl⟩
/-- What New makes. -/
def NewPost (w : World) (e : Ending) (w' : World) : Prop :=
  e = .returned (.pointer (some ⟨w.heap.size + 1, 0, none⟩)) ∧ TblAt w' (w.heap.size + 1) w.heap.size ⟨0, []⟩ ∧ Keeps (fun _ => False) w w' ∧ w'.heap.size = w.heap.size + 2
theorem new_calls (w : World) : Calls Try.prog 8 #[] w (NewPost w) := by
  refine (new_any w).mono ?_
  rintro e w' ⟨rfl, rfl⟩
  refine ⟨rfl, ⟨by omega, ?_, ?_⟩, ((Keeps.refl _ _).alloc _).alloc _, by simp⟩
  · have : w.heap.size + 1 = (w.alloc (.map #[] 0)).heap.size := by simp
    rw [this]; exact (MapKept.heap_alloc _ _).1
  · exact (mapAt_new w).of_block (Below.heap_alloc _ _ _ (by simp))

theorem zero58 (w : World) : (zeroValue 58).run Try.prog w = .ok (.agg #[.int .i64 0, .int .i64 0]) w := by kernel_rfl

set_option maxHeartbeats 400000 in
theorem find_nil (s : ByteArray) (w : World) :
    Calls Try.prog 11 #[.pointer none, .string s] w fun e w' => e = .returned (.tuple #[.int .i64 0, .int .i64 0, .int .i64 1]) ∧ w = w' := by
  go_enter Try.func11, Try.ntmps11
  go_wp2
  go_ret3
  exact ⟨rfl, rfl⟩
/-- What Find answers. -/
def Tbl.find (t : Tbl) (s : ByteArray) : Int × Int × Int := match aget t.all s with
  | none => (0, 0, 6)
  | some p => (p.1, p.2, 0)
def Same (w : World) (e : Ending) (v : Value) (w' : World) : Prop := e = .returned v ∧ Keeps (fun _ => False) w w'
set_option maxHeartbeats 400000 in
theorem find_at (b m : Nat) (t : Tbl) (s : ByteArray) (w : World) (h : TblAt w b m t) :
    Calls Try.prog 11 #[.pointer (some ⟨b, 0, none⟩), .string s] w fun e w' => Same w e (.tuple #[.int .i64 (t.find s).1, .int .i64 (t.find s).2.1, .int .i64 (t.find s).2.2]) w' := by
  have h1 := h.cell1
  have hm := h.map
  have hv := aget_vals t.all s
  unfold Tbl.find
  generalize Tbl.vals t.all = L at hm hv
  cases hg : aget t.all s with
  | none =>
    rw [hg] at hv
    have HV := Lib.hid hv
    clear hv hg h
    go_enter Try.func11, Try.ntmps11
    go_wp2_with (at_lookup; refine wpList_look (strKey Try.underlying9) rfl rfl Try.underlying54 zero58 rfl s rfl hm _ HV.out ?_)
    go_ret3
    exact ⟨rfl, (Keeps.refl _ _).alloc _⟩
  | some p =>
    obtain ⟨x, y⟩ := p
    rw [hg] at hv
    have HV := Lib.hid hv
    clear hv hg h
    go_enter Try.func11, Try.ntmps11
    go_wp2_with (at_lookup; refine wpList_look (strKey Try.underlying9) rfl rfl Try.underlying54 zero58 rfl s rfl hm _ HV.out ?_)
    go_quiet (fail)
    go_wp2
    go_ret3
    exact ⟨rfl, ((Keeps.refl _ _).alloc _).drewN _⟩

/-- What a change of a table does: the answer, the table behind it, what is left as it was. -/
def Turns (w : World) (b m : Nat) (e : Ending) (v : Value) (t' : Tbl) (w' : World) : Prop := e = .returned v ∧ TblAt w' b m t' ∧ Keeps (TblS b m) w w'
/-- Create. -/
def Tbl.create (t : Tbl) (s : ByteArray) (p : Int) : Int × Int × Tbl :=
  if s.size = 0 ∨ 100 < s.size ∨ p < 1 ∨ 16 < p then (0, 1, t)
  else match aget t.all s with
    | some _ => (0, 14, t)
    | none => if 20 ≤ t.all.length ∨ 1073741824 ≤ t.next then (0, 5, t) else (t.next, 0, ⟨t.next + 1, aput t.all s (t.next, p)⟩)

theorem empty_iff (s : ByteArray) : s.toList = [] ↔ s.size = 0 := by
  rw [ByteArray.toList_eq]
  show s.data.toList = [] ↔ s.data.size = 0
  rw [← List.length_eq_zero_iff, Array.length_toList]

set_option maxRecDepth 100000 in
set_option maxHeartbeats 400000 in
theorem create_arg (b : Nat) (s : ByteArray) (p : Int) (w : World) (h : s.size = 0 ∨ 100 < s.size ∨ p < 1 ∨ 16 < p) :
    Calls Try.prog 10 #[.pointer (some ⟨b, 0, none⟩), .string s, .int .i64 p] w fun e w' => e = .returned (.tuple #[.int .i64 0, .int .i64 1]) ∧ w = w' := by
  have hs := empty_iff s
  by_cases h0 : s.size = 0
  · have h1 : s.toList.isEmpty = true := by rw [List.isEmpty_iff]; exact hs.2 h0
    clear h hs h0
    go_enter Try.func10, Try.ntmps10
    go_wp2
    go_ret2
    exact ⟨rfl, rfl⟩
  · have h1 : s.toList.isEmpty = false := by
      cases hq : s.toList.isEmpty
      · rfl
      · exact absurd (hs.1 (List.isEmpty_iff.1 hq)) h0
    by_cases h2 : 100 < s.size
    · clear h hs h0
      go_enter Try.func10, Try.ntmps10
      go_wp2
      go_ret2
      exact ⟨rfl, rfl⟩
    · by_cases h3 : p < 1
      · clear h hs h0
        go_enter Try.func10, Try.ntmps10
        go_wp2
        go_ret2
        exact ⟨rfl, rfl⟩
      · have h4 : 16 < p := by omega
        clear h hs h0
        go_enter Try.func10, Try.ntmps10
        go_wp2
        go_ret2
        exact ⟨rfl, rfl⟩

set_option maxRecDepth 100000 in
set_option maxHeartbeats 400000 in
theorem create_there (b m : Nat) (s : ByteArray) (p : Int) (w : World) (L : List (ByteArray × Value)) (h0 : s.toList.isEmpty = false) (h2 : s.size ≤ 100) (h3 : 1 ≤ p) (h4 : p ≤ 16)
    (h1 : w.cell? ⟨b, 1, none⟩ = some (.map (some m))) (hm : MapAt .string w m L) (x y : Int) (hv : Hid (aget L s = some (.agg #[.int .i64 x, .int .i64 y]))) :
    Calls Try.prog 10 #[.pointer (some ⟨b, 0, none⟩), .string s, .int .i64 p] w fun e w' => e = .returned (.tuple #[.int .i64 0, .int .i64 14]) ∧ Keeps (fun _ => False) w w' := by
  go_enter Try.func10, Try.ntmps10
  go_wp2_with (at_lookup; refine wpList_look (strKey Try.underlying9) rfl rfl Try.underlying54 zero58 rfl s rfl hm _ hv.out ?_)
  go_ret2
  exact ⟨rfl, (Keeps.refl _ _).alloc _⟩

set_option maxRecDepth 100000 in
set_option maxHeartbeats 400000 in
theorem create_full (b m : Nat) (s : ByteArray) (p : Int) (nx : Int) (w : World) (L : List (ByteArray × Value)) (h0 : s.toList.isEmpty = false) (h2 : s.size ≤ 100) (h3 : 1 ≤ p) (h4 : p ≤ 16)
    (c0 : w.cell? ⟨b, 0, none⟩ = some (.int .i64 nx)) (h1 : w.cell? ⟨b, 1, none⟩ = some (.map (some m))) (hm : MapAt .string w m L) (hv : Hid (aget L s = none)) (hb : b < w.heap.size) (hf : 20 ≤ L.length ∨ 1073741824 ≤ nx) :
    Calls Try.prog 10 #[.pointer (some ⟨b, 0, none⟩), .string s, .int .i64 p] w fun e w' => e = .returned (.tuple #[.int .i64 0, .int .i64 5]) ∧ Keeps (fun _ => False) w w' := by
  have hM1 := fun o => hm.of_block (Below.heap_alloc w o m hm.lt)
  by_cases h5 : 20 ≤ L.length
  · clear hf
    go_enter Try.func10, Try.ntmps10
    go_wp2_with (first | (at_lookup; refine wpList_look (strKey Try.underlying9) rfl rfl Try.underlying54 zero58 rfl s rfl hm _ hv.out ?_) | (at_len; refine wpList_len rfl rfl Try.underlying54 rfl (hM1 _) ?_))
    go_ret2
    exact ⟨rfl, (Keeps.refl _ _).alloc _⟩
  · have h6 : 1073741824 ≤ nx := by omega
    clear hf
    go_enter Try.func10, Try.ntmps10
    go_wp2_with (first | (at_lookup; refine wpList_look (strKey Try.underlying9) rfl rfl Try.underlying54 zero58 rfl s rfl hm _ hv.out ?_) | (at_len; refine wpList_len rfl rfl Try.underlying54 rfl (hM1 _) ?_))
    go_ret2
    exact ⟨rfl, (Keeps.refl _ _).alloc _⟩

set_option maxRecDepth 100000 in
set_option maxHeartbeats 400000 in
theorem create_new (b m : Nat) (s : ByteArray) (p : Int) (nx : Int) (w : World) (L : List (ByteArray × Value)) (h0 : s.toList.isEmpty = false) (h2 : s.size ≤ 100) (h3 : 1 ≤ p) (h4 : p ≤ 16) (hne : b ≠ m) (hb : b < w.heap.size)
    (c0 : w.cell? ⟨b, 0, none⟩ = some (.int .i64 nx)) (h1 : w.cell? ⟨b, 1, none⟩ = some (.map (some m))) (f0 : w.frozen? ⟨b, 0, none⟩ = false) (hm : MapAt .string w m L) (hv : Hid (aget L s = none)) (h5 : L.length < 20) (hn : 0 ≤ nx) (h6 : nx < 1073741824) :
    Calls Try.prog 10 #[.pointer (some ⟨b, 0, none⟩), .string s, .int .i64 p] w fun e w' => e = .returned (.tuple #[.int .i64 nx, .int .i64 0]) ∧ ∃ o ob, MapAt .string (setObjAt (w.alloc o) m ob) m (aput L s (.agg #[.int .i64 nx, .int .i64 p])) ∧ w' = (setObjAt (w.alloc o) m ob).setCell ⟨b, 0, none⟩ (.int .i64 (nx + 1)) := by
  have hM1 := fun o => hm.of_block (Below.heap_alloc w o m hm.lt)
  go_enter Try.func10, Try.ntmps10
  go_wp2_with (first | (at_lookup; refine wpList_look (strKey Try.underlying9) rfl rfl Try.underlying54 zero58 rfl s rfl hm _ hv.out ?_) | (at_len; refine wpList_len rfl rfl Try.underlying54 rfl (hM1 _) ?_) | (at_mapUpdate; refine wpList_put (strKey Try.underlying9) rfl rfl Try.underlying54 rfl s rfl (hM1 _) _ rfl ?_; intro ob hM2))
  go_ret2
  exact ⟨rfl, _, _, by assumption, rfl⟩

theorem create_at (b m : Nat) (t : Tbl) (s : ByteArray) (p : Int) (w : World) (h : TblAt w b m t) (hn : 0 ≤ t.next) :
    Calls Try.prog 10 #[.pointer (some ⟨b, 0, none⟩), .string s, .int .i64 p] w fun e w' =>
      Turns w b m e (.tuple #[.int .i64 (t.create s p).1, .int .i64 (t.create s p).2.1]) (t.create s p).2.2 w' := by
  have hsame : ∀ {w' : World}, Keeps (fun _ => False) w w' → TblAt w' b m t ∧ Keeps (TblS b m) w w' := fun hk => ⟨h.keep hk (by simp) (by simp), hk.mono (by simp)⟩
  unfold Tbl.create
  split
  · rename_i h1
    refine (create_arg b s p w h1).mono ?_
    rintro e w' ⟨rfl, rfl⟩
    exact ⟨rfl, hsame (Keeps.refl _ _)⟩
  · rename_i h1
    have h0 : s.toList.isEmpty = false := by
      cases hq : s.toList.isEmpty
      · rfl
      · exact absurd (.inl ((empty_iff s).1 (List.isEmpty_iff.1 hq))) h1
    have h2 : s.size ≤ 100 := by omega
    have h3 : 1 ≤ p := by omega
    have h4 : p ≤ 16 := by omega
    have hv := aget_vals t.all s
    cases hg : aget t.all s with
    | some q =>
      rw [hg] at hv
      refine (create_there b m s p w _ h0 h2 h3 h4 h.cell1 h.map q.1 q.2 hv).mono ?_
      rintro e w' ⟨rfl, hk⟩
      exact ⟨rfl, hsame hk⟩
    | none =>
      rw [hg] at hv
      have hl : (Tbl.vals t.all).length = t.all.length := by simp [Tbl.vals]
      dsimp only
      split
      · rename_i h5
        refine (create_full b m s p t.next w _ h0 h2 h3 h4 h.cell0 h.cell1 h.map hv h.lt (by rw [hl]; exact h5)).mono ?_
        rintro e w' ⟨rfl, hk⟩
        exact ⟨rfl, hsame hk⟩
      · rename_i h5
        refine (create_new b m s p t.next w _ h0 h2 h3 h4 h.ne h.lt h.cell0 h.cell1 (h.free 0) h.map hv (by rw [hl]; omega) hn (by omega)).mono ?_
        rintro e w' ⟨rfl, o, ob, hM, rfl⟩
        refine ⟨rfl, ⟨h.ne, ?_, ?_⟩, ?_⟩
        · have e1 : (setObjAt (w.alloc o) m ob).heap[b]? = some (.cells #[.int .i64 t.next, .map (some m)] 56 (0, 0)) :=
            (setObjAt_other _ ob h.ne).trans ((Below.heap_alloc w o b h.lt).trans h.rcd)
          exact setCell_block e1 0 _
        · rw [← aput_vals]
          exact hM.of_block (Below.heap_setCell _ _ _ _ (fun e => h.ne e.symm))
        · exact (((Keeps.refl _ _).alloc _).setObj (fun _ => .inr rfl) _).setCell (fun _ => .inl rfl) _

set_option maxHeartbeats 400000 in
theorem delete_any (b m : Nat) (t : Tbl) (s : ByteArray) (w : World) (h : TblAt w b m t) :
    Calls Try.prog 9 #[.pointer (some ⟨b, 0, none⟩), .string s] w fun e w' =>
      Turns w b m e (.tuple #[.int .i64 (t.find s).1, .int .i64 (t.find s).2.2]) ⟨t.next, adel t.all s⟩ w' := by
  have hf := find_at b m t s w h
  unfold Tbl.find at hf ⊢
  cases hg : aget t.all s with
  | none =>
    rw [hg] at hf
    have HF := Lib.hid hf
    have HG := Lib.hid hg
    clear hf hg
    go_enter Try.func9, Try.ntmps9
    go_wp2_with (go_at_call 11; refine HF.out.mono ?_; rintro e w' ⟨rfl, hk⟩)
    go_ret2
    rw [adel_none HG.out]
    exact ⟨rfl, h.keep hk (by simp) (by simp), hk.mono (by simp)⟩
  | some q =>
    obtain ⟨x, y⟩ := q
    rw [hg] at hf
    have HF := Lib.hid hf
    have HG := Lib.hid hg
    have HH := Lib.hid h
    clear hf hg h
    go_enter Try.func9, Try.ntmps9
    go_wp2_with (first | (go_at_call 11; refine HF.out.mono ?_; rintro e w' ⟨rfl, hk⟩; have h' := HH.out.keep hk (by simp) (by simp); have c1 := h'.cell1) | (at_delete; refine wpList_del (strKey Try.underlying9) rfl rfl Try.underlying54 rfl s rfl h'.map ?_; intro ob hM))
    go_ret2
    refine ⟨rfl, ⟨h'.ne, (setObjAt_other _ _ h'.ne).trans h'.rcd, ?_⟩, (hk.mono (by simp)).setObj (fun _ => .inr rfl) _⟩
    rw [← adel_vals]
    assumption
end Go.Proofs.Ytegbiekfpcfnnaa
