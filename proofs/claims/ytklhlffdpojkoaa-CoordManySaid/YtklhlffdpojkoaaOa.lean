/-
  The package offsets: names, keys, a table's Commit and Get.
-/
import Derived.Test.YtklhlffdpojkoaaMk
import Derived.Test.YtklhlffdpojkoaaGa
namespace Go.Proofs.Ytklhlffdpojkoaa
open Go.RowKit Fx

/-- Is it a name? -/
def nameB (s : ByteArray) : Bool := decide (0 < s.size ∧ s.size ≤ 100)
set_option maxHeartbeats 1000000 in
theorem isName_any (s : ByteArray) (w : World) : Calls Try.prog 57 #[.string s] w fun e w' => Same w e (.bool (nameB s)) w' := by
  by_cases h0 : s.size = 0
  · rw [show nameB s = false by unfold nameB; simp [h0]]
    have h1 := bytes_empty h0
    clear h0
    go_enter Try.func57, Try.ntmps57
    go_wp2
    go_ret
    exact ⟨rfl, Keeps.refl _ _⟩
  · have h1 := bytes_some h0
    by_cases h2 : s.size ≤ 100
    · rw [show nameB s = true by unfold nameB; simp; omega]
      have hd : decide ((s.size : Int) ≤ 100) = true := by simp; omega
      clear h0
      go_enter Try.func57, Try.ntmps57
      go_wp2
      go_ret
      exact ⟨rfl, Keeps.refl _ _⟩
    · rw [show nameB s = false by unfold nameB; simp; omega]
      have hd : decide ((s.size : Int) ≤ 100) = false := by simp; omega
      clear h0 h2
      go_enter Try.func57, Try.ntmps57
      go_wp2
      go_ret
      exact ⟨rfl, Keeps.refl _ _⟩
def inB (n least : Int) : Bool := decide (least ≤ n ∧ n ≤ 1099511627776)
set_option maxHeartbeats 1000000 in
theorem within_any (n least : Int) (w : World) : Calls Try.prog 40 #[.int .i64 n, .int .i64 least] w fun e w' => Same w e (.bool (inB n least)) w' := by
  by_cases h1 : least ≤ n
  · by_cases h2 : n ≤ 1099511627776
    · rw [show inB n least = true by unfold inB; simp; omega]
      go_enter Try.func40, Try.ntmps40
      go_wp2
      go_ret
      exact ⟨rfl, Keeps.refl _ _⟩
    · rw [show inB n least = false by unfold inB; simp; omega]
      go_enter Try.func40, Try.ntmps40
      go_wp2
      go_ret
      exact ⟨rfl, Keeps.refl _ _⟩
  · rw [show inB n least = false by unfold inB; simp; omega]
    go_enter Try.func40, Try.ntmps40
    go_wp2
    go_ret
    exact ⟨rfl, Keeps.refl _ _⟩
def mayB (k : OffK) : Bool := nameB k.group && nameB k.topic && decide (0 ≤ k.index ∧ k.index < 16)
set_option maxRecDepth 100000 in
set_option maxHeartbeats 1000000 in
theorem may_any (g t : ByteArray) (i : Int) (w : World) : Calls Try.prog 39 #[.agg #[.string g, .string t, .int .i64 i]] w fun e w' => Same w e (.bool (mayB ⟨g, t, i⟩)) w' := by
  have HB : Hid ((w.alloc (.cells #[.string g, .string t, .int .i64 i] 68)).heap[w.heap.size]? = some (.cells #[.string g, .string t, .int .i64 i] 68)) := heap_new _ _ _ rfl
  have HK0 := Lib.hid ((Keeps.refl (fun _ => False) w).alloc (.cells #[.string g, .string t, .int .i64 i] 68))
  have N1 := fun w => Lib.hid (isName_any g w)
  have N2 := fun w => Lib.hid (isName_any t w)
  unfold mayB
  dsimp only
  cases hb1 : nameB g
  · rw [Bool.false_and, Bool.false_and]
    simp only [hb1] at N1
    clear hb1 N2
    go_enter Try.func39, Try.ntmps39
    go_wp2_with fail
    refine (N1 _).out.mono ?_
    rintro e w1 ⟨rfl, k1⟩
    have HK1 := Lib.hid (K0.tr HK0.out k1)
    clear k1
    go_wp2
    go_ret
    exact ⟨rfl, HK1.out⟩
  · rw [Bool.true_and]
    simp only [hb1] at N1
    clear hb1
    cases hb2 : nameB t
    · rw [Bool.false_and]
      simp only [hb2] at N2
      clear hb2
      go_enter Try.func39, Try.ntmps39
      go_wp2_with fail
      refine (N1 _).out.mono ?_
      rintro e w1 ⟨rfl, k1⟩
      have HK1 := Lib.hid (K0.tr HK0.out k1)
      have c1 : w1.cell? ⟨w.heap.size, 1, none⟩ = some (.string t) := k1.cell' (block_cell HB.out 1) (fun e => e)
      clear k1
      go_wp2_with fail
      refine (N2 _).out.mono ?_
      rintro e w2 ⟨rfl, k2⟩
      have HK2 := Lib.hid (K0.tr HK1.out k2)
      clear k2
      go_wp2
      go_ret
      exact ⟨rfl, HK2.out⟩
    · rw [Bool.true_and]
      simp only [hb2] at N2
      clear hb2
      by_cases h1 : 0 ≤ i
      · by_cases h2 : i < 16
        · rw [show decide (0 ≤ i ∧ i < 16) = true by simp; omega]
          go_enter Try.func39, Try.ntmps39
          go_wp2_with fail
          refine (N1 _).out.mono ?_
          rintro e w1 ⟨rfl, k1⟩
          have HK1 := Lib.hid (K0.tr HK0.out k1)
          have c1 : w1.cell? ⟨w.heap.size, 1, none⟩ = some (.string t) := k1.cell' (block_cell HB.out 1) (fun e => e)
          have c2 : w1.cell? ⟨w.heap.size, 2, none⟩ = some (.int .i64 i) := k1.cell' (block_cell HB.out 2) (fun e => e)
          clear k1
          go_wp2_with fail
          refine (N2 _).out.mono ?_
          rintro e w2 ⟨rfl, k2⟩
          have HK2 := Lib.hid (K0.tr HK1.out k2)
          have c2 := k2.cell' c2 (fun e => e)
          clear k2
          go_wp2
          go_ret
          exact ⟨rfl, HK2.out⟩
        · rw [show decide (0 ≤ i ∧ i < 16) = false by simp; omega]
          have hd : decide (i < 16) = false := by simp; omega
          go_enter Try.func39, Try.ntmps39
          go_wp2_with fail
          refine (N1 _).out.mono ?_
          rintro e w1 ⟨rfl, k1⟩
          have HK1 := Lib.hid (K0.tr HK0.out k1)
          have c1 : w1.cell? ⟨w.heap.size, 1, none⟩ = some (.string t) := k1.cell' (block_cell HB.out 1) (fun e => e)
          have c2 : w1.cell? ⟨w.heap.size, 2, none⟩ = some (.int .i64 i) := k1.cell' (block_cell HB.out 2) (fun e => e)
          clear k1
          go_wp2_with fail
          refine (N2 _).out.mono ?_
          rintro e w2 ⟨rfl, k2⟩
          have HK2 := Lib.hid (K0.tr HK1.out k2)
          have c2 := k2.cell' c2 (fun e => e)
          clear k2
          go_wp2
          go_ret
          exact ⟨rfl, HK2.out⟩
      · rw [show decide (0 ≤ i ∧ i < 16) = false by simp; omega]
        go_enter Try.func39, Try.ntmps39
        go_wp2_with fail
        refine (N1 _).out.mono ?_
        rintro e w1 ⟨rfl, k1⟩
        have HK1 := Lib.hid (K0.tr HK0.out k1)
        have c1 : w1.cell? ⟨w.heap.size, 1, none⟩ = some (.string t) := k1.cell' (block_cell HB.out 1) (fun e => e)
        have c2 : w1.cell? ⟨w.heap.size, 2, none⟩ = some (.int .i64 i) := k1.cell' (block_cell HB.out 2) (fun e => e)
        clear k1
        go_wp2_with fail
        refine (N2 _).out.mono ?_
        rintro e w2 ⟨rfl, k2⟩
        have HK2 := Lib.hid (K0.tr HK1.out k2)
        have c2 := k2.cell' c2 (fun e => e)
        clear k2
        go_wp2
        go_ret
        exact ⟨rfl, HK2.out⟩
/-- A table: its room, what it has. -/
structure OffC where
  room : Int
  all : List (OffK × Int)
structure OffAt (w : World) (tb ob : Nat) (C : OffC) : Prop where
  ne : tb ≠ ob
  blk : w.heap[tb]? = some (.cells #[.int .i64 C.room, .map (some ob)] 74 (0, 0))
  map : MapAt OffK.enc w ob (avals (.int .i64) C.all)
theorem OffAt.keep {w w' : World} {tb ob : Nat} {C : OffC} {S : Nat → Prop} (h : OffAt w tb ob C) (hk : Keeps S w w') (h1 : ¬ S tb) (h2 : ¬ S ob) : OffAt w' tb ob C :=
  ⟨h.ne, (hk.block tb (block_lt h.blk) h1).trans h.blk, h.map.keep hk h2⟩
theorem zeroInt (w : World) : (zeroValue 3).run Try.prog w = .ok (.int .i64 0) w := by kernel_rfl
def getV (C : OffC) (k : OffK) : Int × Bool := ((aget C.all k).getD 0, (aget C.all k).isSome)
set_option maxRecDepth 100000 in
set_option maxHeartbeats 1000000 in
theorem get_any (w : World) (tb ob : Nat) (C : OffC) (g t : ByteArray) (i : Int) (h : OffAt w tb ob C) :
    Calls Try.prog 23 #[.pointer (some ⟨tb, 0, none⟩), .agg #[.string g, .string t, .int .i64 i]] w fun e w' => Same w e (.tuple #[.int .i64 (getV C ⟨g, t, i⟩).1, .bool (getV C ⟨g, t, i⟩).2]) w' := by
  have c1 : w.cell? ⟨tb, 1, none⟩ = some (.map (some ob)) := block_cell h.blk 1
  have hm := h.map.keep ((Keeps.refl (fun _ => False) w).alloc (.cells #[.string g, .string t, .int .i64 i] 68)) (fun e => e)
  have hlt := block_lt h.blk
  have hl : ∀ w', w'.heap = (w.alloc (.cells #[.string g, .string t, .int .i64 i] 68)).heap → (Instr.lookup 72 (.map (some ob)) (.agg #[.string g, .string t, .int .i64 i]) true).run Try.prog w' = .ok (.tuple #[.int .i64 (getV C ⟨g, t, i⟩).1, .bool (getV C ⟨g, t, i⟩).2]) w' := fun w' e => by
    refine (hm.look_all offKey Try.underlying72 zeroInt ⟨g, t, i⟩ true (aget_avals (.int .i64) C.all ⟨g, t, i⟩) w' e).trans ?_
    unfold getV
    cases aget C.all ⟨g, t, i⟩ <;> rfl
  have hl : ∀ n, (Instr.lookup 72 (.map (some ob)) (.agg #[.string g, .string t, .int .i64 i]) true).run Try.prog ((w.alloc (.cells #[.string g, .string t, .int .i64 i] 68)).drewN n) = .ok (.tuple #[.int .i64 (getV C ⟨g, t, i⟩).1, .bool (getV C ⟨g, t, i⟩).2]) ((w.alloc (.cells #[.string g, .string t, .int .i64 i] 68)).drewN n) := fun n => hl _ rfl
  generalize getV C ⟨g, t, i⟩ = v at hl ⊢
  obtain ⟨v1, v2⟩ := v
  dsimp only at hl ⊢
  clear hm h
  go_enter Try.func23, Try.ntmps23
  go_wp2
  go_quiet (fail)
  go_wp2
  go_ret2
  exact ⟨rfl, ((Keeps.refl _ _).alloc _).drewN _⟩
def commitE (C : OffC) (k : OffK) (at_ : Int) : Int := if mayB k = true ∧ inB at_ 0 = true then (if (aget C.all k).isSome = false ∧ C.room ≤ C.all.length then 5 else 0) else 1
def commitC (C : OffC) (k : OffK) (at_ : Int) : OffC := if commitE C k at_ = 0 then ⟨C.room, aput C.all k at_⟩ else C
def CommitPost (w : World) (tb ob : Nat) (C : OffC) (k : OffK) (at_ : Int) (e : Ending) (w' : World) : Prop :=
  e = .returned (.int .i64 (commitE C k at_)) ∧ OffAt w' tb ob (commitC C k at_) ∧ Keeps (fun b => b = ob) w w'
theorem _root_.Go.Proofs.Ytklhlffdpojkoaa.Fx.Keeps.same {S : Nat → Prop} {w w1 w2 : World} (h : Keeps S w w1) (e1 : w2.os = w1.os) (e2 : w2.tape = w1.tape) (e3 : w2.output = w1.output) (e4 : w2.heap = w1.heap) : Keeps S w w2 :=
  ⟨e1.trans h.os, e2.trans h.tape, e3.trans h.output, by rw [e4]; exact h.size, fun k hk hS => by rw [e4]; exact h.block k hk hS⟩
set_option maxRecDepth 100000 in
set_option maxHeartbeats 1000000 in
theorem commit_any (w : World) (tb ob : Nat) (C : OffC) (g t : ByteArray) (i at_ : Int) (h : OffAt w tb ob C) :
    Calls Try.prog 22 #[.pointer (some ⟨tb, 0, none⟩), .agg #[.string g, .string t, .int .i64 i], .int .i64 at_] w (CommitPost w tb ob C ⟨g, t, i⟩ at_) := by
  have HB : Hid ((w.alloc (.cells #[.string g, .string t, .int .i64 i] 68)).heap[w.heap.size]? = some (.cells #[.string g, .string t, .int .i64 i] 68)) := heap_new _ _ _ rfl
  have HK0 := Lib.hid ((Keeps.refl (fun _ => False) w).alloc (.cells #[.string g, .string t, .int .i64 i] 68))
  have HO := Lib.hid h
  have M1 := fun w => Lib.hid (may_any g t i w)
  have M2 := fun w => Lib.hid (within_any at_ 0 w)
  have hlt := block_lt h.blk
  clear h
  unfold CommitPost commitC
  cases hm : mayB ⟨g, t, i⟩
  · simp only [hm] at M1
    have he : commitE C ⟨g, t, i⟩ at_ = 1 := by unfold commitE; rw [if_neg (by rw [hm]; simp)]
    rw [he, if_neg (by decide)]
    clear he hm M2
    go_enter Try.func22, Try.ntmps22
    go_wp2_with fail
    refine (M1 _).out.mono ?_
    rintro e w1 ⟨rfl, k1⟩
    have HK4 := Lib.hid (K0.tr HK0.out k1)
    clear k1
    go_wp2
    go_ret
    exact ⟨rfl, HO.out.keep HK4.out (fun e => e) (fun e => e), HK4.out.mono (by simp)⟩
  simp only [hm] at M1
  cases hi : inB at_ 0
  · simp only [hi] at M2
    have he : commitE C ⟨g, t, i⟩ at_ = 1 := by unfold commitE; rw [if_neg (by rw [hi]; simp)]
    rw [he, if_neg (by decide)]
    clear he hm hi
    go_enter Try.func22, Try.ntmps22
    go_wp2_with fail
    refine (M1 _).out.mono ?_
    rintro e w1 ⟨rfl, k1⟩
    go_wp2_with fail
    refine (M2 _).out.mono ?_
    rintro e w2 ⟨rfl, k2⟩
    have HK4 := Lib.hid (K0.tr HK0.out (K0.tr k1 k2))
    clear k1 k2
    go_wp2
    go_ret
    exact ⟨rfl, HO.out.keep HK4.out (fun e => e) (fun e => e), HK4.out.mono (by simp)⟩
  simp only [hi] at M2
  have HV := Lib.hid (aget_avals (.int .i64) C.all ⟨g, t, i⟩)
  by_cases hfull : (aget C.all ⟨g, t, i⟩).isSome = false ∧ C.room ≤ C.all.length
  · have he : commitE C ⟨g, t, i⟩ at_ = 5 := by unfold commitE; rw [if_pos ⟨hm, hi⟩, if_pos hfull]
    rw [he, if_neg (by decide)]
    have HVS := Lib.hid hfull.1
    have hrm := hfull.2
    clear he hm hi hfull
    go_enter Try.func22, Try.ntmps22
    go_wp2_with fail
    refine (M1 _).out.mono ?_
    rintro e w1 ⟨rfl, k1⟩
    go_wp2_with fail
    refine (M2 _).out.mono ?_
    rintro e w2 ⟨rfl, k2⟩
    have k3 := K0.tr k1 k2
    have k4 := K0.tr HK0.out k3
    have c0 : w2.cell? ⟨w.heap.size, 0, none⟩ = some (.string g) := k3.cell' (block_cell HB.out 0) (fun e => e)
    have c1 : w2.cell? ⟨w.heap.size, 1, none⟩ = some (.string t) := k3.cell' (block_cell HB.out 1) (fun e => e)
    have c2 : w2.cell? ⟨w.heap.size, 2, none⟩ = some (.int .i64 i) := k3.cell' (block_cell HB.out 2) (fun e => e)
    have h2 := HO.out.keep k4 (fun e => e) (fun e => e)
    have t0 : w2.cell? ⟨tb, 0, none⟩ = some (.int .i64 C.room) := block_cell h2.blk 0
    have t1 : w2.cell? ⟨tb, 1, none⟩ = some (.map (some ob)) := block_cell h2.blk 1
    have hlt2 := block_lt h2.blk
    have hl : ∀ n, (Instr.lookup 72 (.map (some ob)) (.agg #[.string g, .string t, .int .i64 i]) true).run Try.prog (w2.drewN n) = .ok (.tuple #[.int .i64 0, .bool false]) (w2.drewN n) := fun n => by
      refine (h2.map.look_all offKey Try.underlying72 zeroInt ⟨g, t, i⟩ true HV.out (w2.drewN n) rfl).trans ?_
      rw [Option.isSome_eq_false_iff.1 HVS.out |> Option.isNone_iff_eq_none.1]
      rfl
    have hln : ∀ n, (Builtin.len_ #[72] 3 #[.map (some ob)]).run Try.prog (w2.drewN n) = .ok (.int .i64 C.all.length) (w2.drewN n) := fun n => by
      rw [h2.map.len_all Try.underlying72 3 (w2.drewN n) rfl, avals_len]
    have HH2 := Lib.hid h2
    have HK4 := Lib.hid k4
    clear h2 k1 k2 k3 k4
    go_wp2
    go_quiet (fail)
    go_wp2
    go_quiet (fail)
    go_wp2
    go_ret
    exact ⟨rfl, HH2.out.keep (S := fun _ => False) (((Keeps.refl _ _).drewN _).drewN _) (fun e => e) (fun e => e), ((HK4.out.mono (fun _ _ e => absurd e id)).drewN _).drewN _⟩
  have he : commitE C ⟨g, t, i⟩ at_ = 0 := by unfold commitE; rw [if_pos ⟨hm, hi⟩, if_neg hfull]
  rw [he, if_pos rfl]
  cases hv : (aget C.all ⟨g, t, i⟩).isSome with
  | true =>
    have HVS := Lib.hid hv
    clear he hm hi hv hfull
    go_enter Try.func22, Try.ntmps22
    go_wp2_with fail
    refine (M1 _).out.mono ?_
    rintro e w1 ⟨rfl, k1⟩
    go_wp2_with fail
    refine (M2 _).out.mono ?_
    rintro e w2 ⟨rfl, k2⟩
    have k3 := K0.tr k1 k2
    have k4 := K0.tr HK0.out k3
    have c0 : w2.cell? ⟨w.heap.size, 0, none⟩ = some (.string g) := k3.cell' (block_cell HB.out 0) (fun e => e)
    have c1 : w2.cell? ⟨w.heap.size, 1, none⟩ = some (.string t) := k3.cell' (block_cell HB.out 1) (fun e => e)
    have c2 : w2.cell? ⟨w.heap.size, 2, none⟩ = some (.int .i64 i) := k3.cell' (block_cell HB.out 2) (fun e => e)
    have h2 := HO.out.keep k4 (fun e => e) (fun e => e)
    have t0 : w2.cell? ⟨tb, 0, none⟩ = some (.int .i64 C.room) := block_cell h2.blk 0
    have t1 : w2.cell? ⟨tb, 1, none⟩ = some (.map (some ob)) := block_cell h2.blk 1
    have hlt2 := block_lt h2.blk
    obtain ⟨x, hx⟩ := Option.isSome_iff_exists.1 HVS.out
    have hl : ∀ n, (Instr.lookup 72 (.map (some ob)) (.agg #[.string g, .string t, .int .i64 i]) true).run Try.prog (w2.drewN n) = .ok (.tuple #[.int .i64 x, .bool true]) (w2.drewN n) := fun n => by
      refine (h2.map.look_all offKey Try.underlying72 zeroInt ⟨g, t, i⟩ true HV.out (w2.drewN n) rfl).trans ?_
      rw [hx]
      rfl
    obtain ⟨o, hu, hu2⟩ := h2.map.put_all offKey Try.underlying72 ⟨g, t, i⟩ (.int .i64 at_)
    have hu1 : ∀ n, (Instr.mapUpdate 72 (.map (some ob)) (.agg #[.string g, .string t, .int .i64 i]) (.int .i64 at_)).run Try.prog (w2.drewN n) = .ok () (setObjAt (w2.drewN n) ob o) := fun n => hu _ rfl
    have HU2 := Lib.hid hu2
    have HH2 := Lib.hid h2
    have HK4 := Lib.hid k4
    clear hu hu2 hx h2 k1 k2 k3 k4
    go_wp2
    go_quiet (fail)
    go_wp2
    go_quiet (fail)
    go_wp2
    go_region
    all_goals (go_wp2; go_ret)
    all_goals exact ⟨rfl, ⟨HH2.out.ne, (setObjAt_other _ _ HH2.out.ne).trans HH2.out.blk, by rw [← aput_avals]; exact HU2.out _ rfl⟩, Keeps.setObj (S := fun b => b = ob) ((HK4.out.mono (fun _ _ e => absurd e id)).drewN _) (fun _ => rfl) _⟩
  | false =>
    have hrm : (C.all.length : Int) < C.room := by
      have : ¬ C.room ≤ C.all.length := fun e => hfull ⟨hv, e⟩
      omega
    have HVS := Lib.hid hv
    clear he hm hi hv hfull
    go_enter Try.func22, Try.ntmps22
    go_wp2_with fail
    refine (M1 _).out.mono ?_
    rintro e w1 ⟨rfl, k1⟩
    go_wp2_with fail
    refine (M2 _).out.mono ?_
    rintro e w2 ⟨rfl, k2⟩
    have k3 := K0.tr k1 k2
    have k4 := K0.tr HK0.out k3
    have c0 : w2.cell? ⟨w.heap.size, 0, none⟩ = some (.string g) := k3.cell' (block_cell HB.out 0) (fun e => e)
    have c1 : w2.cell? ⟨w.heap.size, 1, none⟩ = some (.string t) := k3.cell' (block_cell HB.out 1) (fun e => e)
    have c2 : w2.cell? ⟨w.heap.size, 2, none⟩ = some (.int .i64 i) := k3.cell' (block_cell HB.out 2) (fun e => e)
    have h2 := HO.out.keep k4 (fun e => e) (fun e => e)
    have t0 : w2.cell? ⟨tb, 0, none⟩ = some (.int .i64 C.room) := block_cell h2.blk 0
    have t1 : w2.cell? ⟨tb, 1, none⟩ = some (.map (some ob)) := block_cell h2.blk 1
    have hlt2 := block_lt h2.blk
    have hl : ∀ n, (Instr.lookup 72 (.map (some ob)) (.agg #[.string g, .string t, .int .i64 i]) true).run Try.prog (w2.drewN n) = .ok (.tuple #[.int .i64 0, .bool false]) (w2.drewN n) := fun n => by
      refine (h2.map.look_all offKey Try.underlying72 zeroInt ⟨g, t, i⟩ true HV.out (w2.drewN n) rfl).trans ?_
      rw [Option.isSome_eq_false_iff.1 HVS.out |> Option.isNone_iff_eq_none.1]
      rfl
    have hln : ∀ n, (Builtin.len_ #[72] 3 #[.map (some ob)]).run Try.prog (w2.drewN n) = .ok (.int .i64 C.all.length) (w2.drewN n) := fun n => by
      rw [h2.map.len_all Try.underlying72 3 (w2.drewN n) rfl, avals_len]
    obtain ⟨o, hu, hu2⟩ := h2.map.put_all offKey Try.underlying72 ⟨g, t, i⟩ (.int .i64 at_)
    have hu1 : ∀ n, (Instr.mapUpdate 72 (.map (some ob)) (.agg #[.string g, .string t, .int .i64 i]) (.int .i64 at_)).run Try.prog (w2.drewN n) = .ok () (setObjAt (w2.drewN n) ob o) := fun n => hu _ rfl
    have HU2 := Lib.hid hu2
    have HH2 := Lib.hid h2
    have HK4 := Lib.hid k4
    clear hu hu2 h2 k1 k2 k3 k4
    go_wp2
    go_quiet (fail)
    go_wp2
    go_quiet (fail)
    go_wp2
    go_region
    all_goals (go_wp2; go_ret)
    all_goals exact ⟨rfl, ⟨HH2.out.ne, (setObjAt_other _ _ HH2.out.ne).trans HH2.out.blk, by rw [← aput_avals]; exact HU2.out _ rfl⟩, Keeps.setObj (S := fun b => b = ob) ((HK4.out.mono (fun _ _ e => absurd e id)).drewN _) (fun _ => rfl) _⟩
/-- A new table. -/
theorem offNew_any (r : Int) (w : World) (h1 : 1 ≤ r) (h2 : r ≤ 10000) :
    Calls Try.prog 15 #[.int .i64 r] w fun e w' => e = .returned (.tuple #[.pointer (some ⟨w.heap.size + 1, 0, none⟩), .int .i64 0]) ∧ OffAt w' (w.heap.size + 1) w.heap.size ⟨r, []⟩ ∧ K0 w w' ∧ w'.heap.size = w.heap.size + 2 := by
  have hmm := @run_makeMap Try.prog
  go_enter Try.func15, Try.ntmps15
  go_wp2
  go_ret2
  refine ⟨rfl, ⟨by omega, heap_new _ _ _ (by simp), (mapAt_new w).of_block (Below.heap_alloc _ _ _ (by simp))⟩, ((Keeps.refl _ _).alloc _).alloc _, by simp⟩
end Go.Proofs.Ytklhlffdpojkoaa
