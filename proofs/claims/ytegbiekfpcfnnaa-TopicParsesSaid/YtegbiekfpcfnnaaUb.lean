/-
  The document's table of topics: an object in memory; Find, Create, Delete.
-/
import Derived.Test.YtegbiekfpcfnnaaUa
import Derived.Test.YtegbiekfpcfnnaaTk
import Derived.Outline
namespace Go.Proofs.Ytegbiekfpcfnnaa
open Go.RowKit Fx

abbrev OneP := ByteArray × (Int × Int)
def encO (p : OneP) : List Value := [.string p.1, .int .i64 p.2.1, .int .i64 p.2.2]
theorem encO_len (p : OneP) : (encO p).length = 3 := rfl
theorem encO_one (p : OneP) : ∀ u ∈ encO p, u.oneCell' = true := fun u hu => by
  simp only [encO, List.mem_cons, List.not_mem_nil, or_false] at hu
  rcases hu with rfl | rfl | rfl <;> rfl
theorem infoOne : (Try.prog.info? 46).map (fun i => (i.zero, i.size, i.bytes)) = some (some (.agg #[.string ⟨#[]⟩, .int .i64 0, .int .i64 0]), 3, 32) := by kernel_rfl
def rtCells (R : Tbl) (v : Value) : Array Value := #[.int .i64 R.next, v]
/-- The table at block b: its rows' row is v, the blocks of all of it are in F. -/
structure RTat (w : World) (F : Nat → Prop) (b : Nat) (R : Tbl) (v : Value) : Prop where
  blk : w.heap[b]? = some (.cells (rtCells R v) 43 (0, 0))
  row : w.ownsRow 0 46 3 v R.all.length (R.all.flatMap encO)
  fb : F b
  lt : ∀ k, F k → k < w.heap.size
  own : ∀ k, v.ownBlock = some k → F k ∧ k ≠ b
def RTst (w : World) (F : Nat → Prop) (b : Nat) (R : Tbl) : Prop := ∃ v, RTat w F b R v
def RTpost (w : World) (F : Nat → Prop) (b : Nat) (R' : Tbl) (w' : World) : Prop := ∃ F', RTst w' F' b R' ∧ (∀ k, F' k → F k ∨ w.heap.size ≤ k) ∧ Keeps F w w'
section
variable {w w' : World} {F S : Nat → Prop} {b : Nat} {R R' : Tbl} {v v' : Value}
theorem RTat.keep (h : RTat w F b R v) (hk : Keeps S w w') (hS : ∀ k, F k → ¬ S k) : RTat w' F b R v :=
  ⟨(hk.block b (block_lt h.blk) (hS b h.fb)).trans h.blk, row_keep hk h.row (fun k e => hS k (h.own k e).1), h.fb, fun k e => Nat.lt_of_lt_of_le (h.lt k e) hk.size, h.own⟩
theorem RTst.keep (h : RTst w F b R) (hk : Keeps S w w') (hS : ∀ k, F k → ¬ S k) : RTst w' F b R := by
  obtain ⟨v, h⟩ := h
  exact ⟨v, h.keep hk hS⟩
theorem RTst.lt (h : RTst w F b R) : ∀ k, F k → k < w.heap.size := by
  obtain ⟨v, h⟩ := h
  exact h.lt
theorem RTpost.same (h : RTst w F b R) (hk : K0 w w') : RTpost w F b R w' := ⟨F, h.keep hk (fun _ _ e => e), fun k e => .inl e, hk.mono fun _ _ e => e.elim⟩
theorem RTat.step (h : RTat w F b R v) (hk : Keeps S w w') (hS : ∀ k, S k → k = b ∨ v.ownBlock = some k) (hblk : w'.heap[b]? = some (.cells (rtCells R' v') 43 (0, 0))) (hrow : w'.ownsRow 0 46 3 v' R'.all.length (R'.all.flatMap encO))
    (hv : ∀ k, v'.ownBlock = some k → v.ownBlock = some k ∨ w.heap.size ≤ k) : RTpost w F b R' w' := by
  have hb := block_lt h.blk
  refine ⟨fun k => F k ∨ (w.heap.size ≤ k ∧ k < w'.heap.size), ⟨v', hblk, hrow, .inl h.fb, fun k e => e.elim (fun e => Nat.lt_of_lt_of_le (h.lt k e) hk.size) (fun e => e.2), fun k e => ?_⟩, fun k e => e.imp id (fun e => e.1), hk.mono fun k _ e => (hS k e).elim (fun e => e ▸ h.fb) (fun e => (h.own k e).1)⟩
  rcases hv k e with e1 | e1
  · exact ⟨.inl (h.own k e1).1, (h.own k e1).2⟩
  · exact ⟨.inr ⟨e1, (hrow.lt k e).2⟩, by omega⟩
theorem RTat.cell (h : RTat w F b R v) {r cap : Nat} (hv : v = .slice (some ⟨r, 0, none⟩) R.all.length cap) (i : Nat) (hi : i < R.all.length) :
    w.cell? ⟨r, i * 3, none⟩ = some (.string R.all[i].1) ∧ w.cell? ⟨r, i * 3 + 1, none⟩ = some (.int .i64 R.all[i].2.1) ∧ w.cell? ⟨r, i * 3 + 2, none⟩ = some (.int .i64 R.all[i].2.2) := by
  subst hv
  have hc : ∀ j, j < 3 → w.cell? ⟨r, i * 3 + j, none⟩ = (encO R.all[i])[j]? := fun j hj => by
    rw [h.row.cellAt (i * 3 + j) (by omega)]
    exact flatMap_get encO 3 encO_len R.all i j hi hj
  exact ⟨hc 0 (by omega), hc 1 (by omega), hc 2 (by omega)⟩
theorem RTat.form (h : RTat w F b R v) : (R.all = [] ∧ v = .slice none 0 0) ∨ ∃ r cap, v = .slice (some ⟨r, 0, none⟩) R.all.length cap ∧ r ≠ b ∧ r < w.heap.size ∧ R.all.length ≤ cap ∧ F r ∧ cap ≤ 9223372036854775807 := by
  rcases h.row.2 with ⟨h1, h2⟩ | ⟨r, cap, cur, h1, _, hg, hc, hm, _⟩
  · exact .inl ⟨List.eq_nil_of_length_eq_zero h2, h1⟩
  · have h3 := h.own r (by rw [h1]; rfl)
    exact .inr ⟨r, cap, h1, h3.2, block_lt hg, hc, h3.1, by unfold maxLen at hm; omega⟩
/-- A new row is stored, and the next id. -/
theorem RTat.newrow {wr : World} {l : List OneP} {nv : Value} {nx : Int} (h : RTat w F b R v) (hk0 : K0 w wr) (hrow : wr.ownsRow w.heap.size 46 3 nv l.length (l.flatMap encO)) :
    RTpost w F b ⟨nx, l⟩ ((wr.setCell ⟨b, 1, none⟩ nv).setCell ⟨b, 0, none⟩ (.int .i64 nx)) := by
  have hb := block_lt h.blk
  have hk : Keeps (fun k => k = b) w ((wr.setCell ⟨b, 1, none⟩ nv).setCell ⟨b, 0, none⟩ (.int .i64 nx)) := ((hk0.mono (S1 := fun k => k = b) (fun _ _ e => e.elim)).setC 1 _ (fun _ => rfl)).setC 0 _ (fun _ => rfl)
  have hk1 : Keeps (fun k => k = b) wr ((wr.setCell ⟨b, 1, none⟩ nv).setCell ⟨b, 0, none⟩ (.int .i64 nx)) := ((Keeps.refl (fun k => k = b) wr).setC 1 _ (fun _ => rfl)).setC 0 _ (fun _ => rfl)
  refine h.step hk (fun k e => .inl e) ?_ ?_ (fun k e => .inr (hrow.lt k e).1)
  · exact setCell_block (setCell_block ((hk0.block b hb (fun e => e)).trans h.blk) 1 _) 0 _
  · exact own_base (row_keep hk1 hrow (fun k e e2 => by have := (hrow.lt k e).1; omega)) (Nat.zero_le _)
theorem RTat.newrow1 {wr : World} {l : List OneP} {nv : Value} (h : RTat w F b R v) (hk0 : K0 w wr) (hrow : wr.ownsRow w.heap.size 46 3 nv l.length (l.flatMap encO)) :
    RTpost w F b ⟨R.next, l⟩ (wr.setCell ⟨b, 1, none⟩ nv) := by
  have hb := block_lt h.blk
  have hk : Keeps (fun k => k = b) w (wr.setCell ⟨b, 1, none⟩ nv) := (hk0.mono (S1 := fun k => k = b) (fun _ _ e => e.elim)).setC 1 _ (fun _ => rfl)
  refine h.step hk (fun k e => .inl e) ?_ ?_ (fun k e => .inr (hrow.lt k e).1)
  · exact setCell_block ((hk0.block b hb (fun e => e)).trans h.blk) 1 _
  · exact own_base (row_keep ((Keeps.refl (fun k => k = b) wr).setC 1 _ (fun _ => rfl)) hrow (fun k e e2 => by have := (hrow.lt k e).1; omega)) (Nat.zero_le _)
/-- What is so of the table in all later worlds. -/
structure TabF (w wx : World) (b r : Nat) (nx : Int) (v : Value) (l : List OneP) (i j : Nat) : Prop where
  k0 : K0 w wx
  c0 : wx.cell? ⟨b, 0, none⟩ = some (.int .i64 nx)
  c1 : wx.cell? ⟨b, 1, none⟩ = some v
  lt : b < wx.heap.size
  f0 : wx.frozen? ⟨b, 0, none⟩ = false
  f1 : wx.frozen? ⟨b, 1, none⟩ = false
  n1 : ∀ q u, ((l.take i).flatMap encO)[q]? = some u → wx.cell? ((⟨r, 0, none⟩ : Addr).add q) = some u
  n2 : ∀ q u, ((l.drop j).flatMap encO)[q]? = some u → wx.cell? ((⟨r, j * 3, none⟩ : Addr).add q) = some u
theorem RTat.tabF {wx : World} {r cap : Nat} (h : RTat w F b R (.slice (some ⟨r, 0, none⟩) R.all.length cap)) (hk : K0 w wx) (i j : Nat) : TabF w wx b r R.next (.slice (some ⟨r, 0, none⟩) R.all.length cap) R.all i j := by
  have h1 := h.keep hk (fun _ _ e => e)
  have hcells : ∀ q u, (R.all.flatMap encO)[q]? = some u → wx.cell? ⟨r, q, none⟩ = some u := fun q u hu => by
    have hj : q < (R.all.flatMap encO).length := (List.getElem?_eq_some_iff.1 hu).1
    rw [h1.row.cellAt q (by rw [flat_len encO 3 encO_len] at hj; exact hj)]
    exact hu
  refine ⟨hk, block_cell h1.blk 0, block_cell h1.blk 1, block_lt h1.blk, block_free h1.blk 0, block_free h1.blk 1, fun q u hu => ?_, fun q u hu => ?_⟩
  · rw [flatN_take encO 3 encO_len, List.getElem?_take] at hu
    split at hu
    · rw [add_at, Nat.zero_add]; exact hcells q u hu
    · cases hu
  · rw [flatN_drop encO 3 encO_len, List.getElem?_drop] at hu
    rw [add_at]
    exact hcells _ u hu
structure NilT (w wx : World) (b : Nat) (nx : Int) : Prop where
  k0 : K0 w wx
  c0 : wx.cell? ⟨b, 0, none⟩ = some (.int .i64 nx)
  c1 : wx.cell? ⟨b, 1, none⟩ = some (.slice none 0 0)
  lt : b < wx.heap.size
  f0 : wx.frozen? ⟨b, 0, none⟩ = false
  f1 : wx.frozen? ⟨b, 1, none⟩ = false
theorem RTat.nilT {wx : World} (h : RTat w F b R (.slice none 0 0)) (hk : K0 w wx) : NilT w wx b R.next :=
  have h1 := h.keep hk (fun _ _ e => e)
  ⟨hk, block_cell h1.blk 0, block_cell h1.blk 1, block_lt h1.blk, block_free h1.blk 0, block_free h1.blk 1⟩
end
def RTfnd (R : Tbl) (s : ByteArray) (x : Int) : Prop := (∃ i : Nat, ∃ hi : i < R.all.length, x = i ∧ R.all[i].1 = s) ∨ (x = -1 ∧ aget R.all s = none)
set_option maxRecDepth 100000 in
set_option maxHeartbeats 1000000 in
theorem rtfind_any {w : World} {F : Nat → Prop} {b : Nat} {R : Tbl} {v : Value} (s : ByteArray) (h : RTat w F b R v) (hl : R.all.length ≤ 1000) :
    Calls Try.prog 17 #[.pointer (some ⟨b, 0, none⟩), .string s] w fun e w' => ∃ x, e = .returned (.int .i64 x) ∧ w' = w ∧ RTfnd R s x := by
  have hb := block_lt h.blk
  have hx : w.cell? ⟨b, 1, none⟩ = some v := block_cell h.blk 1
  have HH := Lib.hid h
  rcases h.form with ⟨hnil, rfl⟩ | ⟨r, cap, rfl, hrb, hrl, hcap, hFr, hcm⟩
  · have HN := Lib.hid hnil
    clear h hnil
    go_enter Try.func17, Try.ntmps17
    go_wp2
    refine wp_loop_once ?_
    go_wp2
    go_ret
    exact ⟨_, rfl, rfl, .inr ⟨rfl, by rw [HN.out]; rfl⟩⟩
  · clear h
    go_enter Try.func17, Try.ntmps17
    go_wp2
    go_loopw [5] (fun i wr => ∃ k : Nat, i = .int .i64 k ∧ k ≤ R.all.length ∧ (∀ j (hj : j < R.all.length), j < k → R.all[j].1 ≠ s) ∧ wr = w) (fun i _ => R.all.length - (intOf i).toNat)
    case atStart => exact ⟨0, rfl, by omega, fun _ _ h => absurd h (Nat.not_lt_zero _), rfl⟩
    case round =>
      obtain ⟨k, rfl, hk, hq, rfl⟩ := hrel
      have HQ := Lib.hid hq
      clear hq
      by_cases hlt : k < R.all.length
      · have c0 := (HH.out.cell rfl k hlt).1
        have i0 : (0 : Int) ≤ k := by omega
        have i1 : (k : Int) < R.all.length := by omega
        by_cases he : R.all[k].1 = s
        · have HE := Lib.hid he
          rw [he] at c0
          have HLT := Lib.hid hlt
          clear he
          go_wp2
          go_ret
          exact ⟨_, rfl, rfl, .inl ⟨k, HLT.out, rfl, HE.out⟩⟩
        · have HE := Lib.hid he
          generalize R.all[k].1 = x at c0 he
          obtain ⟨he1, he2⟩ := toList_neU he
          have HLT := Lib.hid hlt
          clear he
          go_wp2
          go_roundw
          case rel => exact ⟨k + 1, by go_num, HLT.out, fun j hj h2 => (Nat.lt_succ_iff_lt_or_eq.1 h2).elim (HQ.out j hj) fun e => by subst e; exact HE.out, by first | rfl | trivial⟩
          case measure => have := HLT.out; simp [intOf]; omega
      · obtain rfl : k = R.all.length := by omega
        go_wp2
        go_ret
        exact ⟨_, rfl, rfl, .inr ⟨rfl, aget_no fun i hi => HQ.out i hi hi⟩⟩
theorem rtfind_some {w : World} {F : Nat → Prop} {b : Nat} {R : Tbl} {v : Value} {s : ByteArray} (h : RTat w F b R v) (hl : R.all.length ≤ 1000) (hs : (aget R.all s).isSome = true) :
    Calls Try.prog 17 #[.pointer (some ⟨b, 0, none⟩), .string s] w fun e w' => ∃ (i : Nat) (_ : i < R.all.length), e = .returned (.int .i64 i) ∧ w' = w ∧ R.all[i].1 = s :=
  (rtfind_any s h hl).mono fun e w' hq => by
    obtain ⟨x, rfl, rfl, hf⟩ := hq
    rcases hf with ⟨i, hi, rfl, e⟩ | ⟨_, e⟩
    · exact ⟨i, hi, rfl, rfl, e⟩
    · rw [e] at hs; cases hs
theorem rtfind_none {w : World} {F : Nat → Prop} {b : Nat} {R : Tbl} {v : Value} {s : ByteArray} (h : RTat w F b R v) (hl : R.all.length ≤ 1000) (hs : aget R.all s = none) :
    Calls Try.prog 17 #[.pointer (some ⟨b, 0, none⟩), .string s] w fun e w' => e = .returned (.int .i64 (-1)) ∧ w' = w :=
  (rtfind_any s h hl).mono fun e w' hq => by
    obtain ⟨x, rfl, rfl, hf⟩ := hq
    rcases hf with ⟨i, hi, rfl, e⟩ | ⟨rfl, e⟩
    · exact absurd e (aget_not hs hi)
    · exact ⟨rfl, rfl⟩
def rtdel (R : Tbl) (s : ByteArray) : Tbl := ⟨R.next, adel R.all s⟩
/-- Delete: the id, or that there is none. -/
def RTdelP (w : World) (F : Nat → Prop) (b : Nat) (R : Tbl) (s : ByteArray) (e : Ending) (w' : World) : Prop :=
  e = .returned (.tuple #[.int .i64 (R.find s).1, .int .i64 (R.find s).2.2]) ∧ RTpost w F b (rtdel R s) w'
set_option maxRecDepth 100000 in
set_option maxHeartbeats 4000000 in
theorem rtdel_any {w : World} {F : Nat → Prop} {b : Nat} {R : Tbl} (s : ByteArray) (h : RTst w F b R) (hd : KD R.all) (hl : R.all.length ≤ 1000) :
    Calls Try.prog 16 #[.pointer (some ⟨b, 0, none⟩), .string s] w (RTdelP w F b R s) := by
  obtain ⟨v, h⟩ := h
  have HH := Lib.hid h
  have HD := Lib.hid hd
  have hb := block_lt h.blk
  have hx : w.cell? ⟨b, 1, none⟩ = some v := block_cell h.blk 1
  cases ha : aget R.all s with
  | none =>
    have HF := Lib.hid (rtfind_none h hl ha)
    have HP : Hid (RTdelP w F b R s (.returned (.tuple #[.int .i64 0, .int .i64 6])) w) := by
      show RTdelP _ _ _ _ _ _ _
      unfold RTdelP Tbl.find rtdel
      rw [ha, adel_none ha]
      exact ⟨rfl, RTpost.same ⟨v, h⟩ (Keeps.refl _ _)⟩
    clear h hd ha
    go_enter Try.func16, Try.ntmps16
    go_wp2_with fail
    refine HF.out.mono ?_
    rintro e w1 ⟨rfl, rfl⟩
    go_wp2
    go_ret2
    exact HP.out
  | some x =>
    have HF := Lib.hid (rtfind_some h hl (s := s) (by rw [ha]; rfl))
    have HG := Lib.hid ha
    rcases h.form with ⟨hnil, rfl⟩ | ⟨r, cap, rfl, hrb, hrl, hcap, hFr, hcm⟩
    · rw [hnil] at ha; cases ha
    clear h hd ha
    go_enter Try.func16, Try.ntmps16
    go_wp2_with fail
    refine HF.out.mono ?_
    rintro e w1 ⟨i, hi, rfl, rfl, hn⟩
    have hgx : R.all[i].2 = x := by
      have h1 := aget_atI HD.out hi
      rw [hn, HG.out] at h1
      exact (Option.some.inj h1).symm
    have ci := (HH.out.cell rfl i hi).2.1
    rw [hgx] at ci
    have HER : Hid (R.all.eraseIdx i = adel R.all s) := by
      show _ = _
      rw [erase_adel HD.out hi, hn]
    have HTF : Hid (∀ wx, K0 w1 wx → TabF w1 wx b r R.next (.slice (some ⟨r, 0, none⟩) R.all.length cap) R.all i (i + 1)) := fun wx hk => HH.out.tabF hk i (i + 1)
    have hn1 := (HTF.out w1 (Keeps.refl _ _)).n1
    have fr1 := (HTF.out w1 (Keeps.refl _ _)).f1
    have hl1 : ((R.all.take i).flatMap encO).length = i * 3 := by rw [flat_len encO 3 encO_len, List.length_take]; congr 1; omega
    have hl2 : ((R.all.drop (i + 1)).flatMap encO).length = (R.all.length - (i + 1)) * 3 := by rw [flat_len encO 3 encO_len, List.length_drop]
    have hc1 : ∀ u ∈ (R.all.take i).flatMap encO, u.oneCell' = true := fun u hu => by
      obtain ⟨y, hy, hu⟩ := List.mem_flatMap.1 hu
      exact encO_one y u hu
    have hc2 : ∀ u ∈ (R.all.drop (i + 1)).flatMap encO, u.oneCell' = true := fun u hu => by
      obtain ⟨y, hy, hu⟩ := List.mem_flatMap.1 hu
      exact encO_one y u hu
    have hown0 : w1.ownsRow w1.heap.size 46 3 (.slice none 0 0) 0 [] := World.ownsRow_nil _ _ _ _
    have HLE : Hid ((R.all.eraseIdx i).length = i + (R.all.length - (i + 1))) := by show _ = _; rw [List.length_eraseIdx, if_pos hi]; omega
    have HFM : Hid ((R.all.eraseIdx i).flatMap encO = (R.all.take i).flatMap encO ++ (R.all.drop (i + 1)).flatMap encO) := by show _ = _; rw [List.eraseIdx_eq_take_drop_succ, List.flatMap_append]
    have HFIN : Hid (∀ w4 va vc, K0 w1 w4 → w4.ownsRow w1.heap.size 46 3 (.slice va (i + (R.all.length - (i + 1))) vc) (i + (R.all.length - (i + 1))) ((R.all.take i).flatMap encO ++ (R.all.drop (i + 1)).flatMap encO) →
        RTdelP w1 F b R s (.returned (.tuple #[.int .i64 x.1, .int .i64 0])) (w4.setCell ⟨b, 1, none⟩ (.slice va (i + (R.all.length - (i + 1))) vc))) := by
      show ∀ _ _ _, _ → _ → _
      intro w4 va vc hk4 ho4
      refine ⟨by unfold Tbl.find; rw [HG.out], ?_⟩
      rw [← HFM.out, ← HLE.out] at ho4
      have h9 := HH.out.newrow1 hk4 ho4
      rw [HER.out, ← HER.out, HLE.out, HER.out] at h9
      exact h9
    have i0 : (0 : Int) ≤ i := by omega
    have i1 : (i : Int) ≤ cap := by omega
    have i2 : (i : Int) < R.all.length := by omega
    have i3 : (i : Int) + 1 ≤ R.all.length := by omega
    have i4 : (R.all.length : Int) ≤ cap := by omega
    clear hn hgx
    by_cases hce : cap = i + 1
    · have hdn : R.all.length = i + 1 := by omega
      have HDN : Hid ((R.all.drop (i + 1)).flatMap encO = []) := by show _ = _; rw [List.drop_eq_nil_of_le (by omega)]; rfl
      rw [hdn] at hx HTF HFIN i2 i3 i4
      rw [HDN.out] at HFIN
      have HFZ : Hid (∀ w4 va vc, K0 w1 w4 → w4.ownsRow w1.heap.size 46 3 (.slice va i vc) i ((R.all.take i).flatMap encO) →
        RTdelP w1 F b R s (.returned (.tuple #[.int .i64 x.1, .int .i64 0])) (w4.setCell ⟨b, 1, none⟩ (.slice va i vc))) := by
        show ∀ _ _ _, _ → _ → _
        intro w4 va vc hk4 ho4
        have h9 := HFIN.out w4 va vc hk4
        rw [Nat.sub_self, Nat.add_zero, List.append_nil] at h9
        exact h9 ho4
      subst hce
      clear hdn hl2 hc2 HLE HFM HFIN
      go_wp2_with (at_builtin; first | (refine wpList_appN rfl rfl Try.underlying41 infoOne rfl (by decide) rfl hown0 rfl hl1 hn1 hc1 ⟨by omega, by decide⟩ (Nat.le_refl _) ?_; intro v1 w2 hv1 hg1; simp only [Nat.zero_add, List.nil_append] at hv1; obtain ⟨va1, vc1, rfl⟩ := own_slice hv1; have hk1 := grown1 hg1; have hz1 := hk1.size; obtain ⟨_, _, t1, t2, _, t3, _, t4⟩ := HTF.out w2 hk1; clear hx hb fr1 hn1 ci) | (refine wpList_appZ rfl rfl Try.underlying41 infoOne rfl hv1 rfl ?_; have HK3 := Lib.hid hk1; have HV3 := Lib.hid hv1; clear hv1 hk1))
      go_ret2
      exact HFZ.out _ _ _ HK3.out HV3.out
    · go_wp2_with (at_builtin; first | (refine wpList_appN rfl rfl Try.underlying41 infoOne rfl (by decide) rfl hown0 rfl hl1 hn1 hc1 ⟨by omega, by decide⟩ (Nat.le_refl _) ?_; intro v1 w2 hv1 hg1; simp only [Nat.zero_add, List.nil_append] at hv1; obtain ⟨va1, vc1, rfl⟩ := own_slice hv1; have hk1 := grown1 hg1; have hz1 := hk1.size; obtain ⟨_, _, t1, t2, _, t3, _, t4⟩ := HTF.out w2 hk1; clear hx hb fr1 hn1 ci) | (refine wpList_appN rfl rfl Try.underlying41 infoOne rfl (by decide) rfl hv1 rfl hl2 t4 hc2 ⟨by omega, by decide⟩ hz1 ?_; intro v3 w3 hv3 hg3; obtain ⟨va3, vc3, rfl⟩ := own_slice hv3; have hk3 : K0 w1 w3 := hk1.grown hg3 (fun k e hlt => absurd (hv1.lt k e).1 (by omega)); have HK3 := Lib.hid hk3; have HV3 := Lib.hid hv3; obtain ⟨_, _, r1, r2, _, r3, _, _⟩ := HTF.out w3 hk3; clear t1 t2 t3 t4 hv3 hg3 hv1 hk3))
      go_ret2
      exact HFIN.out _ _ _ HK3.out HV3.out
end Go.Proofs.Ytegbiekfpcfnnaa
