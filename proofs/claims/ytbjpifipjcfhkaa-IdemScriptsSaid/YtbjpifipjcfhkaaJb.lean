/-
  The document's producers as an object in memory; find, Epoch, numbers.
-/
import Derived.Test.YtbjpifipjcfhkaaJh
namespace Go.Proofs.Ytbjpifipjcfhkaa
open Go.RowKit Fx

/-- A producer, with the value that stands for its window. -/
structure OneI where
  id : Int
  ep : Int
  lv : Value
  ws : List SentC
def encI (x : OneI) : List Value := [.int .i64 x.id, .int .i64 x.ep, x.lv]
theorem encI_len (x : OneI) : (encI x).length = 3 := rfl
def coreO (x : OneI) : Int × Int × List SentC := (x.id, x.ep, x.ws)
def encS (s : SentC) : List Value := [.int .i64 s.seq, .int .i64 s.base, .int .i64 s.span]
theorem encS_len (s : SentC) : (encS s).length = 3 := rfl
theorem encS_one (s : SentC) : ∀ u ∈ encS s, u.oneCell' = true := fun u hu => by
  simp only [encS, List.mem_cons, List.not_mem_nil, or_false] at hu
  rcases hu with rfl | rfl | rfl <;> rfl
theorem infoSent : (Try.prog.info? 73).map (fun i => (i.zero, i.size, i.bytes)) = some (some (.agg #[.int .i64 0, .int .i64 0, .int .i64 0]), 3, 24) := by kernel_rfl
theorem infoOneI : (Try.prog.info? 71).map (fun i => (i.zero, i.size, i.bytes)) = some (some (.agg #[.int .i64 0, .int .i64 0, .slice none 0 0]), 3, 40) := by kernel_rfl
/-- A slice value that tells a window, out of a block of G. -/
def WinV (w : World) (G : Nat → Prop) (v : Value) (ws : List SentC) : Prop :=
  ∃ g off cap, v = .slice (some ⟨g, off, none⟩) ws.length cap ∧ ws.length ≤ cap ∧ cap ≤ maxLen ∧ g < w.heap.size ∧ G g ∧ ∀ q u, (ws.flatMap encS)[q]? = some u → w.cell? ⟨g, off + q, none⟩ = some u
def WinE (w : World) (G : Nat → Prop) (v : Value) (ws : List SentC) : Prop := (ws = [] ∧ v = .slice none 0 0) ∨ WinV w G v ws
theorem WinE.keep {w w' : World} {G G' S : Nat → Prop} {v : Value} {ws : List SentC} (h : WinE w G v ws) (hk : Keeps S w w') (hS : ∀ k, k < w.heap.size → G k → ¬ S k) (hG : ∀ k, k < w.heap.size → G k → G' k) : WinE w' G' v ws := by
  rcases h with h | ⟨g, off, cap, h1, h2, h3, h4, h5, h6⟩
  · exact .inl h
  · exact .inr ⟨g, off, cap, h1, h2, h3, Nat.lt_of_lt_of_le h4 hk.size, hG g h4 h5, fun q u e => hk.cell' (h6 q u e) (hS g h4 h5)⟩
/-- The producers at block b: their row is v, the blocks of all of it are in F. -/
structure RPAt (w : World) (F : Nat → Prop) (b : Nat) (v : Value) (L : List OneI) : Prop where
  blk : w.heap[b]? = some (.cells #[v] 28 (0, 0))
  row : w.ownsRow 0 71 3 v L.length (L.flatMap encI)
  fb : F b
  lt : ∀ k, F k → k < w.heap.size
  own : ∀ k, v.ownBlock = some k → F k ∧ k ≠ b
  out : ∀ x ∈ L, WinE w (fun k => F k ∧ k ≠ b ∧ v.ownBlock ≠ some k) x.lv x.ws
def RPst (w : World) (F : Nat → Prop) (b : Nat) (R : List (Int × HeardC)) : Prop := ∃ v L, RPAt w F b v L ∧ L.map coreO = R.map coreI
def RPpost (w : World) (F : Nat → Prop) (b : Nat) (R' : List (Int × HeardC)) (w' : World) : Prop := ∃ F', RPst w' F' b R' ∧ (∀ k, F' k → F k ∨ w.heap.size ≤ k) ∧ Keeps F w w'
section
variable {w w' : World} {F S : Nat → Prop} {b : Nat} {R R' : List (Int × HeardC)} {v v' : Value} {L L' : List OneI}
theorem RPAt.keep (h : RPAt w F b v L) (hk : Keeps S w w') (hS : ∀ k, F k → ¬ S k) : RPAt w' F b v L :=
  ⟨(hk.block b (block_lt h.blk) (hS b h.fb)).trans h.blk, row_keep hk h.row (fun k e => hS k (h.own k e).1), h.fb, fun k e => Nat.lt_of_lt_of_le (h.lt k e) hk.size, h.own, fun x hx => (h.out x hx).keep hk (fun k _ e => hS k e.1) (fun _ _ e => e)⟩
theorem RPst.keep (h : RPst w F b R) (hk : Keeps S w w') (hS : ∀ k, F k → ¬ S k) : RPst w' F b R := by
  obtain ⟨v, L, h, e⟩ := h
  exact ⟨v, L, h.keep hk hS, e⟩
theorem RPst.lt (h : RPst w F b R) : ∀ k, F k → k < w.heap.size := by
  obtain ⟨v, L, h, _⟩ := h
  exact h.lt
theorem RPst.core (h : RPst w F b R) (e : R.map coreI = R'.map coreI) : RPst w F b R' := by
  obtain ⟨v, L, h, e2⟩ := h
  exact ⟨v, L, h, e2.trans e⟩
theorem RPpost.same (h : RPst w F b R) (hk : K0 w w') : RPpost w F b R w' := ⟨F, h.keep hk (fun _ _ e => e), fun _ e => .inl e, hk.mono fun _ _ e => e.elim⟩
theorem RPpost.trans {w1 w2 : World} {F1 : Nat → Prop} (hF : ∀ k, F1 k → F k ∨ w.heap.size ≤ k) (hk : Keeps F w w1) (h : RPpost w1 F1 b R' w2) : RPpost w F b R' w2 := by
  obtain ⟨F2, h1, h2, h3⟩ := h
  exact ⟨F2, h1, fun k e => (h2 k e).elim (hF k) (fun e => .inr (Nat.le_trans hk.size e)), hk.trans h3 fun k hk' e => (hF k e).elim id fun e => by omega⟩
/-- Its row has turned, or is anew. -/
theorem RPAt.step (h : RPAt w F b v L) (hk : Keeps S w w') (hS : ∀ k, S k → k = b ∨ v.ownBlock = some k) (hblk : w'.heap[b]? = some (.cells #[v'] 28 (0, 0))) (hrow : w'.ownsRow 0 71 3 v' L'.length (L'.flatMap encI))
    (hv : ∀ k, v'.ownBlock = some k → v.ownBlock = some k ∨ w.heap.size ≤ k)
    (ho : ∀ x ∈ L', (∃ y ∈ L, x.lv = y.lv ∧ x.ws = y.ws) ∨ WinE w' (fun k => w.heap.size ≤ k ∧ v'.ownBlock ≠ some k) x.lv x.ws) :
    RPAt w' (fun k => F k ∨ (w.heap.size ≤ k ∧ k < w'.heap.size)) b v' L' := by
  have hb := block_lt h.blk
  refine ⟨hblk, hrow, .inl h.fb, fun k e => e.elim (fun e => Nat.lt_of_lt_of_le (h.lt k e) hk.size) (fun e => e.2), fun k e => ?_, fun x hx => ?_⟩
  · rcases hv k e with e1 | e1
    · exact ⟨.inl (h.own k e1).1, (h.own k e1).2⟩
    · exact ⟨.inr ⟨e1, (hrow.lt k e).2⟩, by omega⟩
  · rcases ho x hx with ⟨y, hy, e1, e2⟩ | h1
    · rw [e1, e2]
      exact (h.out y hy).keep hk (fun k _ e e2 => (hS k e2).elim e.2.1 e.2.2) (fun k hk' e => ⟨.inl e.1, e.2.1, fun e2 => (hv k e2).elim e.2.2 fun e3 => by omega⟩)
    · exact h1.keep (Keeps.refl (fun _ => False) _) (fun _ _ _ e => e) (fun k hlt e => ⟨.inr ⟨e.1, hlt⟩, by have := e.1; omega, e.2⟩)
theorem RPAt.post (h : RPAt w F b v L) (hk : Keeps S w w') (hS : ∀ k, S k → k = b ∨ v.ownBlock = some k) (hblk : w'.heap[b]? = some (.cells #[v'] 28 (0, 0))) (hrow : w'.ownsRow 0 71 3 v' L'.length (L'.flatMap encI))
    (hv : ∀ k, v'.ownBlock = some k → v.ownBlock = some k ∨ w.heap.size ≤ k)
    (ho : ∀ x ∈ L', (∃ y ∈ L, x.lv = y.lv ∧ x.ws = y.ws) ∨ WinE w' (fun k => w.heap.size ≤ k ∧ v'.ownBlock ≠ some k) x.lv x.ws) (hc : L'.map coreO = R'.map coreI) : RPpost w F b R' w' :=
  ⟨_, ⟨v', L', h.step hk hS hblk hrow hv ho, hc⟩, fun _ e => e.imp id (fun e => e.1), hk.mono fun k _ e => (hS k e).elim (fun e => e ▸ h.fb) (fun e => (h.own k e).1)⟩
theorem RPAt.cell (h : RPAt w F b v L) {r cap : Nat} (hv : v = .slice (some ⟨r, 0, none⟩) L.length cap) (i : Nat) (hi : i < L.length) :
    w.cell? ⟨r, i * 3, none⟩ = some (.int .i64 L[i].id) ∧ w.cell? ⟨r, i * 3 + 1, none⟩ = some (.int .i64 L[i].ep) ∧ w.cell? ⟨r, i * 3 + 2, none⟩ = some L[i].lv := by
  subst hv
  have hc : ∀ j, j < 3 → w.cell? ⟨r, i * 3 + j, none⟩ = (encI L[i])[j]? := fun j hj => by
    rw [h.row.cellAt (i * 3 + j) (by omega)]
    exact flatMap_get encI 3 encI_len L i j hi hj
  exact ⟨hc 0 (by omega), hc 1 (by omega), hc 2 (by omega)⟩
theorem RPAt.form (h : RPAt w F b v L) : (L = [] ∧ v = .slice none 0 0) ∨ ∃ r cap, v = .slice (some ⟨r, 0, none⟩) L.length cap ∧ r ≠ b ∧ r < w.heap.size ∧ L.length ≤ cap ∧ F r ∧ cap ≤ 9223372036854775807 := by
  rcases h.row.2 with ⟨h1, h2⟩ | ⟨r, cap, cur, h1, _, hg, hc, hm, _⟩
  · exact .inl ⟨List.eq_nil_of_length_eq_zero h2, h1⟩
  · have h3 := h.own r (by rw [h1]; rfl)
    exact .inr ⟨r, cap, h1, h3.2, block_lt hg, hc, h3.1, by unfold maxLen at hm; omega⟩
end
section
variable {R : List (Int × HeardC)} {L : List OneI}
theorem core_len (e : L.map coreO = R.map coreI) : L.length = R.length := by
  have := congrArg List.length e
  rwa [List.length_map, List.length_map] at this
theorem core_at (e : L.map coreO = R.map coreI) {i : Nat} (hi : i < L.length) (hr : i < R.length) : L[i].id = R[i].1 ∧ L[i].ep = R[i].2.epoch ∧ L[i].ws = winL R[i].2 := by
  have h1 : (L.map coreO)[i]? = (R.map coreI)[i]? := by rw [e]
  rw [List.getElem?_map, List.getElem?_map, List.getElem?_eq_getElem hi, List.getElem?_eq_getElem hr] at h1
  simp only [Option.map_some, Option.some.injEq, coreO, coreI, Prod.mk.injEq] at h1
  exact h1
end
def RPfnd (R : List (Int × HeardC)) (id x : Int) : Prop := (∃ i : Nat, ∃ hi : i < R.length, x = i ∧ R[i].1 = id) ∨ (x = -1 ∧ aget R id = none)
set_option maxRecDepth 100000 in
set_option maxHeartbeats 1000000 in
theorem rfind_any {w : World} {F : Nat → Prop} {b : Nat} {R : List (Int × HeardC)} {v : Value} {L : List OneI} (id : Int) (h : RPAt w F b v L) (hc : L.map coreO = R.map coreI) :
    Calls Try.prog 29 #[.pointer (some ⟨b, 0, none⟩), .int .i64 id] w fun e w' => ∃ x, e = .returned (.int .i64 x) ∧ w' = w ∧ RPfnd R id x := by
  have hb := block_lt h.blk
  have hx : w.cell? ⟨b, 0, none⟩ = some v := block_cell h.blk 0
  have HH := Lib.hid h
  have HC := Lib.hid hc
  have HL := Lib.hid (core_len hc)
  rcases h.form with ⟨hnil, rfl⟩ | ⟨r, cap, rfl, hrb, hrl, hcap, hFr, hcm⟩
  · have HN : Hid (R = []) := List.eq_nil_of_length_eq_zero (by rw [← HL.out, hnil]; rfl)
    clear h hnil hc
    go_enter Try.func29, Try.ntmps29
    go_wp2
    refine wp_loop_once ?_
    go_wp2
    go_ret
    exact ⟨_, rfl, rfl, .inr ⟨rfl, by rw [HN.out]; rfl⟩⟩
  · clear h hc
    go_enter Try.func29, Try.ntmps29
    go_wp2
    go_loopw [5] (fun i wr => ∃ k : Nat, i = .int .i64 k ∧ k ≤ L.length ∧ (∀ j (hj : j < L.length), j < k → L[j].id ≠ id) ∧ wr = w) (fun i _ => L.length - (intOf i).toNat)
    case atStart => exact ⟨0, rfl, by omega, fun _ _ h => absurd h (Nat.not_lt_zero _), rfl⟩
    case round =>
      obtain ⟨k, rfl, hk, hq, rfl⟩ := hrel
      have HQ := Lib.hid hq
      clear hq
      by_cases hlt : k < L.length
      · have c0 := (HH.out.cell rfl k hlt).1
        have i0 : (0 : Int) ≤ k := by omega
        have i1 : (k : Int) < L.length := by omega
        by_cases he : L[k].id = id
        · have HE := Lib.hid he
          rw [he] at c0
          have HLT := Lib.hid hlt
          clear he
          go_wp2
          go_ret
          exact ⟨_, rfl, rfl, .inl ⟨k, by rw [← HL.out]; exact HLT.out, rfl, by rw [← (core_at HC.out HLT.out (by rw [← HL.out]; exact HLT.out)).1]; exact HE.out⟩⟩
        · have HE := Lib.hid he
          have he1 : (L[k].id == id) = false := by rw [beq_eq_false_iff_ne]; exact he
          generalize L[k].id = x at c0 he1
          have HLT := Lib.hid hlt
          clear he
          go_wp2
          go_roundw
          case rel => exact ⟨k + 1, by go_num, HLT.out, fun j hj h2 => (Nat.lt_succ_iff_lt_or_eq.1 h2).elim (HQ.out j hj) fun e => by subst e; exact HE.out, by first | rfl | trivial⟩
          case measure => have := HLT.out; simp [intOf]; omega
      · obtain rfl : k = L.length := by omega
        go_wp2
        go_ret
        exact ⟨_, rfl, rfl, .inr ⟨rfl, agetI_no fun i hi => by
          have hi' : i < L.length := by rw [HL.out]; exact hi
          rw [← (core_at HC.out hi' hi).1]
          exact HQ.out i hi' hi'⟩⟩
theorem rfind_some {w : World} {F : Nat → Prop} {b : Nat} {R : List (Int × HeardC)} {v : Value} {L : List OneI} {id : Int} (h : RPAt w F b v L) (hc : L.map coreO = R.map coreI) {H : HeardC} (hs : aget R id = some H) :
    Calls Try.prog 29 #[.pointer (some ⟨b, 0, none⟩), .int .i64 id] w fun e w' => ∃ (i : Nat) (_ : i < R.length), e = .returned (.int .i64 i) ∧ w' = w ∧ R[i].1 = id :=
  (rfind_any id h hc).mono fun e w' hq => by
    obtain ⟨x, rfl, rfl, hf⟩ := hq
    rcases hf with ⟨i, hi, rfl, e⟩ | ⟨_, e⟩
    · exact ⟨i, hi, rfl, rfl, e⟩
    · rw [e] at hs; cases hs
theorem rfind_none {w : World} {F : Nat → Prop} {b : Nat} {R : List (Int × HeardC)} {v : Value} {L : List OneI} {id : Int} (h : RPAt w F b v L) (hc : L.map coreO = R.map coreI) (hs : aget R id = none) :
    Calls Try.prog 29 #[.pointer (some ⟨b, 0, none⟩), .int .i64 id] w fun e w' => e = .returned (.int .i64 (-1)) ∧ w' = w :=
  (rfind_any id h hc).mono fun e w' hq => by
    obtain ⟨x, rfl, rfl, hf⟩ := hq
    rcases hf with ⟨i, hi, rfl, e⟩ | ⟨rfl, e⟩
    · exact absurd e (agetI_not hs hi)
    · exact ⟨rfl, rfl⟩
set_option maxRecDepth 100000 in
set_option maxHeartbeats 1000000 in
theorem repoch_any {w : World} {F : Nat → Prop} {b : Nat} {R : List (Int × HeardC)} (id : Int) (h : RPst w F b R) (hd : KD R) :
    Calls Try.prog 15 #[.pointer (some ⟨b, 0, none⟩), .int .i64 id] w fun e w' => e = .returned (.int .i64 (oldH R id).epoch) ∧ w' = w := by
  obtain ⟨v, L, h, hc⟩ := h
  have hb := block_lt h.blk
  have hx : w.cell? ⟨b, 0, none⟩ = some v := block_cell h.blk 0
  have HH := Lib.hid h
  have HC := Lib.hid hc
  have HL := Lib.hid (core_len hc)
  have HD := Lib.hid hd
  cases ha : aget R id with
  | none =>
    have HF := Lib.hid (rfind_none h hc ha)
    have ho : (oldH R id).epoch = -1 := by unfold oldH; rw [ha]; rfl
    rw [ho]
    clear h hc ha hd ho
    go_enter Try.func15, Try.ntmps15
    go_wp2_with fail
    refine HF.out.mono ?_
    rintro e w1 ⟨rfl, rfl⟩
    go_wp2
    go_ret
    exact ⟨rfl, rfl⟩
  | some H =>
    have HF := Lib.hid (rfind_some h hc ha)
    have HE : Hid (∀ i (hi : i < R.length), R[i].1 = id → R[i].2 = oldH R id) := by
      show ∀ i hi, _ → _
      intro i hi he
      have := agetI_at hd hi
      rw [he] at this
      unfold oldH
      rw [this]
      rfl
    obtain ⟨r, cap, rfl, hcap⟩ : ∃ r cap, v = .slice (some ⟨r, 0, none⟩) L.length cap ∧ L.length ≤ cap := by
      rcases h.form with ⟨hn, _⟩ | ⟨r, cap, h1, _, _, h2, _⟩
      · have h9 : R = [] := List.eq_nil_of_length_eq_zero (by rw [← HL.out, hn]; rfl)
        rw [h9] at ha; cases ha
      · exact ⟨r, cap, h1, h2⟩
    have hmx := h.row.2
    clear h hc ha hd
    go_enter Try.func15, Try.ntmps15
    go_wp2_with fail
    refine HF.out.mono ?_
    rintro e w1 ⟨i, hi, rfl, rfl, he⟩
    have hi' : i < L.length := by rw [HL.out]; exact hi
    have hep : L[i].ep = (oldH R id).epoch := by rw [(core_at HC.out hi' hi).2.1, HE.out i hi he]
    have c1 := (HH.out.cell rfl i hi').2.1
    rw [hep] at c1
    have i0 : (0 : Int) ≤ i := by omega
    have i1 : (i : Int) < L.length := by omega
    have i2 : ¬ (i : Int) < 0 := by omega
    clear he hep hmx
    go_wp2
    go_ret
    exact ⟨rfl, rfl⟩
set_option maxRecDepth 100000 in
set_option maxHeartbeats 4000000 in
theorem numbers_any (b : BatchC) (w : World) : Calls Try.prog 28 #[.agg #[.int .i64 b.base, .int .i64 b.span, .int .i64 b.prod, .int .i64 b.epoch, .int .i64 b.seq, .slice b.ra b.rn b.rc]] w fun e w' => Same w e (.bool (mayB b)) w' := by
  unfold mayB win
  by_cases h1 : 0 ≤ b.prod
  case neg =>
    rw [decide_eq_false h1]
    go_enter Try.func28, Try.ntmps28
    go_wp2
    go_ret
    exact ⟨rfl, (Keeps.refl _ _).alloc _⟩
  by_cases h2 : b.prod ≤ 1073741824
  case neg =>
    rw [decide_eq_false h2, Bool.and_false]
    go_enter Try.func28, Try.ntmps28
    go_wp2
    go_ret
    exact ⟨rfl, (Keeps.refl _ _).alloc _⟩
  by_cases h3 : 0 ≤ b.epoch
  case neg =>
    rw [decide_eq_false h3]
    simp only [Bool.and_false, Bool.false_and]
    go_enter Try.func28, Try.ntmps28
    go_wp2
    go_ret
    exact ⟨rfl, (Keeps.refl _ _).alloc _⟩
  by_cases h4 : b.epoch ≤ 32768
  case neg =>
    rw [decide_eq_false h4]
    simp only [Bool.and_false, Bool.false_and]
    go_enter Try.func28, Try.ntmps28
    go_wp2
    go_ret
    exact ⟨rfl, (Keeps.refl _ _).alloc _⟩
  by_cases h5 : 0 ≤ b.seq
  case neg =>
    rw [decide_eq_false h5]
    simp only [Bool.and_false, Bool.false_and]
    go_enter Try.func28, Try.ntmps28
    go_wp2
    go_ret
    exact ⟨rfl, (Keeps.refl _ _).alloc _⟩
  by_cases h6 : b.seq ≤ 1073741824
  case neg =>
    rw [decide_eq_false h6]
    simp only [Bool.and_false, Bool.false_and]
    go_enter Try.func28, Try.ntmps28
    go_wp2
    go_ret
    exact ⟨rfl, (Keeps.refl _ _).alloc _⟩
  by_cases h7 : 1 ≤ b.span
  case neg =>
    rw [decide_eq_false h7]
    simp only [Bool.and_false, Bool.false_and]
    go_enter Try.func28, Try.ntmps28
    go_wp2
    go_ret
    exact ⟨rfl, (Keeps.refl _ _).alloc _⟩
  by_cases h8 : b.span ≤ 50
  case neg =>
    rw [decide_eq_false h8]
    simp only [Bool.and_false, Bool.false_and]
    go_enter Try.func28, Try.ntmps28
    go_wp2
    go_ret
    exact ⟨rfl, (Keeps.refl _ _).alloc _⟩
  by_cases h9 : 0 ≤ b.base
  case neg =>
    rw [decide_eq_false h9]
    simp only [Bool.and_false, Bool.false_and]
    go_enter Try.func28, Try.ntmps28
    go_wp2
    go_ret
    exact ⟨rfl, (Keeps.refl _ _).alloc _⟩
  by_cases h10 : b.base ≤ 1099511627776
  case neg =>
    rw [decide_eq_false h10]
    simp only [Bool.and_false]
    go_enter Try.func28, Try.ntmps28
    go_wp2
    go_ret
    exact ⟨rfl, (Keeps.refl _ _).alloc _⟩
  simp only [decide_eq_true h1, decide_eq_true h2, decide_eq_true h3, decide_eq_true h4, decide_eq_true h5, decide_eq_true h6, decide_eq_true h7, decide_eq_true h8, decide_eq_true h9, decide_eq_true h10, Bool.and_true]
  go_enter Try.func28, Try.ntmps28
  go_wp2
  go_ret
  exact ⟨rfl, (Keeps.refl _ _).alloc _⟩
end Go.Proofs.Ytbjpifipjcfhkaa
