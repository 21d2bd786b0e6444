/-
  The reference's group of members as an object in memory.
-/
import Derived.Test.YtlmajhkhlmkeiaaGt
import Derived.Test.YtlmajhkhlmkeiaaAr
namespace Go.Proofs.Ytlmajhkhlmkeiaa
open Go.RowKit Go.Shelf Fx

/-- The group at block b: its members' row is v, the blocks of all of it are in F. -/
structure RGrpAt (w : World) (F : Nat → Prop) (b : Nat) (g : GroupC) (v : Value) (L : List OneV) : Prop where
  blk : w.heap[b]? = some (.cells (gCells g v) 55 (0, 0))
  row : w.ownsRow 0 98 5 v L.length (L.flatMap oneEnc)
  fb : F b
  lt : ∀ k, F k → k < w.heap.size
  own : ∀ k, v.ownBlock = some k → F k ∧ k ≠ b
  ones : L.map OneV.core = g.ones
  out : ∀ x ∈ L, Out 1 rStr w (fun k => F k ∧ k ≠ b ∧ v.ownBlock ≠ some k) x.tv x.topics ∧ Out 2 rPart w (fun k => F k ∧ k ≠ b ∧ v.ownBlock ≠ some k) x.pv x.parts
def RGrp (w : World) (F : Nat → Prop) (b : Nat) (g : GroupC) : Prop := ∃ v L, RGrpAt w F b g v L
theorem RGrpAt.keep {w w' : World} {F S : Nat → Prop} {b : Nat} {g : GroupC} {v : Value} {L : List OneV} (h : RGrpAt w F b g v L) (hk : Keeps S w w') (hS : ∀ k, F k → ¬ S k) : RGrpAt w' F b g v L :=
  ⟨(hk.block b (block_lt h.blk) (hS b h.fb)).trans h.blk, own_keep hk h.row (fun k e => hS k (h.own k e).1), h.fb, fun k e => Nat.lt_of_lt_of_le (h.lt k e) hk.size, h.own, h.ones, fun x hx =>
    ⟨(h.out x hx).1.keep still_str hk (fun k _ e => hS k e.1) (fun _ _ e => e), (h.out x hx).2.keep still_part hk (fun k _ e => hS k e.1) (fun _ _ e => e)⟩⟩
theorem RGrp.keep {w w' : World} {F S : Nat → Prop} {b : Nat} {g : GroupC} (h : RGrp w F b g) (hk : Keeps S w w') (hS : ∀ k, F k → ¬ S k) : RGrp w' F b g := by
  obtain ⟨v, L, h⟩ := h
  exact ⟨v, L, h.keep hk hS⟩
theorem RGrpAt.step {w w' : World} {F S : Nat → Prop} {b : Nat} {g g' : GroupC} {v v' : Value} {L L' : List OneV} (h : RGrpAt w F b g v L) (hk : Keeps S w w') (hS : ∀ k, S k → k = b ∨ v.ownBlock = some k)
    (hblk : w'.heap[b]? = some (.cells (gCells g' v') 55 (0, 0))) (hrow : w'.ownsRow 0 98 5 v' L'.length (L'.flatMap oneEnc))
    (hv : ∀ k, v'.ownBlock = some k → v.ownBlock = some k ∨ w.heap.size ≤ k) (hones : L'.map OneV.core = g'.ones)
    (ht : ∀ x ∈ L', (∃ y ∈ L, x.tv = y.tv ∧ x.topics = y.topics) ∨ Fresh 1 rStr w w' b v' x.tv x.topics)
    (hp : ∀ x ∈ L', (∃ y ∈ L, x.pv = y.pv ∧ x.parts = y.parts) ∨ Fresh 2 rPart w w' b v' x.pv x.parts) :
    RGrpAt w' (fun k => F k ∨ (w.heap.size ≤ k ∧ k < w'.heap.size)) b g' v' L' := by
  have hb := block_lt h.blk
  have hG : ∀ k, k < w.heap.size → (F k ∧ k ≠ b ∧ v.ownBlock ≠ some k) → ((F k ∨ (w.heap.size ≤ k ∧ k < w'.heap.size)) ∧ k ≠ b ∧ v'.ownBlock ≠ some k) := fun k hk' e =>
    ⟨.inl e.1, e.2.1, fun e2 => (hv k e2).elim e.2.2 fun e3 => by omega⟩
  have hS' : ∀ k, k < w.heap.size → (F k ∧ k ≠ b ∧ v.ownBlock ≠ some k) → ¬ S k := fun k _ e e2 => (hS k e2).elim e.2.1 e.2.2
  have hfr : ∀ {α : Type} {n : Nat} {R : Rdr α} {tv : Value} {l : List α}, Fresh n R w w' b v' tv l → Out n R w' (fun k => (F k ∨ (w.heap.size ≤ k ∧ k < w'.heap.size)) ∧ k ≠ b ∧ v'.ownBlock ≠ some k) tv l := by
    intro α n R tv l ⟨a, cap, e1, e2, e3⟩
    exact ⟨a, cap, e1, e2, fun x ex hne => ⟨(e3 x ex hne).1, .inr ⟨(e3 x ex hne).2.1, (e3 x ex hne).1⟩, (e3 x ex hne).2.2⟩⟩
  refine ⟨hblk, hrow, .inl h.fb, fun k e => e.elim (fun e => Nat.lt_of_lt_of_le (h.lt k e) hk.size) (fun e => e.2), fun k e => ?_, hones, fun x hx => ⟨?_, ?_⟩⟩
  · rcases hv k e with e1 | e1
    · exact ⟨.inl (h.own k e1).1, (h.own k e1).2⟩
    · exact ⟨.inr ⟨e1, (hrow.lt k e).2⟩, by omega⟩
  · rcases ht x hx with ⟨y, hy, e1, e2⟩ | h1
    · rw [e1, e2]
      exact (h.out y hy).1.keep still_str hk hS' hG
    · exact hfr h1
  · rcases hp x hx with ⟨y, hy, e1, e2⟩ | h1
    · rw [e1, e2]
      exact (h.out y hy).2.keep still_part hk hS' hG
    · exact hfr h1
/-- What a call on a group leaves. -/
def RGrpPost (w : World) (F : Nat → Prop) (b : Nat) (g' : GroupC) (w' : World) : Prop :=
  ∃ F', RGrp w' F' b g' ∧ (∀ k, F' k → F k ∨ w.heap.size ≤ k) ∧ Keeps F w w'
theorem RGrpPost.trans {w w1 w2 : World} {F F1 : Nat → Prop} {b : Nat} {g' : GroupC} (hF : ∀ k, F1 k → F k ∨ w.heap.size ≤ k) (hk : Keeps F w w1) (h : RGrpPost w1 F1 b g' w2) : RGrpPost w F b g' w2 := by
  obtain ⟨F2, h1, h2, h3⟩ := h
  refine ⟨F2, h1, fun k e => (h2 k e).elim (hF k) (fun e => .inr (Nat.le_trans hk.size e)), hk.trans h3 fun k hk' e => (hF k e).elim id fun e => by omega⟩

/-- A member's cells. -/
theorem RGrpAt.cell {w : World} {F : Nat → Prop} {b : Nat} {g : GroupC} {v : Value} {L : List OneV} (h : RGrpAt w F b g v L) {r cap : Nat} (hv : v = .slice (some ⟨r, 0, none⟩) L.length cap) (i : Nat) (hi : i < L.length) :
    w.cell? ⟨r, i * 5, none⟩ = some (.int .i64 L[i].member) ∧ w.cell? ⟨r, i * 5 + 1, none⟩ = some L[i].tv ∧ w.cell? ⟨r, i * 5 + 2, none⟩ = some (.int .i64 L[i].til) ∧ w.cell? ⟨r, i * 5 + 3, none⟩ = some (.bool L[i].joined) ∧ w.cell? ⟨r, i * 5 + 4, none⟩ = some L[i].pv := by
  subst hv
  have hc : ∀ j, j < 5 → w.cell? ⟨r, i * 5 + j, none⟩ = (oneEnc L[i])[j]? := fun j hj => by
    rw [h.row.cellAt (i * 5 + j) (by omega)]
    exact flatMap_get oneEnc 5 oneEnc_len L i j hi hj
  exact ⟨hc 0 (by omega), hc 1 (by omega), hc 2 (by omega), hc 3 (by omega), hc 4 (by omega)⟩
/-- Where its row is. -/
theorem RGrpAt.form {w : World} {F : Nat → Prop} {b : Nat} {g : GroupC} {v : Value} {L : List OneV} (h : RGrpAt w F b g v L) : (L = [] ∧ v = .slice none 0 0) ∨ ∃ r cap, v = .slice (some ⟨r, 0, none⟩) L.length cap ∧ r ≠ b ∧ r < w.heap.size ∧ L.length ≤ cap ∧ F r := by
  rcases h.row.2 with ⟨h1, h2⟩ | ⟨r, cap, cur, h1, _, hg, hc, _⟩
  · exact .inl ⟨List.eq_nil_of_length_eq_zero h2, h1⟩
  · have h3 := h.own r (by rw [h1]; rfl)
    exact .inr ⟨r, cap, h1, h3.2, block_lt hg, hc, h3.1⟩
theorem RGrpAt.head {w w' : World} {F : Nat → Prop} {b : Nat} {g g' : GroupC} {v : Value} {L : List OneV} (h : RGrpAt w F b g v L) (hk : Keeps (fun k => k = b) w w') (hblk : w'.heap[b]? = some (.cells (gCells g' v) 55 (0, 0))) (ho : g'.ones = g.ones) : RGrpAt w' F b g' v L :=
  ⟨hblk, own_keep hk h.row (fun k e => (h.own k e).2), h.fb, fun k e => Nat.lt_of_lt_of_le (h.lt k e) hk.size, h.own, by rw [ho]; exact h.ones, fun x hx =>
    ⟨(h.out x hx).1.keep still_str hk (fun k _ e => e.2.1) (fun _ _ e => e), (h.out x hx).2.keep still_part hk (fun k _ e => e.2.1) (fun _ _ e => e)⟩⟩
/-- The first k members are free. -/
structure RFreeMid (w wr : World) (b : Nat) (g : GroupC) (v : Value) (L : List OneV) (k : Nat) : Prop where
  row : wr.ownsRow 0 98 5 v L.length ((freeTo L k).flatMap oneEnc)
  keep : Keeps (fun k => v.ownBlock = some k) w wr
theorem RFreeMid.next {w wr wx : World} {b r cap : Nat} {g : GroupC} {L : List OneV} {k : Nat} (h : RFreeMid w wr b g (.slice (some ⟨r, 0, none⟩) L.length cap) L k) (hk : k < L.length)
    (hx : wx.heap = ((wr.setCell ⟨r, k * 5 + 3, none⟩ (.bool false)).setCell ⟨r, k * 5 + 4, none⟩ (.slice none 0 0)).heap ∨ wx.heap = ((wr.setCell ⟨r, k * 5 + 4, none⟩ (.slice none 0 0)).setCell ⟨r, k * 5 + 3, none⟩ (.bool false)).heap)
    (ht : wx.os = wr.os ∧ wx.tape = wr.tape ∧ wx.output = wr.output) : RFreeMid w wx b g (.slice (some ⟨r, 0, none⟩) L.length cap) L (k + 1) := by
  have hk1 : Keeps (fun k => (Value.slice (some ⟨r, 0, none⟩) L.length cap).ownBlock = some k) w ((wr.setCell ⟨r, k * 5 + 3, none⟩ (.bool false)).setCell ⟨r, k * 5 + 4, none⟩ (.slice none 0 0)) := (h.keep.setC _ _ (fun _ => rfl)).setC _ _ (fun _ => rfl)
  have hk2 : Keeps (fun k => (Value.slice (some ⟨r, 0, none⟩) L.length cap).ownBlock = some k) w ((wr.setCell ⟨r, k * 5 + 4, none⟩ (.slice none 0 0)).setCell ⟨r, k * 5 + 3, none⟩ (.bool false)) := (h.keep.setC _ _ (fun _ => rfl)).setC _ _ (fun _ => rfl)
  have h1 := ((h.row.stored (k * 5 + 3) (.bool false)).1.stored (k * 5 + 4) (.slice none 0 0)).1
  have h2 := ((h.row.stored (k * 5 + 4) (.slice none 0 0)).1.stored (k * 5 + 3) (.bool false)).1
  rw [freeTo_cells hk] at h1
  rw [List.set_comm _ _ (by omega), freeTo_cells hk] at h2
  obtain ⟨t1, t2, t3⟩ := ht
  rcases hx with hx | hx
  · exact ⟨⟨h1.1, by rw [hx]; exact h1.2⟩, ⟨t1.trans hk1.os, t2.trans hk1.tape, t3.trans hk1.output, by rw [hx]; exact hk1.size, fun j a b => by rw [hx]; exact hk1.block j a b⟩⟩
  · exact ⟨⟨h2.1, by rw [hx]; exact h2.2⟩, ⟨t1.trans hk2.os, t2.trans hk2.tape, t3.trans hk2.output, by rw [hx]; exact hk2.size, fun j a b => by rw [hx]; exact hk2.block j a b⟩⟩
end Go.Proofs.Ytlmajhkhlmkeiaa

/-
  The reference's time, rises, find, empty, all.
-/
namespace Go.Proofs.Ytlmajhkhlmkeiaa
open Go.RowKit Go.Shelf Fx

set_option maxRecDepth 100000 in
set_option maxHeartbeats 1000000 in
theorem rtime_any (now : Int) (w : World) : Calls Try.prog 57 #[.int .i64 now] w fun e w' => Same w e (.bool (timeOk now)) w' := by
  by_cases h1 : 0 ≤ now
  · by_cases h2 : now ≤ 1099511627776
    · go_enter Try.func57, Try.ntmps57
      go_wp2
      go_ret
      exact ⟨by simp [timeOk, h1, h2], Keeps.refl _ _⟩
    · go_enter Try.func57, Try.ntmps57
      go_wp2
      go_ret
      exact ⟨by simp [timeOk, h1, h2], Keeps.refl _ _⟩
  · go_enter Try.func57, Try.ntmps57
    go_wp2
    go_ret
    exact ⟨by simp [timeOk]; omega, Keeps.refl _ _⟩
set_option maxRecDepth 100000 in
set_option maxHeartbeats 1000000 in
theorem rises15 (w0 w : World) (sa : Option Addr) (sc : Nat) (l : List ByteArray) (hs : SlAt 1 rStr w0 sa sc l) (hb : Below w0.heap.size w0 w) :
    Calls Try.prog 58 #[.slice sa l.length sc] w fun e w' => e = .returned (.bool (chain sltB l)) ∧ ∃ n, w' = w.drewN n := by
  have hm := hs.len
  have HS := Lib.hid hs
  have HB := Lib.hid hb
  clear hs hb
  go_enter Try.func58, Try.ntmps58
  go_wp2
  go_loopw [3] (fun i wr => ∃ k : Nat, i = .int .i64 (k + 1 : Int) ∧ k ≤ l.length ∧ (∀ j (h : j + 1 < l.length), j < k → sltB l[j] l[j + 1] = true) ∧ ∃ n, wr = w.drewN n) (fun i _ => l.length - (intOf i).toNat)
  case atStart => exact ⟨0, rfl, by omega, fun j _ h => by omega, 0, rfl⟩
  case round =>
    obtain ⟨k, rfl, hk, hq, hn⟩ := hrel
    have HQ := Lib.hid hq
    have hbr : Below w0.heap.size w0 wr := by
      obtain ⟨n, rfl⟩ := hn
      exact ⟨HB.out.os, HB.out.tape, HB.out.output, HB.out.size, HB.out.block⟩
    have HK := Lib.hid hn
    clear hq hn
    by_cases hlt : k + 1 < l.length
    · obtain ⟨b, off, rfl, hr'⟩ := HS.out.row hlt
      obtain ⟨c0, hbl⟩ := str_cells hr' hbr k (by omega)
      obtain ⟨d0, _⟩ := str_cells hr' hbr (k + 1) hlt
      generalize hx : l[k] = x at c0
      generalize hy : l[k + 1] = y at d0
      have HX := Lib.hid hx
      have HY := Lib.hid hy
      clear hx hy
      clear hr' hbr
      have hI : IntKind.i64.wrap (k : Int) = k := IntWalk.i64_in _ (by omega)
      have i0 : (0 : Int) ≤ k := by omega
      have i1 : (k : Int) < l.length := by omega
      have i2 : (0 : Int) ≤ (k : Int) + 1 := by omega
      have i3 : (k : Int) + 1 < l.length := by omega
      have i4 : ((k : Int) + 1).toNat = k + 1 := by omega
      by_cases hd : sltB x y = true
      · have HD := Lib.hid hd
        have hd' : Op.bytesLess x.toList y.toList = true := hd
        go_wp2_with fail
        go_quiet (fail)
        go_wp2
        go_roundw
        case rel =>
          obtain ⟨n, rfl⟩ := HK.out
          exact ⟨k + 1, by go_num, by omega, fun j h hj => (Nat.lt_succ_iff_lt_or_eq.1 hj).elim (HQ.out j h) fun e => by subst e; rw [HX.out, HY.out]; exact HD.out, _, World.drewN_drewN _ _ _⟩
        case measure => simp [intOf]; omega
      · have HD : Hid (chain sltB l = false) := chain_false _ _ k hlt (by rw [HX.out, HY.out]; simpa using hd)
        have hd' : Op.bytesLess x.toList y.toList = false := by simpa [sltB] using hd
        go_wp2_with fail
        go_quiet (fail)
        go_wp2
        go_ret
        rw [HD.out]
        obtain ⟨n, rfl⟩ := HK.out
        exact ⟨rfl, _, World.drewN_drewN _ _ _⟩
    · have HD : Hid (chain sltB l = true) := (chain_iff _ _).2 (fun j h => HQ.out j h (lt_of_not' hlt h))
      clear hbr
      go_wp2
      go_ret
      rw [HD.out]
      exact ⟨rfl, HK.out⟩
def RFound (L : List OneV) (m v : Int) : Prop := (∃ i : Nat, ∃ hi : i < L.length, v = i ∧ L[i].member = m) ∨ (v = -1 ∧ ∀ i (h : i < L.length), L[i].member ≠ m)
set_option maxRecDepth 100000 in
set_option maxHeartbeats 1000000 in
theorem rfind_any {w : World} {F : Nat → Prop} {b : Nat} {g : GroupC} {v : Value} {L : List OneV} (m : Int) (h : RGrpAt w F b g v L) (hl : L.length ≤ 1000) :
    Calls Try.prog 59 #[.pointer (some ⟨b, 0, none⟩), .int .i64 m] w fun e w' => ∃ x, e = .returned (.int .i64 x) ∧ w' = w ∧ RFound L m x := by
  have hb := block_lt h.blk
  have hx : w.cell? ⟨b, 6, none⟩ = some v := block_cell h.blk 6
  have HH := Lib.hid h
  rcases h.form with ⟨rfl, rfl⟩ | ⟨r, cap, rfl, hrb, hrl, hcap, hFr⟩
  · clear h
    go_enter Try.func59, Try.ntmps59
    go_wp2
    refine wp_loop_once ?_
    go_wp2
    go_ret
    exact ⟨_, rfl, rfl, .inr ⟨rfl, fun i hi => absurd hi (Nat.not_lt_zero _)⟩⟩
  · clear h
    go_enter Try.func59, Try.ntmps59
    go_wp2
    go_loopw [5] (fun i wr => ∃ k : Nat, i = .int .i64 k ∧ k ≤ L.length ∧ (∀ j (hj : j < L.length), j < k → L[j].member ≠ m) ∧ wr = w) (fun i _ => L.length - (intOf i).toNat)
    case atStart => exact ⟨0, rfl, by omega, fun _ _ h => absurd h (Nat.not_lt_zero _), rfl⟩
    case round =>
      obtain ⟨k, rfl, hk, hq, rfl⟩ := hrel
      have HQ := Lib.hid hq
      clear hq
      by_cases hlt : k < L.length
      · have c0 := (HH.out.cell rfl k hlt).1
        have i0 : (0 : Int) ≤ k := by omega
        have i1 : (k : Int) < L.length := by omega
        have HLT := Lib.hid hlt
        by_cases he : L[k].member = m
        · have HE := Lib.hid he
          generalize L[k].member = x at c0 he
          subst he
          clear hlt
          go_wp2
          go_ret
          exact ⟨_, rfl, rfl, .inl ⟨k, HLT.out, rfl, HE.out⟩⟩
        · have HE := Lib.hid he
          generalize L[k].member = x at c0 he
          clear hlt
          go_wp2
          go_roundw
          case rel => exact ⟨k + 1, by go_num, HLT.out, fun j hj h2 => (Nat.lt_succ_iff_lt_or_eq.1 h2).elim (HQ.out j hj) fun e => by subst e; exact HE.out, by first | rfl | trivial⟩
          case measure => have := HLT.out; simp [intOf]; omega
      · obtain rfl : k = L.length := by omega
        go_wp2
        go_ret
        exact ⟨_, rfl, rfl, .inr ⟨rfl, fun i hi => HQ.out i hi hi⟩⟩
def emptyG (g : GroupC) : GroupC := if g.ones.length = 0 then enterG g 0 0 else g
set_option maxRecDepth 100000 in
set_option maxHeartbeats 1000000 in
theorem rempty_any {w : World} {F : Nat → Prop} {b : Nat} {g : GroupC} {v : Value} {L : List OneV} (h : RGrpAt w F b g v L) :
    Calls Try.prog 72 #[.pointer (some ⟨b, 0, none⟩)] w fun e w' => e = .returned (.bool (decide (L.length = 0))) ∧ RGrpAt w' F b (emptyG g) v L ∧ Keeps (fun k => k = b) w w' := by
  have hb := block_lt h.blk
  have hx : w.cell? ⟨b, 6, none⟩ = some v := block_cell h.blk 6
  have hlen : g.ones.length = L.length := by rw [← h.ones]; simp
  have c2 : w.cell? ⟨b, 2, none⟩ = some (.int .i64 g.phase) := block_cell h.blk 2
  have c5 : w.cell? ⟨b, 5, none⟩ = some (.int .i64 g.til) := block_cell h.blk 5
  have f2 := block_free h.blk 2
  have f5 := block_free h.blk 5
  have HK : Hid (Keeps (fun k => k = b) w ((w.setCell ⟨b, 2, none⟩ (.int .i64 0)).setCell ⟨b, 5, none⟩ (.int .i64 0))) := ((Keeps.refl (fun k => k = b) w).setC 2 _ (fun _ => rfl)).setC 5 _ (fun _ => rfl)
  have HB : Hid (((w.setCell ⟨b, 2, none⟩ (.int .i64 0)).setCell ⟨b, 5, none⟩ (.int .i64 0)).heap[b]? = some (.cells (gCells (enterG g 0 0) v) 55 (0, 0))) := setCell_block (setCell_block h.blk 2 _) 5 _
  have HH := Lib.hid h
  by_cases h0 : L.length = 0
  · have he : emptyG g = enterG g 0 0 := if_pos (by omega)
    have hd : decide (L.length = 0) = true := by simpa using h0
    rw [he, hd]
    have hv : ∃ a c, v = .slice a 0 c := by
      rcases h.form with ⟨_, rfl⟩ | ⟨r, cap, rfl, _⟩
      · exact ⟨_, _, rfl⟩
      · rw [h0]; exact ⟨_, _, rfl⟩
    obtain ⟨a, c, rfl⟩ := hv
    clear h he hd hlen h0
    go_enter Try.func72, Try.ntmps72
    go_wp2
    go_ret
    exact ⟨rfl, HH.out.head HK.out HB.out rfl, HK.out⟩
  · have he : emptyG g = g := if_neg (by omega)
    have hd : decide (L.length = 0) = false := by simpa using h0
    rw [he, hd]
    have hv : ∃ a c, v = .slice a L.length c := by
      rcases h.form with ⟨e, rfl⟩ | ⟨r, cap, rfl, _⟩
      · rw [e] at h0; exact absurd rfl h0
      · exact ⟨_, _, rfl⟩
    obtain ⟨a, c, rfl⟩ := hv
    have hp : (0 : Int) < L.length := by omega
    clear h he hd hlen h0
    go_enter Try.func72, Try.ntmps72
    go_wp2
    go_ret
    exact ⟨rfl, HH.out, Keeps.refl _ _⟩
set_option maxRecDepth 100000 in
set_option maxHeartbeats 1000000 in
theorem rall_any {w : World} {F : Nat → Prop} {b : Nat} {g : GroupC} {v : Value} {L : List OneV} (h : RGrpAt w F b g v L) (hl : L.length ≤ 1000) :
    Calls Try.prog 61 #[.pointer (some ⟨b, 0, none⟩)] w fun e w' => e = .returned (.bool (g.ones.all (·.joined))) ∧ w' = w := by
  have hb := block_lt h.blk
  have hx : w.cell? ⟨b, 6, none⟩ = some v := block_cell h.blk 6
  have HH := Lib.hid h
  have hall : g.ones.all (·.joined) = L.all (·.joined) := by rw [← h.ones, List.all_map]; rfl
  rw [hall]
  rcases h.form with ⟨rfl, rfl⟩ | ⟨r, cap, rfl, hrb, hrl, hcap, hFr⟩
  · clear h hall
    go_enter Try.func61, Try.ntmps61
    go_wp2
    refine wp_loop_once ?_
    go_wp2
    go_ret
    exact ⟨rfl, rfl⟩
  · clear h hall
    go_enter Try.func61, Try.ntmps61
    go_wp2
    go_loopw [3] (fun i wr => ∃ k : Nat, i = .int .i64 k ∧ k ≤ L.length ∧ (∀ j (hj : j < L.length), j < k → L[j].joined = true) ∧ wr = w) (fun i _ => L.length - (intOf i).toNat)
    case atStart => exact ⟨0, rfl, by omega, fun _ _ h => absurd h (Nat.not_lt_zero _), rfl⟩
    case round =>
      obtain ⟨k, rfl, hk, hq, rfl⟩ := hrel
      have HQ := Lib.hid hq
      clear hq
      by_cases hlt : k < L.length
      · have c3 := (HH.out.cell rfl k hlt).2.2.2.1
        have i0 : (0 : Int) ≤ k := by omega
        have i1 : (k : Int) < L.length := by omega
        have HLT := Lib.hid hlt
        generalize he : L[k].joined = jv at c3
        have HE := Lib.hid he
        clear hlt he
        cases jv with
        | false =>
          go_wp2
          go_ret
          refine ⟨?_, rfl⟩
          have : L.all (·.joined) = false := by
            rw [List.all_eq_false]
            exact ⟨_, List.getElem_mem HLT.out, fun e => Bool.false_ne_true (HE.out.symm.trans e)⟩
          rw [this]
          rfl
        | true =>
          go_wp2
          go_roundw
          case rel => exact ⟨k + 1, by go_num, HLT.out, fun j hj h2 => (Nat.lt_succ_iff_lt_or_eq.1 h2).elim (HQ.out j hj) fun e => by subst e; exact HE.out, by first | rfl | trivial⟩
          case measure => have := HLT.out; simp [intOf]; omega
      · obtain rfl : k = L.length := by omega
        go_wp2
        go_ret
        refine ⟨?_, rfl⟩
        have : L.all (·.joined) = true := by
          rw [List.all_eq_true]
          intro x hx
          obtain ⟨i, hi, rfl⟩ := List.mem_iff_getElem.1 hx
          exact HQ.out i hi hi
        rw [this]
        rfl
end Go.Proofs.Ytlmajhkhlmkeiaa

/-
  The reference's anew, close, drop, went.
-/
namespace Go.Proofs.Ytlmajhkhlmkeiaa
open Go.RowKit Go.Shelf Fx

theorem infoROne : (Try.prog.info? 98).map (fun i => (i.zero, i.size, i.bytes)) = some (some (.agg #[.int .i64 0, .slice none 0 0, .int .i64 0, .bool false, .slice none 0 0]), 5, 72) := by kernel_rfl
theorem RGrpAt.len {w : World} {F : Nat → Prop} {b : Nat} {g : GroupC} {v : Value} {L : List OneV} (h : RGrpAt w F b g v L) : g.ones.length = L.length := by rw [← h.ones]; simp
set_option maxRecDepth 100000 in
set_option maxHeartbeats 2000000 in
theorem ranew_any (w : World) (F : Nat → Prop) (b : Nat) (g : GroupC) (v : Value) (L : List OneV) (now : Int) (h : RGrpAt w F b g v L) (hl : L.length ≤ 1000) (hn : 0 ≤ now ∧ now ≤ 1099511627776) (hr : 0 ≤ g.rebalance ∧ g.rebalance ≤ 100000) :
    Calls Try.prog 60 #[.pointer (some ⟨b, 0, none⟩), .int .i64 now] w fun e w' => e = .returned (.tuple #[]) ∧ RGrpPost w F b (anewG g now) w' := by
  have hlen := h.len
  have HE := Lib.hid (rempty_any h)
  have HF := Lib.hid h.fb
  by_cases h0 : L.length = 0
  · have he : emptyG g = anewG g now := by unfold emptyG anewG; rw [if_pos (by omega), if_pos (by omega)]
    have hd : decide (L.length = 0) = true := by simpa using h0
    have HE2 : Hid (Calls Try.prog 72 #[.pointer (some ⟨b, 0, none⟩)] w fun e w' => e = .returned (.bool true) ∧ RGrpAt w' F b (anewG g now) v L ∧ Keeps (fun k => k = b) w w') := by rw [← he, ← hd]; exact HE.out
    clear h hlen HE he hd h0
    go_enter Try.func60, Try.ntmps60
    go_wp2_with fail
    refine HE2.out.mono ?_
    rintro e w1 ⟨rfl, hg, hk⟩
    have HG := Lib.hid hg
    have HK := Lib.hid hk
    clear hg hk
    go_wp2
    (try simp only [Exit.inBlock, Exit.then])
    refine bodyPost_ret (results_none rfl _ _ _) rfl ?_
    exact ⟨rfl, F, ⟨_, _, HG.out⟩, fun k e => .inl e, HK.out.mono fun k _ e => by subst e; exact HF.out⟩
  · have he : emptyG g = g := by unfold emptyG; rw [if_neg (by omega)]
    have hd : decide (L.length = 0) = false := by simpa using h0
    have HE2 : Hid (Calls Try.prog 72 #[.pointer (some ⟨b, 0, none⟩)] w fun e w' => e = .returned (.bool false) ∧ RGrpAt w' F b g v L ∧ Keeps (fun k => k = b) w w') := by
      have := HE.out
      rw [he, hd] at this
      exact this
    rcases h.form with ⟨rfl, rfl⟩ | ⟨r, cap, rfl, hrb, hrl, hcap, hFr⟩
    · exact absurd rfl h0
    · have HL0 : Hid (0 < L.length) := by show 0 < L.length; omega
      clear h hlen HE he hd h0 hrl
      go_enter Try.func60, Try.ntmps60
      go_wp2_with fail
      refine HE2.out.mono ?_
      rintro e w1 ⟨rfl, hg, hk⟩
      have hb := block_lt hg.blk
      have c1 : w1.cell? ⟨b, 1, none⟩ = some (.int .i64 g.rebalance) := block_cell hg.blk 1
      have c2 : w1.cell? ⟨b, 2, none⟩ = some (.int .i64 g.phase) := block_cell hg.blk 2
      have c5 : w1.cell? ⟨b, 5, none⟩ = some (.int .i64 g.til) := block_cell hg.blk 5
      have f2 := block_free hg.blk 2
      have f5 := block_free hg.blk 5
      have hk2 : Keeps (fun k => k = b) w1 ((w1.setCell ⟨b, 2, none⟩ (.int .i64 1)).setCell ⟨b, 5, none⟩ (.int .i64 (now + g.rebalance))) := ((Keeps.refl (fun k => k = b) w1).setC 2 _ (fun _ => rfl)).setC 5 _ (fun _ => rfl)
      have hg2 := hg.head (g' := enterG g 1 (now + g.rebalance)) hk2 (setCell_block (setCell_block hg.blk 2 _) 5 _) rfl
      have HG := Lib.hid hg2
      have HK1 := Lib.hid (hk.trans hk2 (fun _ _ e => e))
      have hx1 : ((w1.setCell ⟨b, 2, none⟩ (.int .i64 1)).setCell ⟨b, 5, none⟩ (.int .i64 (now + g.rebalance))).cell? ⟨b, 6, none⟩ = some (.slice (some ⟨r, 0, none⟩) L.length cap) := block_cell hg2.blk 6
      have hb1 := block_lt hg2.blk
      have hmid0 := Lib.hid (show RFreeMid ((w1.setCell ⟨b, 2, none⟩ (.int .i64 1)).setCell ⟨b, 5, none⟩ (.int .i64 (now + g.rebalance))) _ b g (.slice (some ⟨r, 0, none⟩) L.length cap) L 0 from ⟨by rw [freeTo_zero]; exact hg2.row, Keeps.refl _ _⟩)
      clear hg hk hk2 hg2
      generalize hrb2 : g.rebalance = rb at c1 hr HG HK1 hx1 hb1 hmid0
      have HRB := Lib.hid hrb2
      clear hrb2
      go_wp2
      generalize hw2 : (w1.setCell ⟨b, 2, none⟩ (.int .i64 1)).setCell ⟨b, 5, none⟩ (.int .i64 (now + rb)) = w2 at HG HK1 hx1 hb1 hmid0
      clear hw2 c1 c2 c5 f2 f5 hb
      go_loopw [4] (fun i wr => ∃ k : Nat, i = .int .i64 k ∧ k ≤ L.length ∧ RFreeMid w2 wr b g (.slice (some ⟨r, 0, none⟩) L.length cap) L k) (fun i _ => L.length - (intOf i).toNat)
      case atStart => exact ⟨0, rfl, by omega, hmid0.out⟩
      case round =>
        obtain ⟨k, rfl, hk, hmid⟩ := hrel
        have HM := Lib.hid hmid
        by_cases hlt : k < L.length
        · have hx2 := hmid.keep.cell' hx1 (fun e => hrb (by simpa [Value.ownBlock] using e))
          have hb2 := Nat.lt_of_lt_of_le hb1 hmid.keep.size
          have hcell : ∀ j, j < 5 → wr.cell? ⟨r, k * 5 + j, none⟩ = (oneEnc L[k])[j]? := fun j hj => by
            rw [hmid.row.cellAt (k * 5 + j) (by omega), flatMap_get oneEnc 5 oneEnc_len (freeTo L k) k j (by rw [freeTo_len]; exact hlt) hj, freeTo_at hlt]
          have c3 : wr.cell? ⟨r, k * 5 + 3, none⟩ = some (.bool L[k].joined) := hcell 3 (by omega)
          have c4 : wr.cell? ⟨r, k * 5 + 4, none⟩ = some L[k].pv := hcell 4 (by omega)
          have f3 := hmid.row.frozenAt (k * 5 + 3)
          have f4 := hmid.row.frozenAt (k * 5 + 4)
          have hrl2 := own_lt hmid.row rfl
          have hbr : b ≠ r := fun e => hrb e.symm
          clear hmid hcell
          generalize L[k].joined = q3 at c3
          generalize L[k].pv = q4 at c4
          have i0 : (0 : Int) ≤ k := by omega
          have i1 : (k : Int) < L.length := by omega
          go_wp2
          go_roundw
          case rel => exact ⟨k + 1, by go_num, by omega, HM.out.next hlt (by first | exact .inl rfl | exact .inr rfl) ⟨rfl, rfl, rfl⟩⟩
          case measure => simp [intOf]; omega
        · obtain rfl : k = L.length := by omega
          have hx2 := hmid.keep.cell' hx1 (fun e => hrb (by simpa [Value.ownBlock] using e))
          have hb2 := Nat.lt_of_lt_of_le hb1 hmid.keep.size
          clear hmid
          go_wp2
          go_end0
          have e : anewG g now = { enterG g 1 (now + rb) with ones := g.ones.map freeO } := by rw [← HRB.out]; exact if_neg (by have := HL0.out; have h9 : g.ones.length = L.length := HG.out.len; omega)
          have hrow := HM.out.row
          rw [freeTo_all] at hrow
          have hstep := HG.out.step (g' := anewG g now) (L' := L.map freeV) HM.out.keep (fun k e => .inr e) (by
            rw [e]
            exact (HM.out.keep.block b (block_lt HG.out.blk) (fun e => hrb (by simpa [Value.ownBlock] using e))).trans HG.out.blk) (by rw [List.length_map]; exact hrow) (fun k e => .inl e)
            (by
              have h9 : L.map OneV.core = g.ones := HG.out.ones
              rw [e]
              show (L.map freeV).map OneV.core = g.ones.map freeO
              rw [← h9, List.map_map, List.map_map]
              rfl)
            (fun x hx => by obtain ⟨y, hy, rfl⟩ := List.mem_map.1 hx; exact .inl ⟨y, hy, rfl, rfl⟩)
            (fun x hx => by obtain ⟨y, hy, rfl⟩ := List.mem_map.1 hx; exact .inr (Out.nil _ _ _ _))
          refine ⟨rfl, _, ⟨_, _, hstep⟩, fun k e => e.elim .inl fun e => .inr (Nat.le_trans HK1.out.size e.1), ?_⟩
          exact (HK1.out.mono (S1 := F) fun k _ e => by subst e; exact HG.out.fb).trans HM.out.keep fun k _ e => (HG.out.own k e).1
end Go.Proofs.Ytlmajhkhlmkeiaa

/-
  The reference's close.
-/
namespace Go.Proofs.Ytlmajhkhlmkeiaa
open Go.RowKit Go.Shelf Fx

/-- The row that close makes: of the first k members those that have joined. -/
structure CloseMid (w wr : World) (L : List OneV) (k : Nat) (nv : Value) (n : Nat) : Prop where
  len : n = ((L.take k).filter (·.joined)).length
  row : wr.ownsRow w.heap.size 98 5 nv n (((L.take k).filter (·.joined)).flatMap oneEnc)
  keep : K0 w wr
theorem CloseMid.start (w : World) (L : List OneV) : CloseMid w w L 0 (.slice none 0 0) 0 := ⟨rfl, World.ownsRow_nil _ _ _ _, Keeps.refl _ _⟩
theorem CloseMid.skip {w wr : World} {L : List OneV} {k : Nat} {nv : Value} {n : Nat} (h : CloseMid w wr L k nv n) (hk : k < L.length) (hj : L[k].joined = false) : CloseMid w wr L (k + 1) nv n := by
  have e : (L.take (k + 1)).filter (·.joined) = (L.take k).filter (·.joined) := by
    rw [List.take_succ_eq_append_getElem hk, List.filter_append, List.filter_cons_of_neg (by show ¬ L[k].joined = true; exact fun e => Bool.false_ne_true (hj.symm.trans e))]
    simp
  exact ⟨by rw [e]; exact h.len, by rw [e]; exact h.row, h.keep⟩
theorem CloseMid.take {w wr w4 : World} {L : List OneV} {k : Nat} {nv : Value} {n g1 cap1 : Nat} {o : Obj} {X : OneV} {xs : List Value} {tv pv : Value} (h : CloseMid w wr L k nv n) (hk : k < L.length) (hX : L[k] = X) (hjx : X.joined = true) (htv : X.tv = tv) (hpv : X.pv = pv) (hxs : ((L.take k).filter (·.joined)).flatMap oneEnc = xs)
    (hA : App1 (wr.alloc o) w.heap.size 98 5 nv n (xs ++ [.int .i64 X.member, tv, .int .i64 X.til, .bool true, pv]) g1 cap1 w4) :
    CloseMid w w4 L (k + 1) (.slice (some ⟨g1, 0, none⟩) (n + 1) cap1) (n + 1) := by
  subst hX hxs htv hpv
  have hj : L[k].joined = true := hjx
  have e : (L.take (k + 1)).filter (·.joined) = (L.take k).filter (·.joined) ++ [L[k]] := by
    rw [List.take_succ_eq_append_getElem hk, List.filter_append, List.filter_cons_of_pos (by show L[k].joined = true; exact hj)]
    simp
  refine ⟨by rw [e, List.length_append, ← h.len]; rfl, ?_, h.keep.grown (grown_alloc hA.grown) (fun j e2 hlt => absurd (h.row.lt j e2).1 (by omega))⟩
  rw [e, List.flatMap_append, List.flatMap_cons, List.flatMap_nil, List.append_nil]
  have e9 : oneEnc L[k] = [.int .i64 L[k].member, L[k].tv, .int .i64 L[k].til, .bool true, L[k].pv] := by unfold oneEnc; rw [hj]
  rw [e9]
  exact hA.own
/-- Behind the loop: the new row stored. -/
theorem RGrpAt.fil {w wr : World} {F : Nat → Prop} {b : Nat} {g : GroupC} {v nv : Value} {L : List OneV} {n : Nat} (h : RGrpAt w F b g v L) (hm : CloseMid w wr L L.length nv n) :
    RGrpAt (wr.setCell ⟨b, 6, none⟩ nv) (fun k => F k ∨ (w.heap.size ≤ k ∧ k < (wr.setCell ⟨b, 6, none⟩ nv).heap.size)) b (filG g fun o => !o.joined) nv (L.filter (·.joined)) := by
  have hb := block_lt h.blk
  have hk : Keeps (fun k => k = b) w (wr.setCell ⟨b, 6, none⟩ nv) := (hm.keep.mono (S1 := fun k => k = b) (fun _ _ e => e.elim)).setC 6 _ (fun _ => rfl)
  have hrow := hm.row
  have hlen := hm.len
  rw [List.take_length] at hrow hlen
  refine h.step hk (fun k e => .inl e) ?_ ?_ (fun k e => .inr (hrow.lt k e).1) ?_ (fun x hx => .inl ⟨x, (List.mem_filter.1 hx).1, rfl, rfl⟩) (fun x hx => .inl ⟨x, (List.mem_filter.1 hx).1, rfl, rfl⟩)
  · exact setCell_block ((hm.keep.block b hb (fun e => e)).trans h.blk) 6 _
  · rw [← hlen]
    exact own_base (own_keep ((Keeps.refl (fun k => k = b) wr).setC 6 _ (fun _ => rfl)) hrow (fun k e e2 => by have := (hrow.lt k e).1; omega)) (Nat.zero_le _)
  · show _ = (g.ones.filter fun o => !(!o.joined))
    rw [← h.ones, List.filter_map]
    congr 1
    apply List.filter_congr
    intro x _
    simp [OneV.core]
set_option maxRecDepth 100000 in
set_option maxHeartbeats 2000000 in
theorem rclose_any (w : World) (F : Nat → Prop) (b : Nat) (g : GroupC) (v : Value) (L : List OneV) (now : Int) (h : RGrpAt w F b g v L) (hl : L.length ≤ 1000) (hn : 0 ≤ now ∧ now ≤ 1099511627776) (hr : 0 ≤ g.rebalance ∧ g.rebalance ≤ 100000) (hgn : 0 ≤ g.gen ∧ g.gen ≤ 1152921504606846976) :
    Calls Try.prog 62 #[.pointer (some ⟨b, 0, none⟩), .int .i64 now] w fun e w' => e = .returned (.tuple #[]) ∧ RGrpPost w F b (closeG g now) w' := by
  have hb := block_lt h.blk
  have hx : w.cell? ⟨b, 6, none⟩ = some v := block_cell h.blk 6
  have HH := Lib.hid h
  have HFO := Lib.hid h.form
  have hvl : ∃ a c, v = .slice a L.length c := by
    rcases h.form with ⟨rfl, rfl⟩ | ⟨r, cap, rfl, _⟩
    · exact ⟨_, _, rfl⟩
    · exact ⟨_, _, rfl⟩
  obtain ⟨va, vc, rfl⟩ := hvl
  clear h
  go_enter Try.func62, Try.ntmps62
  go_wp2
  go_loopw [4, 5] (fun nv i wr => ∃ (k n : Nat) (na : Option Addr) (nc : Nat), i = .int .i64 k ∧ k ≤ L.length ∧ nv = .slice na n nc ∧ CloseMid w wr L k (.slice na n nc) n) (fun _ i _ => L.length - (intOf i).toNat)
  case atStart => exact ⟨0, 0, none, 0, rfl, by omega, rfl, CloseMid.start w L⟩
  case round =>
    obtain ⟨k, n, na, nc, rfl, hk, rfl, hmid⟩ := hrel
    have HM := Lib.hid hmid
    have hx2 := hmid.keep.cell' hx (fun e => e)
    have hb2 := Nat.lt_of_lt_of_le hb hmid.keep.size
    by_cases hlt : k < L.length
    · rcases HFO.out with ⟨e, _⟩ | ⟨r, cap, ev, hrb, hrl, hcap, hFr⟩
      · rw [e] at hlt; exact absurd hlt (Nat.not_lt_zero _)
      · cases ev
        have hcs := HH.out.cell rfl k hlt
        have c0 := hmid.keep.cell' hcs.1 (fun e => e)
        have c1 := hmid.keep.cell' hcs.2.1 (fun e => e)
        have c2 := hmid.keep.cell' hcs.2.2.1 (fun e => e)
        have c3 := hmid.keep.cell' hcs.2.2.2.1 (fun e => e)
        have c4 := hmid.keep.cell' hcs.2.2.2.2 (fun e => e)
        have hrl2 := Nat.lt_of_lt_of_le hrl hmid.keep.size
        have hrow := hmid.row
        have hsz := hmid.keep.size
        have hn20 : n ≤ 1000 := by
          have h1 := hmid.len
          have h2 := List.length_filter_le (fun x : OneV => x.joined) (L.take k)
          have h3 : (L.take k).length ≤ L.length := by rw [List.length_take]; omega
          omega
        generalize hX : L[k] = X at c0 c1 c2 c3 c4
        have HX := Lib.hid hX
        have i0 : (0 : Int) ≤ k := by omega
        have i1 : (k : Int) < L.length := by omega
        generalize hxs : ((L.take k).filter (·.joined)).flatMap oneEnc = xs at hrow
        have HXS := Lib.hid hxs
        have hout := HH.out.out _ (List.getElem_mem hlt)
        rw [hX] at hout
        obtain ⟨⟨ta, tc, htv, _⟩, ⟨pa, pc, hpv, _⟩⟩ := hout
        rw [htv] at c1
        rw [hpv] at c4
        have HTV := Lib.hid htv
        have HPV := Lib.hid hpv
        have HLT := Lib.hid hlt
        clear hmid hcs hX hxs htv hpv
        cases hj : X.joined with
        | false =>
          rw [hj] at c3
          have HJ := Lib.hid hj
          clear hj
          go_wp2
          go_roundw
          case rel => exact ⟨k + 1, n, na, nc, by go_num, HLT.out, rfl, HM.out.skip HLT.out ((congrArg OneV.joined HX.out).trans HJ.out)⟩
          case measure => have := HLT.out; simp [intOf]; omega
        | true =>
          rw [hj] at c3
          have HJ := Lib.hid hj
          clear hj
          go_wp2_with (at_builtin; refine wpList_app1 rfl rfl Try.underlying53 infoROne rfl (by decide) rfl (hrow.alloc _) rfl (heap_new _ _ _ rfl) rfl rfl ⟨by omega, by decide⟩ (by simp; omega) ?_; intro g1 cap1 w4 hA)
          have hq := HM.out.take HLT.out HX.out HJ.out HTV.out HPV.out HXS.out hA
          have HQ := Lib.hid hq
          clear hA hq
          go_roundw
          case rel => exact ⟨k + 1, n + 1, _, _, by go_num, HLT.out, rfl, HQ.out⟩
          case measure => have := HLT.out; simp [intOf]; omega
    · obtain rfl : k = L.length := by omega
      have hgf := HH.out.fil hmid
      have f6 := block_free ((hmid.keep.block b hb (fun e => e)).trans HH.out.blk) 6
      have HGF := Lib.hid hgf
      have HKB : Hid (Keeps (fun k => k = b) w (wr.setCell ⟨b, 6, none⟩ (.slice na n nc))) := (hmid.keep.mono (S1 := fun k => k = b) (fun _ _ e => e.elim)).setC 6 _ (fun _ => rfl)
      have HE := Lib.hid (rempty_any hgf)
      have hfl := hgf.len
      have HG9 : Hid ((filG g fun o => !o.joined).ones.length = (L.filter (·.joined)).length) := hfl
      clear hgf hmid hlt hfl
      by_cases h0 : (L.filter (·.joined)).length = 0
      · have he : emptyG (filG g fun o => !o.joined) = closeG g now := by unfold emptyG closeG; rw [if_pos (by rw [HG9.out]; exact h0), if_pos (by rw [HG9.out]; exact h0)]
        have hd : decide ((L.filter (·.joined)).length = 0) = true := by simpa using h0
        have HE2 := HE.out
        rw [he, hd] at HE2
        have HE3 := Lib.hid HE2
        clear HE2 HE he hd h0
        go_wp2_with fail
        refine HE3.out.mono ?_
        rintro e w3 ⟨rfl, hg3, hk3⟩
        have HG3 := Lib.hid hg3
        have HK3 := Lib.hid (HKB.out.trans hk3 (fun _ _ e => e))
        clear hg3 hk3
        go_wp2
        (try simp only [Exit.inBlock, Exit.then])
        refine bodyPost_ret (results_none rfl _ _ _) rfl ?_
        exact ⟨rfl, _, ⟨_, _, HG3.out⟩, fun k e => e.elim .inl (fun e => .inr e.1), HK3.out.mono fun k _ e => by subst e; exact HH.out.fb⟩
      · have he : emptyG (filG g fun o => !o.joined) = (filG g fun o => !o.joined) := by unfold emptyG; rw [if_neg (by rw [HG9.out]; exact h0)]
        have hce : closeG g now = enterG { filG g fun o => !o.joined with gen := g.gen + 1 } 2 (now + g.rebalance) := by unfold closeG; rw [if_neg (by rw [HG9.out]; exact h0)]
        have hd : decide ((L.filter (·.joined)).length = 0) = false := by simpa using h0
        have HE2 := HE.out
        rw [he, hd] at HE2
        have HE3 := Lib.hid HE2
        have HCE := Lib.hid hce
        clear HE2 HE he hd h0 hce
        go_wp2_with fail
        refine HE3.out.mono ?_
        rintro e w3 ⟨rfl, hg3, hk3⟩
        have hb3 := block_lt hg3.blk
        have d1 : w3.cell? ⟨b, 1, none⟩ = some (.int .i64 g.rebalance) := block_cell hg3.blk 1
        have d2 : w3.cell? ⟨b, 2, none⟩ = some (.int .i64 g.phase) := block_cell hg3.blk 2
        have d3 : w3.cell? ⟨b, 3, none⟩ = some (.int .i64 g.gen) := block_cell hg3.blk 3
        have d5 : w3.cell? ⟨b, 5, none⟩ = some (.int .i64 g.til) := block_cell hg3.blk 5
        have e2 := block_free hg3.blk 2
        have e3 := block_free hg3.blk 3
        have e5 := block_free hg3.blk 5
        have HG4 := Lib.hid (hg3.head (g' := enterG { filG g fun o => !o.joined with gen := g.gen + 1 } 2 (now + g.rebalance)) ((((Keeps.refl (fun k => k = b) w3).setC 3 (.int .i64 (g.gen + 1)) (fun _ => rfl)).setC 2 (.int .i64 2) (fun _ => rfl)).setC 5 (.int .i64 (now + g.rebalance)) (fun _ => rfl)) (setCell_block (setCell_block (setCell_block hg3.blk 3 _) 2 _) 5 _) rfl)
        have HK4 := Lib.hid (HKB.out.trans ((((Keeps.refl (fun k => k = b) w3).setC 3 (.int .i64 (g.gen + 1)) (fun _ => rfl)).setC 2 (.int .i64 2) (fun _ => rfl)).setC 5 (.int .i64 (now + g.rebalance)) (fun _ => rfl) |> fun h => hk3.trans h (fun _ _ e => e)) (fun _ _ e => e))
        clear hg3 hk3
        rw [← HCE.out] at HG4
        generalize g.rebalance = rb at d1 hr HG4 HK4
        generalize g.gen = gn at d3 hgn HG4 HK4
        go_wp2
        go_end0
        exact ⟨rfl, _, ⟨_, _, HG4.out⟩, fun k e => e.elim .inl (fun e => .inr e.1), HK4.out.mono fun k _ e => by subst e; exact HH.out.fb⟩
end Go.Proofs.Ytlmajhkhlmkeiaa

/-
  The reference's drop, went, Knows.
-/
namespace Go.Proofs.Ytlmajhkhlmkeiaa
open Go.RowKit Go.Shelf Fx

theorem RGrpAt.cells1 {w : World} {F : Nat → Prop} {b : Nat} {g : GroupC} {v : Value} {L : List OneV} (h : RGrpAt w F b g v L) : ∀ x ∈ L, ∀ u ∈ oneEnc x, u.oneCell' = true := fun x hx u hu => by
  obtain ⟨⟨ta, tc, htv, _⟩, ⟨pa, pc, hpv, _⟩⟩ := h.out x hx
  simp only [oneEnc, List.mem_cons, List.not_mem_nil, or_false] at hu
  rcases hu with rfl | rfl | rfl | rfl | rfl
  · rfl
  · rw [htv]; rfl
  · rfl
  · rfl
  · rw [hpv]; rfl
/-- A new row of some of its members, stored. -/
theorem RGrpAt.newrow {w wr : World} {F : Nat → Prop} {b : Nat} {g : GroupC} {v nv : Value} {L L' : List OneV} (h : RGrpAt w F b g v L) (hk0 : K0 w wr) (hrow : wr.ownsRow w.heap.size 98 5 nv L'.length (L'.flatMap oneEnc)) (hsub : ∀ x ∈ L', x ∈ L) {os : List OneC} (hones : L'.map OneV.core = os) :
    RGrpAt (wr.setCell ⟨b, 6, none⟩ nv) (fun k => F k ∨ (w.heap.size ≤ k ∧ k < (wr.setCell ⟨b, 6, none⟩ nv).heap.size)) b { g with ones := os } nv L' := by
  have hb := block_lt h.blk
  have hk : Keeps (fun k => k = b) w (wr.setCell ⟨b, 6, none⟩ nv) := (hk0.mono (S1 := fun k => k = b) (fun _ _ e => e.elim)).setC 6 _ (fun _ => rfl)
  refine h.step hk (fun k e => .inl e) ?_ ?_ (fun k e => .inr (hrow.lt k e).1) hones (fun x hx => .inl ⟨x, hsub x hx, rfl, rfl⟩) (fun x hx => .inl ⟨x, hsub x hx, rfl, rfl⟩)
  · exact setCell_block ((hk0.block b hb (fun e => e)).trans h.blk) 6 _
  · exact own_base (own_keep ((Keeps.refl (fun k => k = b) wr).setC 6 _ (fun _ => rfl)) hrow (fun k e e2 => by have := (hrow.lt k e).1; omega)) (Nat.zero_le _)
theorem own_slice {w : World} {base : Nat} {e : TypeId} {size : Nat} {v : Value} {n : Nat} {xs : List Value} (h : w.ownsRow base e size v n xs) : ∃ a c, v = .slice a n c := by
  rcases h.2 with ⟨rfl, rfl⟩ | ⟨g, cap, cur, rfl, _⟩
  · exact ⟨_, _, rfl⟩
  · exact ⟨_, _, rfl⟩
def dropAt (g : GroupC) (i : Nat) : GroupC := { g with ones := g.ones.eraseIdx i }
theorem flatN_drop {α : Type} (enc : α → List Value) (n : Nat) (hn : ∀ x, (enc x).length = n) (L : List α) (i : Nat) : (L.drop i).flatMap enc = (L.flatMap enc).drop (i * n) := by
  induction L generalizing i with
  | nil => simp
  | cons x L ih =>
    cases i with
    | zero => simp
    | succ i =>
      rw [List.drop_succ_cons, ih, List.flatMap_cons, List.drop_append, hn]
      have e1 : (enc x).drop ((i + 1) * n) = [] := List.drop_eq_nil_of_le (by rw [hn, Nat.add_mul]; omega)
      rw [e1, List.nil_append]
      congr 1
      rw [Nat.add_mul]; omega
theorem flatN_take {α : Type} (enc : α → List Value) (n : Nat) (hn : ∀ x, (enc x).length = n) (L : List α) (i : Nat) : (L.take i).flatMap enc = (L.flatMap enc).take (i * n) := by
  induction L generalizing i with
  | nil => simp
  | cons x L ih =>
    cases i with
    | zero => simp
    | succ i =>
      rw [List.take_succ_cons, List.flatMap_cons, ih, List.flatMap_cons, List.take_append, hn]
      have e1 : (enc x).take ((i + 1) * n) = enc x := List.take_of_length_le (by rw [hn, Nat.add_mul]; omega)
      rw [e1]
      congr 2
      rw [Nat.add_mul]; omega
theorem RGrpAt.dropped {w w2 : World} {F : Nat → Prop} {b : Nat} {g : GroupC} {v : Value} {L : List OneV} {i n vc : Nat} {va : Option Addr} (h : RGrpAt w F b g v L) (hi : i < L.length) (hk : K0 w w2) (hn : n = L.length - 1)
    (hrow : w2.ownsRow w.heap.size 98 5 (.slice va n vc) n ((L.take i).flatMap oneEnc ++ (L.drop (i + 1)).flatMap oneEnc)) : RGrpPost w F b (dropAt g i) (w2.setCell ⟨b, 6, none⟩ (.slice va n vc)) := by
  have hle : (L.eraseIdx i).length = n := by rw [List.length_eraseIdx, if_pos hi, hn]
  have hg := h.newrow (L' := L.eraseIdx i) (os := g.ones.eraseIdx i) hk (by
    rw [hle, List.eraseIdx_eq_take_drop_succ, List.flatMap_append]
    exact hrow) (fun x hx => List.mem_of_mem_eraseIdx hx) (by rw [← h.ones, List.eraseIdx_eq_take_drop_succ, List.eraseIdx_eq_take_drop_succ, List.map_append, List.map_take, List.map_drop])
  exact ⟨_, ⟨_, _, hg⟩, fun k e => e.elim .inl (fun e => .inr e.1), (hk.mono (S1 := F) (fun _ _ e => e.elim)).setC 6 _ (fun _ => h.fb)⟩
set_option maxRecDepth 100000 in
set_option maxHeartbeats 2000000 in
theorem rdrop_any (w : World) (F : Nat → Prop) (b : Nat) (g : GroupC) (v : Value) (L : List OneV) (i : Nat) (hi : i < L.length) (h : RGrpAt w F b g v L) (hl : L.length ≤ 1000) :
    Calls Try.prog 65 #[.pointer (some ⟨b, 0, none⟩), .int .i64 i] w fun e w' => e = .returned (.tuple #[]) ∧ RGrpPost w F b (dropAt g i) w' := by
  have hb := block_lt h.blk
  have HH := Lib.hid h
  have hx : w.cell? ⟨b, 6, none⟩ = some v := block_cell h.blk 6
  have f6 := block_free h.blk 6
  rcases h.form with ⟨rfl, rfl⟩ | ⟨r, cap, rfl, hrb, hrl, hcap, hFr⟩
  · exact absurd hi (Nat.not_lt_zero _)
  · have hcm : cap ≤ 9223372036854775807 := by
      rcases h.row.2 with ⟨e, _⟩ | ⟨g1, cap1, cur, e, _, _, _, hc, _⟩
      · cases e
      · cases e; unfold maxLen at hc; omega
    have hcells : ∀ j u, (L.flatMap oneEnc)[j]? = some u → w.cell? ⟨r, j, none⟩ = some u := fun j u hu => by
      have hj : j < (L.flatMap oneEnc).length := (List.getElem?_eq_some_iff.1 hu).1
      rw [h.row.cellAt j (by rw [flat_len oneEnc 5 oneEnc_len] at hj; exact hj)]
      exact hu
    have hl1 : ((L.take i).flatMap oneEnc).length = i * 5 := by rw [flat_len oneEnc 5 oneEnc_len, List.length_take]; congr 1; omega
    have hl2 : ((L.drop (i + 1)).flatMap oneEnc).length = (L.length - (i + 1)) * 5 := by rw [flat_len oneEnc 5 oneEnc_len, List.length_drop]
    have hn1 : ∀ j u, ((L.take i).flatMap oneEnc)[j]? = some u → w.cell? ((⟨r, 0, none⟩ : Addr).add j) = some u := fun j u hu => by
      rw [flatN_take oneEnc 5 oneEnc_len, List.getElem?_take] at hu
      split at hu
      · rw [add_at, Nat.zero_add]; exact hcells j u hu
      · cases hu
    have hc1 : ∀ u ∈ (L.take i).flatMap oneEnc, u.oneCell' = true := fun u hu => by
      obtain ⟨x, hx, hu⟩ := List.mem_flatMap.1 hu
      exact h.cells1 x (List.mem_of_mem_take hx) u hu
    have hc2 : ∀ u ∈ (L.drop (i + 1)).flatMap oneEnc, u.oneCell' = true := fun u hu => by
      obtain ⟨x, hx, hu⟩ := List.mem_flatMap.1 hu
      exact h.cells1 x (List.mem_of_mem_drop hx) u hu
    have HA1 : Hid (∀ w1, w.grownBy w1 none → w1.cell? ⟨b, 6, none⟩ = some (.slice (some ⟨r, 0, none⟩) L.length cap) ∧ b < w1.heap.size ∧ w1.frozen? ⟨b, 6, none⟩ = false ∧ w.heap.size ≤ w1.heap.size ∧ ∀ j u, ((L.drop (i + 1)).flatMap oneEnc)[j]? = some u → w1.cell? ((⟨r, (i + 1) * 5, none⟩ : Addr).add j) = some u) := fun w1 hg => by
      have hk : K0 w w1 := (Keeps.refl (fun _ => False) w).grown hg (fun k e => by cases e)
      have hblk := (hk.block b hb (fun e => e)).trans HH.out.blk
      refine ⟨block_cell hblk 6, block_lt hblk, block_free hblk 6, hk.size, fun j u hu => ?_⟩
      rw [flatN_drop oneEnc 5 oneEnc_len, List.getElem?_drop] at hu
      rw [add_at]
      exact hk.cell' (hcells _ u hu) (fun e => e)
    have HB2 : Hid (∀ (v1 : Value) (w1 w2 : World) (xs1 : List Value), w.grownBy w1 none → w1.ownsRow w.heap.size 98 5 v1 i xs1 → w1.grownBy w2 v1.ownBlock → K0 w w2 ∧ b < w2.heap.size ∧ w2.frozen? ⟨b, 6, none⟩ = false ∧ w2.cell? ⟨b, 6, none⟩ = some (.slice (some ⟨r, 0, none⟩) L.length cap)) := fun v1 w1 w2 xs1 hg hv hg2 => by
      have hk : K0 w w1 := (Keeps.refl (fun _ => False) w).grown hg (fun k e => by cases e)
      have hk2 : K0 w w2 := hk.grown hg2 (fun k e hlt => absurd (hv.lt k e).1 (by omega))
      have hblk := (hk2.block b hb (fun e => e)).trans HH.out.blk
      exact ⟨hk2, block_lt hblk, block_free hblk 6, block_cell hblk 6⟩
    have hown0 : w.ownsRow w.heap.size 98 5 (.slice none 0 0) 0 [] := World.ownsRow_nil _ _ _ _
    have i0 : (0 : Int) ≤ i := by omega
    have i1 : (i : Int) ≤ cap := by omega
    have i2 : (i : Int) < L.length := by omega
    have i3 : (i : Int) + 1 ≤ L.length := by omega
    have i4 : (L.length : Int) ≤ cap := by omega
    clear h hcells
    generalize hx1 : (L.take i).flatMap oneEnc = news1 at hl1 hn1 hc1
    generalize hx2 : (L.drop (i + 1)).flatMap oneEnc = news2 at hl2 hc2 HA1
    have HX1 := Lib.hid hx1
    have HX2 := Lib.hid hx2
    have HI := Lib.hid hi
    clear hx1 hx2
    by_cases hce : cap = i + 1
    · subst hce
      have hnil : ∀ w1 : World, ∀ j u, news2[j]? = some u → w1.cell? ((⟨r, 0, none⟩ : Addr).add j) = some u := fun w1 j u hu => by
        have h9 := (List.getElem?_eq_some_iff.1 hu).1
        omega
      have HNIL := Lib.hid hnil
      have hl20 : news2.length = 0 * 5 := by omega
      clear hnil
      go_enter Try.func65, Try.ntmps65
      go_wp2_with (at_builtin; first | (refine wpList_appN rfl rfl Try.underlying53 infoROne rfl (by decide) rfl hown0 rfl hl1 hn1 hc1 ⟨by omega, by decide⟩ (Nat.le_refl _) ?_; intro v1 w1 hv1 hg1; simp only [Nat.zero_add, List.nil_append] at hv1; obtain ⟨va1, vc1, rfl⟩ := own_slice hv1; obtain ⟨a1, a2, a3, a4, a5⟩ := HA1.out w1 hg1) | (refine wpList_appN rfl rfl Try.underlying53 infoROne rfl (by decide) rfl hv1 rfl hl2 (HNIL.out _) hc2 ⟨by omega, by decide⟩ a4 ?_; intro v2 w2 hv2 hg2; obtain ⟨va2, vc2, rfl⟩ := own_slice hv2; have B2 := HB2.out _ _ _ _ hg1 hv1 hg2; obtain ⟨b1, b2, b3, b4⟩ := B2; have HB := Lib.hid b1; have HV2 := Lib.hid hv2; clear b1 hv1 hg1 hg2 hv2 a1 a2 a3 a4 a5) | (refine wpList_appN rfl rfl Try.underlying53 infoROne rfl (by decide) rfl hv1 rfl hl20 (HNIL.out _) hc2 ⟨by omega, by decide⟩ a4 ?_; intro v2 w2 hv2 hg2; obtain ⟨va2, vc2, rfl⟩ := own_slice hv2; have B2 := HB2.out _ _ _ _ hg1 hv1 hg2; obtain ⟨b1, b2, b3, b4⟩ := B2; have HB := Lib.hid b1; have HV2 := Lib.hid hv2; clear b1 hv1 hg1 hg2 hv2 a1 a2 a3 a4 a5))
      go_end0
      exact ⟨rfl, HH.out.dropped HI.out HB.out (by omega) (by rw [HX1.out, HX2.out]; exact HV2.out)⟩
    · go_enter Try.func65, Try.ntmps65
      go_wp2_with (at_builtin; first | (refine wpList_appN rfl rfl Try.underlying53 infoROne rfl (by decide) rfl hown0 rfl hl1 hn1 hc1 ⟨by omega, by decide⟩ (Nat.le_refl _) ?_; intro v1 w1 hv1 hg1; simp only [Nat.zero_add, List.nil_append] at hv1; obtain ⟨va1, vc1, rfl⟩ := own_slice hv1; obtain ⟨a1, a2, a3, a4, a5⟩ := HA1.out w1 hg1) | (refine wpList_appN rfl rfl Try.underlying53 infoROne rfl (by decide) rfl hv1 rfl hl2 a5 hc2 ⟨by omega, by decide⟩ a4 ?_; intro v2 w2 hv2 hg2; obtain ⟨va2, vc2, rfl⟩ := own_slice hv2; have B2 := HB2.out _ _ _ _ hg1 hv1 hg2; obtain ⟨b1, b2, b3, b4⟩ := B2; have HB := Lib.hid b1; have HV2 := Lib.hid hv2; clear b1 hv1 hg1 hg2 hv2 a1 a2 a3 a4 a5))
      go_end0
      exact ⟨rfl, HH.out.dropped HI.out HB.out (by omega) (by rw [HX1.out, HX2.out]; exact HV2.out)⟩
def wentG (g : GroupC) (now : Int) : GroupC :=
  if g.ones.length = 0 then enterG g 0 0 else if ¬ g.phase = 1 then anewG g now else if g.ones.all (·.joined) then closeG g now else g
theorem emptyG_no {g : GroupC} (h : ¬ g.ones.length = 0) : emptyG g = g := if_neg h
theorem emptyG_yes {g : GroupC} (h : g.ones.length = 0) : emptyG g = enterG g 0 0 := if_pos h
/-- The bounds that keep sums within what an int holds. -/
structure RBnd (g : GroupC) (now : Int) : Prop where
  t : 0 ≤ now ∧ now ≤ 1099511627776
  r : 0 ≤ g.rebalance ∧ g.rebalance ≤ 100000
  g : 0 ≤ g.gen ∧ g.gen ≤ 1152921504606846976
set_option maxRecDepth 100000 in
set_option maxHeartbeats 2000000 in
theorem rwent_any (w : World) (F : Nat → Prop) (b : Nat) (g : GroupC) (v : Value) (L : List OneV) (now : Int) (h : RGrpAt w F b g v L) (hl : L.length ≤ 1000) (bd : RBnd g now) :
    Calls Try.prog 66 #[.pointer (some ⟨b, 0, none⟩), .int .i64 now] w fun e w' => e = .returned (.tuple #[]) ∧ RGrpPost w F b (wentG g now) w' := by
  have hlen := h.len
  have HE := Lib.hid (rempty_any h)
  have HF := Lib.hid h.fb
  have BD := Lib.hid bd
  by_cases h0 : L.length = 0
  · have hd : decide (L.length = 0) = true := by simpa using h0
    have HE2 := HE.out
    rw [hd, emptyG_yes (by omega)] at HE2
    have HW : Hid (wentG g now = enterG g 0 0) := if_pos (by omega)
    have HE3 := Lib.hid HE2
    clear HE HE2 h hlen hd h0
    go_enter Try.func66, Try.ntmps66
    go_wp2_with fail
    refine HE3.out.mono ?_
    rintro e w1 ⟨rfl, hg, hk⟩
    have HG := Lib.hid hg
    have HK := Lib.hid hk
    clear hg hk
    go_wp2
    (try simp only [Exit.inBlock, Exit.then])
    refine bodyPost_ret (results_none rfl _ _ _) rfl ?_
    rw [HW.out]
    exact ⟨rfl, F, ⟨_, _, HG.out⟩, fun k e => .inl e, HK.out.mono fun k _ e => by subst e; exact HF.out⟩
  · have hd : decide (L.length = 0) = false := by simpa using h0
    have HE2 := HE.out
    rw [hd, emptyG_no (by omega)] at HE2
    have HN : Hid (¬ g.ones.length = 0) := by show ¬ _; omega
    have HE3 := Lib.hid HE2
    clear HE HE2 h hlen hd h0
    by_cases hp : g.phase = 1
    · have HP := Lib.hid hp
      clear hp
      go_enter Try.func66, Try.ntmps66
      go_wp2_with fail
      refine HE3.out.mono ?_
      rintro e w1 ⟨rfl, hg, hk⟩
      have c2 : w1.cell? ⟨b, 2, none⟩ = some (.int .i64 1) := by rw [← HP.out]; exact block_cell hg.blk 2
      have hb := block_lt hg.blk
      have HG := Lib.hid hg
      have HK : Hid (Keeps F w w1) := hk.mono fun k _ e => by subst e; exact HF.out
      clear hg hk
      go_wp2_with fail
      refine (rall_any HG.out hl).mono ?_
      rintro e w2 ⟨rfl, rfl⟩
      cases ha : g.ones.all (·.joined) with
      | true =>
        have HW : Hid (wentG g now = closeG g now) := by show _ = _; unfold wentG; rw [if_neg HN.out, if_neg (by simpa using HP.out), if_pos ha]
        clear ha
        go_wp2_with fail
        refine (rclose_any _ F b g v L now HG.out hl BD.out.t BD.out.r BD.out.g).mono ?_
        rintro e w3 ⟨rfl, hq⟩
        have HQ : Hid (RGrpPost w F b (wentG g now) w3) := by show RGrpPost _ _ _ _ _; rw [HW.out]; exact hq.trans (fun k e => .inl e) HK.out
        clear hq
        go_wp2
        go_end0
        exact ⟨rfl, HQ.out⟩
      | false =>
        have HW : Hid (wentG g now = g) := by show _ = _; unfold wentG; rw [if_neg HN.out, if_neg (by simpa using HP.out), if_neg (by rw [ha]; simp)]
        clear ha
        go_wp2
        go_end0
        rw [HW.out]
        exact ⟨rfl, F, ⟨_, _, HG.out⟩, fun k e => .inl e, HK.out⟩
    · have HW : Hid (wentG g now = anewG g now) := by show _ = _; unfold wentG; rw [if_neg HN.out, if_pos hp]
      go_enter Try.func66, Try.ntmps66
      go_wp2_with fail
      refine HE3.out.mono ?_
      rintro e w1 ⟨rfl, hg, hk⟩
      have c2 : w1.cell? ⟨b, 2, none⟩ = some (.int .i64 g.phase) := block_cell hg.blk 2
      have hb := block_lt hg.blk
      have HG := Lib.hid hg
      have HK : Hid (Keeps F w w1) := hk.mono fun k _ e => by subst e; exact HF.out
      have HRG := Lib.hid (ranew_any w1 F b g v L now hg hl BD.out.t BD.out.r)
      generalize g.phase = ph at c2 hp
      clear hg hk
      go_wp2_with fail
      refine HRG.out.mono ?_
      rintro e w3 ⟨rfl, hq⟩
      have HQ : Hid (RGrpPost w F b (wentG g now) w3) := by show RGrpPost _ _ _ _ _; rw [HW.out]; exact hq.trans (fun k e => .inl e) HK.out
      clear hq
      go_wp2
      go_end0
      exact ⟨rfl, HQ.out⟩
theorem RFound.has {w : World} {F : Nat → Prop} {b : Nat} {g : GroupC} {v : Value} {L : List OneV} (h : RGrpAt w F b g v L) {m x : Int} (hf : RFound L m x) : (hasM g m = true ∧ ∃ i : Nat, ∃ hi : i < L.length, x = i ∧ L[i].member = m) ∨ (hasM g m = false ∧ x = -1) := by
  unfold hasM
  rw [← h.ones, List.any_map]
  rcases hf with ⟨i, hi, rfl, e⟩ | ⟨rfl, hn⟩
  · refine .inl ⟨?_, i, hi, rfl, e⟩
    rw [List.any_eq_true]
    exact ⟨L[i], List.getElem_mem hi, by simp [OneV.core, e]⟩
  · refine .inr ⟨?_, rfl⟩
    rw [List.any_eq_false]
    intro x hx
    obtain ⟨i, hi, rfl⟩ := List.mem_iff_getElem.1 hx
    have := hn i hi
    simp [OneV.core, this]
set_option maxRecDepth 100000 in
set_option maxHeartbeats 2000000 in
theorem rknows_any (w : World) (F : Nat → Prop) (b : Nat) (g : GroupC) (v : Value) (L : List OneV) (m gn : Int) (h : RGrpAt w F b g v L) (hl : L.length ≤ 1000) :
    Calls Try.prog 41 #[.pointer (some ⟨b, 0, none⟩), .int .i64 m, .int .i64 gn] w fun e w' => e = .returned (.int .i64 (knowsE g m gn)) ∧ w' = w := by
  have HFI := Lib.hid (rfind_any m h hl)
  have HH := Lib.hid h
  have hb := block_lt h.blk
  have c2 : w.cell? ⟨b, 2, none⟩ = some (.int .i64 g.phase) := block_cell h.blk 2
  have c3 : w.cell? ⟨b, 3, none⟩ = some (.int .i64 g.gen) := block_cell h.blk 3
  clear h
  go_enter Try.func41, Try.ntmps41
  go_wp2_with fail
  refine HFI.out.mono ?_
  rintro e w1 ⟨x, rfl, rfl, hf⟩
  rcases hf.has HH.out with ⟨hm, i, hi, rfl, _⟩ | ⟨hm, rfl⟩
  · have i0 : (0 : Int) ≤ i := by omega
    have HM := Lib.hid hm
    clear hm hf
    by_cases hg : gn = g.gen
    · have HGN := Lib.hid hg
      by_cases hp : g.phase = 1
      · have HKN : Hid (knowsE g m gn = 13) := by show _ = _; unfold knowsE knownE; rw [if_pos HM.out, if_pos HGN.out, if_pos rfl, if_pos hp]
        generalize g.phase = ph at c2 hp
        generalize g.gen = gg at c3 hg
        go_wp2
        go_ret
        rw [HKN.out]
        exact ⟨rfl, rfl⟩
      · have HKN : Hid (knowsE g m gn = 0) := by show _ = _; unfold knowsE knownE; rw [if_pos HM.out, if_pos HGN.out, if_pos rfl, if_neg hp]
        generalize g.phase = ph at c2 hp
        generalize g.gen = gg at c3 hg
        go_wp2
        go_ret
        rw [HKN.out]
        exact ⟨rfl, rfl⟩
    · have HKN : Hid (knowsE g m gn = 10) := by show _ = _; unfold knowsE knownE; rw [if_pos HM.out, if_neg hg]; rfl
      generalize g.gen = gg at c3 hg
      go_wp2
      go_ret
      rw [HKN.out]
      exact ⟨rfl, rfl⟩
  · have HKN : Hid (knowsE g m gn = 11) := by show _ = _; unfold knowsE knownE; simp [hm]
    clear hm hf
    go_wp2
    go_ret
    rw [HKN.out]
    exact ⟨rfl, rfl⟩
end Go.Proofs.Ytlmajhkhlmkeiaa
