/-
  What a producer has sent, as an object: the epoch, a ring of five, where it begins, how many.
-/
import Derived.Test.YtbjpifipjcfhkaaRows
import Derived.Test.YtbjpifipjcfhkaaMl
import Derived.Test.YtbjpifipjcfhkaaAp
import Derived.WalkKit
import Derived.WalkSpells
import Derived.WalkLawsBesides
import Derived.Deep.QuietTactic
import Derived.BigQuiet
import Derived.Outline
import Derived.Lib.Hide
namespace Go.Proofs.Ytbjpifipjcfhkaa
open Go.RowKit Fx

def Same (w : World) (e : Ending) (v : Value) (w' : World) : Prop := e = .returned v ∧ Keeps (fun _ => False) w w'
structure SentC where
  seq : Int
  base : Int
  span : Int
structure HeardC where
  epoch : Int
  ring : Nat → SentC
  first : Nat
  count : Nat
def i64 (n : Int) : Value := .int .i64 n
def hcells (H : HeardC) : Array Value :=
  #[.int .i64 H.epoch, .int .i64 (H.ring 0).seq, .int .i64 (H.ring 0).base, .int .i64 (H.ring 0).span, .int .i64 (H.ring 1).seq, .int .i64 (H.ring 1).base, .int .i64 (H.ring 1).span, .int .i64 (H.ring 2).seq, .int .i64 (H.ring 2).base, .int .i64 (H.ring 2).span,
    .int .i64 (H.ring 3).seq, .int .i64 (H.ring 3).base, .int .i64 (H.ring 3).span, .int .i64 (H.ring 4).seq, .int .i64 (H.ring 4).base, .int .i64 (H.ring 4).span, .int .i64 H.first, .int .i64 H.count]
def slot (H : HeardC) (i : Nat) : Nat := (H.first + i) % 5
def nth (H : HeardC) (i : Nat) : SentC := H.ring (slot H i)
structure HOk (H : HeardC) : Prop where
  f : H.first < 5
  c : H.count ≤ 5
def HAt (w : World) (b : Nat) (H : HeardC) : Prop := w.heap[b]? = some (.cells (hcells H) 65 (0, 0))
theorem hcells_at (H : HeardC) {j : Nat} (h : j < 5) : (hcells H)[1 + j * 3]? = some (.int .i64 (H.ring j).seq) ∧ (hcells H)[1 + j * 3 + 1]? = some (.int .i64 (H.ring j).base) ∧ (hcells H)[1 + j * 3 + 2]? = some (.int .i64 (H.ring j).span) := by
  match j, h with
  | 0, _ => exact ⟨rfl, rfl, rfl⟩
  | 1, _ => exact ⟨rfl, rfl, rfl⟩
  | 2, _ => exact ⟨rfl, rfl, rfl⟩
  | 3, _ => exact ⟨rfl, rfl, rfl⟩
  | 4, _ => exact ⟨rfl, rfl, rfl⟩
theorem slot_lt (H : HeardC) (i : Nat) : slot H i < 5 := Nat.mod_lt _ (by omega)
set_option maxRecDepth 100000 in
set_option maxHeartbeats 1000000 in
theorem at_any {w : World} {b : Nat} {H : HeardC} (h : HAt w b H) (ok : HOk H) (i : Nat) (hi : i ≤ 5) :
    Calls Try.prog 26 #[.pointer (some ⟨b, 0, none⟩), .int .i64 i] w fun e w' => Same w e (.pointer (some ⟨b, 1 + slot H i * 3, none⟩)) w' := by
  have c16 : w.cell? ⟨b, 16, none⟩ = some (.int .i64 H.first) := block_cell h 16
  have hlt := block_lt h
  have hf := ok.f
  have hs := slot_lt H i
  go_enter Try.func26, Try.ntmps26
  go_wp2
  go_quiet (fail)
  go_wp2
  go_ret
  exact ⟨rfl, (Keeps.refl _ _).drewN _⟩
def nextW (H : HeardC) : Int := if H.count = 0 then 0 else wrap64 ((nth H (H.count - 1)).seq + (nth H (H.count - 1)).span)
set_option maxRecDepth 100000 in
set_option maxHeartbeats 1000000 in
theorem next_any {w : World} {b : Nat} {H : HeardC} (h : HAt w b H) (ok : HOk H) :
    Calls Try.prog 27 #[.pointer (some ⟨b, 0, none⟩)] w fun e w' => Same w e (.int .i64 (nextW H)) w' := by
  have c17 : w.cell? ⟨b, 17, none⟩ = some (.int .i64 H.count) := block_cell h 17
  have hlt := block_lt h
  unfold nextW
  by_cases h0 : H.count = 0
  · rw [if_pos h0]
    rw [h0] at c17
    go_enter Try.func27, Try.ntmps27
    go_wp2
    go_ret
    exact ⟨rfl, Keeps.refl _ _⟩
  · rw [if_neg h0]
    have hc := ok.c
    have A := at_any h ok (H.count - 1) (by omega)
    rw [show ((H.count - 1 : Nat) : Int) = (H.count : Int) - 1 by omega] at A
    have HA := Lib.hid A
    have hs := slot_lt H (H.count - 1)
    have cs := hcells_at H hs
    have c1 : w.cell? ⟨b, 1 + slot H (H.count - 1) * 3, none⟩ = some (.int .i64 (nth H (H.count - 1)).seq) := (block_cell h _).trans cs.1
    have c3 : w.cell? ⟨b, 1 + slot H (H.count - 1) * 3 + 2, none⟩ = some (.int .i64 (nth H (H.count - 1)).span) := (block_cell h _).trans cs.2.2
    clear A cs
    go_enter Try.func27, Try.ntmps27
    go_wp2_with fail
    refine HA.out.mono ?_
    rintro e w1 ⟨rfl, k1⟩
    have d1 := k1.cell' c1 (fun e => e)
    have d3 := k1.cell' c3 (fun e => e)
    have hlt1 : b < w1.heap.size := Nat.lt_of_lt_of_le hlt k1.size
    clear c1 c3 c17
    go_wp2
    go_quiet (fail)
    go_wp2
    go_ret
    exact ⟨rfl, k1.drewN _⟩
def upd (r : Nat → SentC) (j : Nat) (s : SentC) : Nat → SentC := fun k => if k = j then s else r k
/-- The oldest one goes. -/
def shed (H : HeardC) : HeardC := if H.count = 5 then ⟨H.epoch, H.ring, (H.first + 1) % 5, 4⟩ else H
def addH (H : HeardC) (s : SentC) : HeardC := ⟨H.epoch, upd H.ring (slot (shed H) (shed H).count) s, (shed H).first, (shed H).count + 1⟩
theorem shed_ok {H : HeardC} (ok : HOk H) : HOk (shed H) ∧ (shed H).count ≤ 4 := by
  unfold shed
  have h1 := ok.f
  have h2 := ok.c
  by_cases h : H.count = 5
  · rw [if_pos h]; exact ⟨⟨Nat.mod_lt _ (by omega), by show 4 ≤ 5; omega⟩, Nat.le_refl _⟩
  · rw [if_neg h]; exact ⟨ok, by omega⟩
theorem addH_ok {H : HeardC} (ok : HOk H) (s : SentC) : HOk (addH H s) := ⟨(shed_ok ok).1.f, by have := (shed_ok ok).2; show (shed H).count + 1 ≤ 5; omega⟩
theorem cells_upd (H : HeardC) {j : Nat} (h : j < 5) (s : SentC) (c : Nat) :
    ((((hcells H).setIfInBounds (1 + j * 3) (.int .i64 s.seq)).setIfInBounds (1 + j * 3 + 1) (.int .i64 s.base)).setIfInBounds (1 + j * 3 + 2) (.int .i64 s.span)).setIfInBounds 17 (.int .i64 c) = hcells ⟨H.epoch, upd H.ring j s, H.first, c⟩ := by
  match j, h with
  | 0, _ => rfl
  | 1, _ => rfl
  | 2, _ => rfl
  | 3, _ => rfl
  | 4, _ => rfl
end Go.Proofs.Ytbjpifipjcfhkaa
