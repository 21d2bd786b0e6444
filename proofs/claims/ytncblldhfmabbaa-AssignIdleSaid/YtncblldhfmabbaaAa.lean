/-
  The package assign's data as it came in: members and topics, by cells; what the law's 'few' answers.
-/
import Derived.Test.YtncblldhfmabbaaRows
import Derived.Test.YtncblldhfmabbaaRd
import Derived.WalkKit
import Derived.WalkSpells
import Derived.WalkLawsBesides
import Derived.Deep.QuietTactic
import Derived.BigQuiet
import Derived.Outline
import Derived.Lib.Hide
namespace Go.Proofs.Ytncblldhfmabbaa
open Go.RowKit Fx

structure SubC where
  member : Int
  topics : List ByteArray
structure TopC where
  name : ByteArray
  parts : Int
def rSub : Rdr SubC := fun w cs s => ∃ a cap, cs = [.int .i64 s.member, .slice a s.topics.length cap] ∧ SlAt 1 rStr w a cap s.topics ∧ (Lit.int .i64 s.member).wf = true
def rTop : Rdr TopC := fun _ cs t => cs = [.string t.name, .int .i64 t.parts] ∧ (Lit.int .i64 t.parts).wf = true

theorem sub_cells {w0 w : World} {b off : Nat} {l : List SubC} (h : RowAt 2 rSub w0 b off l) (hb : Below w0.heap.size w0 w) (k : Nat) (hk : k < l.length) :
    ∃ a cap, w.cell? ⟨b, off + k * 2, none⟩ = some (.int .i64 l[k].member) ∧ w.cell? ⟨b, off + k * 2 + 1, none⟩ = some (.slice a l[k].topics.length cap) ∧ b < w.heap.size ∧ SlAt 1 rStr w0 a cap l[k].topics := by
  obtain ⟨cs, h1, h2, a, cap, rfl, h3, _⟩ := h k hk
  have e0 : w0.cell? ⟨b, off + k * 2, none⟩ = some (.int .i64 l[k].member) := h2 0 (by omega)
  exact ⟨a, cap, (below_cell hb e0).1, (below_cell hb (h2 1 (by omega))).1, (below_cell hb e0).2, h3⟩

theorem top_cells {w0 w : World} {b off : Nat} {l : List TopC} (h : RowAt 2 rTop w0 b off l) (hb : Below w0.heap.size w0 w) (k : Nat) (hk : k < l.length) :
    w.cell? ⟨b, off + k * 2, none⟩ = some (.string l[k].name) ∧ w.cell? ⟨b, off + k * 2 + 1, none⟩ = some (.int .i64 l[k].parts) ∧ b < w.heap.size := by
  obtain ⟨cs, h1, h2, rfl, _⟩ := h k hk
  have e0 : w0.cell? ⟨b, off + k * 2, none⟩ = some (.string l[k].name) := h2 0 (by omega)
  exact ⟨(below_cell hb e0).1, (below_cell hb (h2 1 (by omega))).1, (below_cell hb e0).2⟩
theorem str_cells {w0 w : World} {b off : Nat} {l : List ByteArray} (h : RowAt 1 rStr w0 b off l) (hb : Below w0.heap.size w0 w) (k : Nat) (hk : k < l.length) :
    w.cell? ⟨b, off + k, none⟩ = some (.string l[k]) ∧ b < w.heap.size := by
  obtain ⟨cs, h1, h2, rfl, _⟩ := h k hk
  have e0 : w0.cell? ⟨b, off + k, none⟩ = some (.string l[k]) := by have := h2 0 (by omega); simpa using this
  exact below_cell hb e0
def fewB (subs : List SubC) (tops : List TopC) : Bool := decide (subs.length ≤ 30) && decide (tops.length ≤ 30) && subs.all fun s => decide (s.topics.length ≤ 30)

def Same (w : World) (e : Ending) (v : Value) (w' : World) : Prop := e = .returned v ∧ Keeps (fun _ => False) w w'

set_option maxRecDepth 100000 in
set_option maxHeartbeats 400000 in
theorem few_any (w0 w : World) (sa ta : Option Addr) (sc tc : Nat) (subs : List SubC) (tops : List TopC) (hs : SlAt 2 rSub w0 sa sc subs) (ht : SlAt 2 rTop w0 ta tc tops) (hb : Below w0.heap.size w0 w) :
    Calls Try.prog 7 #[.slice sa subs.length sc, .slice ta tops.length tc] w fun e w' => Same w e (.bool (fewB subs tops)) w' := by
  by_cases h1 : subs.length ≤ 30 ∧ tops.length ≤ 30
  · obtain ⟨h1, h2⟩ := h1
    have HF : Hid (fewB subs tops = subs.all fun s => decide (s.topics.length ≤ 30)) := by simp [Hid, fewB, h1, h2]
    have hm := hs.len
    have hr := Lib.hid hs
    clear ht hs
    go_enter Try.func7, Try.ntmps7
    go_wp2
    go_loop [5] (fun i => ∃ k : Nat, k ≤ subs.length ∧ i = .int .i64 k ∧ ∀ j (h : j < subs.length), j < k → subs[j].topics.length ≤ 30) (fun i => subs.length - (intOf i).toNat)
    case atStart => exact ⟨0, by omega, rfl, fun j _ h => by omega⟩
    case round =>
      obtain ⟨k, hk, rfl, hq⟩ := hrel
      have HQ := Lib.hid hq
      clear hq
      by_cases hlt : k < subs.length
      · obtain ⟨b, off, rfl, hr'⟩ := hr.out.row hlt
        obtain ⟨a, cap, c0, c1, hbl, hrs⟩ := sub_cells hr' hb k hlt
        have HR := Lib.hid hrs
        clear hrs hr' hr c0
        by_cases h3 : subs[k].topics.length ≤ 30
        · generalize hn : subs[k].topics.length = n at c1 HR h3
          have HN := Lib.hid hn
          clear hn
          go_wp2
          go_round
          case rel => exact ⟨k + 1, by omega, by go_num, fun j h hj => (Nat.lt_succ_iff_lt_or_eq.1 hj).elim (HQ.out j h) fun e => by subst e; rw [HN.out]; exact h3⟩
          case measure => simp [intOf]; omega
        · have hf : Hid (fewB subs tops = false) := by
            rw [HF.out]
            exact (List.all_eq_false.2 ⟨subs[k], List.getElem_mem hlt, by simpa using h3⟩)
          generalize subs[k].topics.length = n at c1 HR h3
          go_wp2
          go_ret
          rw [hf.out]
          exact ⟨rfl, Keeps.refl _ _⟩
      · have hf : Hid (fewB subs tops = true) := by
          rw [HF.out, List.all_eq_true]
          intro x hx
          obtain ⟨j, hj, rfl⟩ := List.mem_iff_getElem.1 hx
          simpa using HQ.out j hj (by omega)
        clear hr
        go_wp2
        go_ret
        rw [hf.out]
        exact ⟨rfl, Keeps.refl _ _⟩
  · have hf : Hid (fewB subs tops = false) := by
      simp only [fewB, Hid, Bool.and_eq_false_iff, decide_eq_false_iff_not]
      by_cases h : subs.length ≤ 30
      · exact .inl (.inr fun h' => h1 ⟨h, h'⟩)
      · exact .inl (.inl h)
    clear hs ht
    by_cases h2 : subs.length ≤ 30
    · have h3 : 30 < tops.length := by omega
      clear h1
      go_enter Try.func7, Try.ntmps7
      go_wp2
      go_ret
      rw [hf.out]
      exact ⟨rfl, Keeps.refl _ _⟩
    · clear h1
      go_enter Try.func7, Try.ntmps7
      go_wp2
      go_ret
      rw [hf.out]
      exact ⟨rfl, Keeps.refl _ _⟩
end Go.Proofs.Ytncblldhfmabbaa
