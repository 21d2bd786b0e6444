/-
  The package assign's data as it came in: members and topics, by cells; what the law's 'few' answers.
-/
import Derived.Test.YtlmajhkhlmkeiaaRows
import Derived.Test.YtlmajhkhlmkeiaaRd
import Derived.WalkKit
import Derived.WalkSpells
import Derived.WalkLawsBesides
import Derived.Deep.QuietTactic
import Derived.BigQuiet
import Derived.Outline
import Derived.Lib.Hide
namespace Go.Proofs.Ytlmajhkhlmkeiaa
open Go.RowKit Fx

structure SubC where
  member : Int
  topics : List ByteArray
structure TopC where
  name : ByteArray
  parts : Int
def rSub : Rdr SubC := fun w cs s => ∃ a cap, cs = [.int .i64 s.member, .slice a s.topics.length cap] ∧ SlAt 1 rStr w a cap s.topics ∧ (Lit.int .i64 s.member).wf = true
def rTop : Rdr TopC := fun _ cs t => cs = [.string t.name, .int .i64 t.parts] ∧ (Lit.int .i64 t.parts).wf = true

theorem sub_cells {w0 w : World} {b off : Nat} {l : List SubC} (h : RowAt 2 rSub w0 b off l) (hb : Below w0.heap.size w0 w) (k : Nat) (hk : k < l.length) :
    ∃ a cap, w.cell? ⟨b, off + k * 2, none⟩ = some (.int .i64 l[k].member) ∧ w.cell? ⟨b, off + k * 2 + 1, none⟩ = some (.slice a l[k].topics.length cap) ∧ b < w.heap.size ∧ SlAt 1 rStr w0 a cap l[k].topics := by
  obtain ⟨cs, h1, h2, a, cap, rfl, h3, _⟩ := h k hk
  have e0 : w0.cell? ⟨b, off + k * 2, none⟩ = some (.int .i64 l[k].member) := h2 0 (by omega)
  exact ⟨a, cap, (below_cell hb e0).1, (below_cell hb (h2 1 (by omega))).1, (below_cell hb e0).2, h3⟩

theorem top_cells {w0 w : World} {b off : Nat} {l : List TopC} (h : RowAt 2 rTop w0 b off l) (hb : Below w0.heap.size w0 w) (k : Nat) (hk : k < l.length) :
    w.cell? ⟨b, off + k * 2, none⟩ = some (.string l[k].name) ∧ w.cell? ⟨b, off + k * 2 + 1, none⟩ = some (.int .i64 l[k].parts) ∧ b < w.heap.size := by
  obtain ⟨cs, h1, h2, rfl, _⟩ := h k hk
  have e0 : w0.cell? ⟨b, off + k * 2, none⟩ = some (.string l[k].name) := h2 0 (by omega)
  exact ⟨(below_cell hb e0).1, (below_cell hb (h2 1 (by omega))).1, (below_cell hb e0).2⟩
theorem str_cells {w0 w : World} {b off : Nat} {l : List ByteArray} (h : RowAt 1 rStr w0 b off l) (hb : Below w0.heap.size w0 w) (k : Nat) (hk : k < l.length) :
    w.cell? ⟨b, off + k, none⟩ = some (.string l[k]) ∧ b < w.heap.size := by
  obtain ⟨cs, h1, h2, rfl, _⟩ := h k hk
  have e0 : w0.cell? ⟨b, off + k, none⟩ = some (.string l[k]) := by have := h2 0 (by omega); simpa using this
  exact below_cell hb e0
def fewB (subs : List SubC) (tops : List TopC) : Bool := decide (subs.length ≤ 30) && decide (tops.length ≤ 30) && subs.all fun s => decide (s.topics.length ≤ 30)

def Same (w : World) (e : Ending) (v : Value) (w' : World) : Prop := e = .returned v ∧ Keeps (fun _ => False) w w'

end Go.Proofs.Ytlmajhkhlmkeiaa
