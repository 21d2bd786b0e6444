/-
  Shares as they read; whether two lists of shares are the same.
-/
import Derived.Test.YtklhlffdpojkoaaAk
namespace Go.Proofs.Ytklhlffdpojkoaa
open Go.RowKit Fx

def rPart : Rdr PartC := fun _ cs p => cs = [.string p.topic, .int .i64 p.index]
def rShare : Rdr ShareC := fun w cs s => ∃ a cap, cs = [.int .i64 s.member, .slice a s.parts.length cap] ∧ SlAt 2 rPart w a cap s.parts
theorem stable_part : Stable rPart := fun _ _ _ _ _ h => h
theorem stable_share : Stable rShare := fun _ _ _ _ hk ⟨a, cap, h1, h2⟩ => ⟨a, cap, h1, h2.keep0 stable_part hk⟩
/-- What Range and Round answer, as it reads. -/
def ListPost (w : World) (er : Int) (l : List ShareC) (e : Ending) (w' : World) : Prop :=
  ∃ a cap, e = .returned (.tuple #[.slice a l.length cap, .int .i64 er]) ∧ SlAt 2 rShare w' a cap l ∧ K0 w w'
def orNil (er : Int) (l : List ShareC) : List ShareC := if er = 0 then l else []
theorem share_cells {w0 w : World} {b off : Nat} {l : List ShareC} (h : RowAt 2 rShare w0 b off l) (hb : Below w0.heap.size w0 w) (k : Nat) (hk : k < l.length) :
    ∃ a cap, w.cell? ⟨b, off + k * 2, none⟩ = some (.int .i64 l[k].member) ∧ w.cell? ⟨b, off + k * 2 + 1, none⟩ = some (.slice a l[k].parts.length cap) ∧ b < w.heap.size ∧ SlAt 2 rPart w0 a cap l[k].parts := by
  obtain ⟨cs, h1, h2, a, cap, rfl, h3⟩ := h k hk
  have e0 : w0.cell? ⟨b, off + k * 2, none⟩ = some (.int .i64 l[k].member) := h2 0 (by omega)
  exact ⟨a, cap, (below_cell hb e0).1, (below_cell hb (h2 1 (by omega))).1, (below_cell hb e0).2, h3⟩
theorem part_cells {w0 w : World} {b off : Nat} {l : List PartC} (h : RowAt 2 rPart w0 b off l) (hb : Below w0.heap.size w0 w) (k : Nat) (hk : k < l.length) :
    w.cell? ⟨b, off + k * 2, none⟩ = some (.string l[k].topic) ∧ w.cell? ⟨b, off + k * 2 + 1, none⟩ = some (.int .i64 l[k].index) ∧ b < w.heap.size := by
  obtain ⟨cs, h1, h2, rfl⟩ := h k hk
  have e0 : w0.cell? ⟨b, off + k * 2, none⟩ = some (.string l[k].topic) := h2 0 (by omega)
  exact ⟨(below_cell hb e0).1, (below_cell hb (h2 1 (by omega))).1, (below_cell hb e0).2⟩

theorem h41a : Try.prog.underlying 42 = some (.struct (Try.prog.fieldsOf 42)) := by kernel_rfl
theorem h41b : Try.prog.stoodInHeld 42 = false := by kernel_rfl
theorem h41c : Try.prog.eqGuardType Try.prog.depth 42 = false := by kernel_rfl

theorem fields_of {P : Program} {t : TypeId} {fs : Array Field} (h : P.underlying t = some (.struct fs)) : P.fieldsOf t = fs := by simp [Program.fieldsOf, h]
theorem eql41 (s1 s2 : ByteArray) (i1 i2 : Int) (w : World) : (binOp .eql 42 (.agg #[.string s1, .int .i64 i1]) (.agg #[.string s2, .int .i64 i2])).run Try.prog w = .ok (.bool (s1.toList == s2.toList && i1 == i2)) w := by
  rw [run_eql_struct, run_equalIn_struct w 9999 42 _ _ h41a h41b, fields_of Try.underlying42]
  simp [Op.eqFields, go_sem]
  by_cases h1 : s1.toList = s2.toList <;> by_cases h2 : i1 = i2 <;> simp [h1, h2]
theorem neq41 (s1 s2 : ByteArray) (i1 i2 : Int) (w : World) : (binOp .neq 42 (.agg #[.string s1, .int .i64 i1]) (.agg #[.string s2, .int .i64 i2])).run Try.prog w = .ok (.bool (!(s1.toList == s2.toList && i1 == i2))) w := by
  rw [run_neq_struct, run_equalIn_struct w 9999 42 _ _ h41a h41b, fields_of Try.underlying42]
  simp [Op.eqFields, go_sem]
  by_cases h1 : s1.toList = s2.toList <;> by_cases h2 : i1 = i2 <;> simp [h1, h2]
theorem neq41_same (s : ByteArray) (i : Int) (w : World) : (binOp .neq 42 (.agg #[.string s, .int .i64 i]) (.agg #[.string s, .int .i64 i])).run Try.prog w = .ok (.bool false) w := by
  rw [neq41]; simp
end Go.Proofs.Ytklhlffdpojkoaa
