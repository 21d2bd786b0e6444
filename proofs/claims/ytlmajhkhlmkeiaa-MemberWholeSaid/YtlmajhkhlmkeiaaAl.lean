/-
  Shares as they read; whether two lists of shares are the same.
-/
import Derived.Test.YtlmajhkhlmkeiaaAk
namespace Go.Proofs.Ytlmajhkhlmkeiaa
open Go.RowKit Fx

def rPart : Rdr PartC := fun _ cs p => cs = [.string p.topic, .int .i64 p.index]
def rShare : Rdr ShareC := fun w cs s => ∃ a cap, cs = [.int .i64 s.member, .slice a s.parts.length cap] ∧ SlAt 2 rPart w a cap s.parts
theorem stable_part : Stable rPart := fun _ _ _ _ _ h => h
theorem stable_share : Stable rShare := fun _ _ _ _ hk ⟨a, cap, h1, h2⟩ => ⟨a, cap, h1, h2.keep0 stable_part hk⟩
theorem SharesAt.slAt {w : World} {F : Nat → Prop} {v : Value} {l : List ShareC} {vs : List Value} (h : SharesAt w F v l vs) : ∃ a cap, v = .slice a l.length cap ∧ SlAt 2 rShare w a cap l := by
  rcases h.row.2 with ⟨rfl, h0⟩ | ⟨g, cap, cur, rfl, hb, hg, hc, hm, hs, ht⟩
  · have : l = [] := List.eq_nil_of_length_eq_zero h0
    subst this
    exact ⟨none, 0, rfl, ⟨Nat.le_refl _, by unfold maxLen; omega, fun h => absurd rfl h⟩⟩
  · refine ⟨_, cap, rfl, hc, hm, fun _ => ⟨g, 0, rfl, fun i hi => ?_⟩⟩
    have hiv : i < vs.length := by rw [h.len]; exact hi
    obtain ⟨a, c, e1, e2, _⟩ := own_slAt (R := rPart) (fun p : PartC => [.string p.topic, .int .i64 p.index]) (fun _ => rfl) (fun _ => rfl) (h.parts i hi)
    refine ⟨[.int .i64 l[i].member, vs[i]], rfl, fun j hj => ?_, a, c, by rw [e1], e2⟩
    have hcell := h.row.cellAt (i * 2 + j) (by omega)
    rw [show 0 + i * 2 + j = i * 2 + j by omega, hcell]
    match j, hj with
    | 0, _ => exact shCells_member _ _ _ hi h.len
    | 1, _ => exact shCells_value _ _ _ hiv h.len

/-- What Range and Round answer, as it reads. -/
def ListPost (w : World) (er : Int) (l : List ShareC) (e : Ending) (w' : World) : Prop :=
  ∃ a cap, e = .returned (.tuple #[.slice a l.length cap, .int .i64 er]) ∧ SlAt 2 rShare w' a cap l ∧ K0 w w'
def orNil (er : Int) (l : List ShareC) : List ShareC := if er = 0 then l else []
theorem DealPost.list {w w' : World} {er : Int} {l : List ShareC} {e : Ending} (h : DealPost w er l e w') : ListPost w er (orNil er l) e w' := by
  rcases h with ⟨rfl, h1, h2⟩ | ⟨rfl, v, F, vs, h1, h2, h3, h4⟩
  · exact ⟨none, 0, h1, ⟨Nat.le_refl _, by unfold maxLen; omega, fun h => absurd rfl h⟩, h2⟩
  · obtain ⟨a, cap, rfl, h5⟩ := h2.slAt
    exact ⟨a, cap, h1, h5, h4⟩
theorem share_cells {w0 w : World} {b off : Nat} {l : List ShareC} (h : RowAt 2 rShare w0 b off l) (hb : Below w0.heap.size w0 w) (k : Nat) (hk : k < l.length) :
    ∃ a cap, w.cell? ⟨b, off + k * 2, none⟩ = some (.int .i64 l[k].member) ∧ w.cell? ⟨b, off + k * 2 + 1, none⟩ = some (.slice a l[k].parts.length cap) ∧ b < w.heap.size ∧ SlAt 2 rPart w0 a cap l[k].parts := by
  obtain ⟨cs, h1, h2, a, cap, rfl, h3⟩ := h k hk
  have e0 : w0.cell? ⟨b, off + k * 2, none⟩ = some (.int .i64 l[k].member) := h2 0 (by omega)
  exact ⟨a, cap, (below_cell hb e0).1, (below_cell hb (h2 1 (by omega))).1, (below_cell hb e0).2, h3⟩
theorem part_cells {w0 w : World} {b off : Nat} {l : List PartC} (h : RowAt 2 rPart w0 b off l) (hb : Below w0.heap.size w0 w) (k : Nat) (hk : k < l.length) :
    w.cell? ⟨b, off + k * 2, none⟩ = some (.string l[k].topic) ∧ w.cell? ⟨b, off + k * 2 + 1, none⟩ = some (.int .i64 l[k].index) ∧ b < w.heap.size := by
  obtain ⟨cs, h1, h2, rfl⟩ := h k hk
  have e0 : w0.cell? ⟨b, off + k * 2, none⟩ = some (.string l[k].topic) := h2 0 (by omega)
  exact ⟨(below_cell hb e0).1, (below_cell hb (h2 1 (by omega))).1, (below_cell hb e0).2⟩

theorem h41a : Try.prog.underlying 61 = some (.struct (Try.prog.fieldsOf 61)) := by kernel_rfl
theorem h41b : Try.prog.stoodInHeld 61 = false := by kernel_rfl
theorem h41c : Try.prog.eqGuardType Try.prog.depth 61 = false := by kernel_rfl

theorem fields_of {P : Program} {t : TypeId} {fs : Array Field} (h : P.underlying t = some (.struct fs)) : P.fieldsOf t = fs := by simp [Program.fieldsOf, h]
theorem eql41 (s1 s2 : ByteArray) (i1 i2 : Int) (w : World) : (binOp .eql 61 (.agg #[.string s1, .int .i64 i1]) (.agg #[.string s2, .int .i64 i2])).run Try.prog w = .ok (.bool (s1.toList == s2.toList && i1 == i2)) w := by
  rw [run_eql_struct, run_equalIn_struct w 9999 61 _ _ h41a h41b, fields_of Try.underlying61]
  simp [Op.eqFields, go_sem]
  by_cases h1 : s1.toList = s2.toList <;> by_cases h2 : i1 = i2 <;> simp [h1, h2]
theorem neq41 (s1 s2 : ByteArray) (i1 i2 : Int) (w : World) : (binOp .neq 61 (.agg #[.string s1, .int .i64 i1]) (.agg #[.string s2, .int .i64 i2])).run Try.prog w = .ok (.bool (!(s1.toList == s2.toList && i1 == i2))) w := by
  rw [run_neq_struct, run_equalIn_struct w 9999 61 _ _ h41a h41b, fields_of Try.underlying61]
  simp [Op.eqFields, go_sem]
  by_cases h1 : s1.toList = s2.toList <;> by_cases h2 : i1 = i2 <;> simp [h1, h2]
theorem neq41_same (s : ByteArray) (i : Int) (w : World) : (binOp .neq 61 (.agg #[.string s, .int .i64 i]) (.agg #[.string s, .int .i64 i])).run Try.prog w = .ok (.bool false) w := by
  rw [neq41]; simp
set_option maxRecDepth 100000 in
set_option maxHeartbeats 1000000 in
/-- Two lists that are equal are told the same. -/
theorem sameParts24 (w0 w : World) (a1 a2 : Option Addr) (c1 c2 : Nat) (l : List PartC) (h1 : SlAt 2 rPart w0 a1 c1 l) (h2 : SlAt 2 rPart w0 a2 c2 l) (hb : Below w0.heap.size w0 w) :
    Calls Try.prog 37 #[.slice a1 l.length c1, .slice a2 l.length c2] w fun e w' => e = .returned (.bool true) ∧ ∃ n, w' = w.drewN n := by
  have hm := h1.len
  have H1 := Lib.hid h1
  have H2 := Lib.hid h2
  have HB := Lib.hid hb
  clear h1 h2 hb
  have hne : ((l.length : Int) != l.length) = false := by simp
  go_enter Try.func37, Try.ntmps37
  go_wp2
  go_loopw [5] (fun i wr => ∃ k : Nat, i = .int .i64 k ∧ k ≤ l.length ∧ ∃ n, wr = w.drewN n) (fun i _ => l.length - (intOf i).toNat)
  case atStart => exact ⟨0, rfl, by omega, 0, rfl⟩
  case round =>
    obtain ⟨k, rfl, hk, n, rfl⟩ := hrel
    by_cases hlt : k < l.length
    · obtain ⟨b1, off1, rfl, r1⟩ := H1.out.row hlt
      obtain ⟨b2, off2, rfl, r2⟩ := H2.out.row hlt
      obtain ⟨x0, x1, hb1⟩ := part_cells r1 HB.out k hlt
      obtain ⟨y0, y1, hb2⟩ := part_cells r2 HB.out k hlt
      clear r1 r2
      have i0 : (0 : Int) ≤ k := by omega
      have i1 : (k : Int) < l.length := by omega
      have q1 := neq41_same
      have q3 := h41c
      generalize l[k].topic = s at x0 y0
      generalize l[k].index = i at x1 y1
      go_wp2_with fail
      go_quiet (fail)
      go_wp2
      go_roundw
      case rel => exact ⟨k + 1, by go_num, by omega, n + _, rfl⟩
      case measure => simp [intOf]; omega
    · clear hk
      go_wp2
      go_ret
      exact ⟨rfl, n, rfl⟩

end Go.Proofs.Ytlmajhkhlmkeiaa
