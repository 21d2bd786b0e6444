/-
  Parse: what one round does to memory.
-/
import Derived.Test.YtegbiekfpcfnnaaUi
namespace Go.Proofs.Ytegbiekfpcfnnaa
open Go.RowKit Fx

/-- Blocks that are apart, and new. -/
structure PBk (w : World) (rb tb m d : Nat) : Prop where
  a1 : rb ≠ tb
  a2 : rb ≠ m
  a3 : rb ≠ d
  a4 : tb ≠ d
  a5 : m ≠ d
  b1 : w.heap.size ≤ rb
  b2 : w.heap.size ≤ tb
  b3 : w.heap.size ≤ m
  b4 : w.heap.size ≤ d
structure PAt (w wr : World) (rb tb m d : Nat) (s : ByteArray) (nx : Int) (p : PSt) : Prop where
  rd : Rr 65 wr rb s p.a p.e
  tb : TblAt wr tb m ⟨nx, mapO p.l⟩
  ids : MapAt (.int .i64) wr d (idsO p.l)
  k0 : K0 w wr
theorem k0_then {w wr wx : World} {S : Nat → Prop} (h : K0 w wr) (hk : Keeps S wr wx) (hS : ∀ k, S k → w.heap.size ≤ k) : K0 w wx := h.trans hk (fun k hlt e => by have := hS k e; omega)
theorem setObjAt_same {w : World} {b : Nat} (o : Obj) (h : b < w.heap.size) : (setObjAt w b o).heap[b]? = some o := by simp [setObjAt, h]
theorem setObjAt_cell (w : World) {b b' : Nat} (o : Obj) (i : Nat) (h : b' ≠ b) : (setObjAt w b o).cell? ⟨b', i, none⟩ = w.cell? ⟨b', i, none⟩ := by
  have h1 := setObjAt_other w o h
  simp only [World.cell?, h1]
theorem intKeyT : Try.prog.underlying 3 = some (.int .i64) := Try.underlying3
theorem zeroBool (w : World) : (zeroValue 4).run Try.prog w = .ok (.bool false) w := by kernel_rfl
/-- What a walk uses of the statement that stores an entry in each map. -/
structure R14 (D : World) (m d tb bx : Nat) (nm : ByteArray) (id pt : Int) (v0 : Value) (st : Int) (o1 o2 q : Obj) : Prop where
  e0 : (Instr.mapEntry 54 (.map (some m)) (.string nm)).run Try.prog D = .ok (.tuple #[v0, .int .i64 st]) (setObjAt D m o1)
  e1 : (Instr.mapEntry 54 (.map (some m)) (.string nm)).run Try.prog (setObjAt D d q) = .ok (.tuple #[v0, .int .i64 st]) (setObjAt (setObjAt D d q) m o1)
  s0 : (Instr.entryStore 54 (.map (some m)) (.int .i64 st) (.agg #[.int .i64 id, .int .i64 pt])).run Try.prog (setObjAt D m o1) = .ok () (setObjAt (setObjAt D m o1) m o2)
  s1 : (Instr.entryStore 54 (.map (some m)) (.int .i64 st) (.agg #[.int .i64 id, .int .i64 pt])).run Try.prog (setObjAt (setObjAt D m o1) d q) = .ok () (setObjAt (setObjAt (setObjAt D m o1) d q) m o2)
  s2 : (Instr.entryStore 54 (.map (some m)) (.int .i64 st) (.agg #[.int .i64 id, .int .i64 pt])).run Try.prog (setObjAt (setObjAt D d q) m o1) = .ok () (setObjAt (setObjAt (setObjAt D d q) m o1) m o2)
  u0 : (Instr.mapUpdate 67 (.map (some d)) (.int .i64 id) (.bool true)).run Try.prog D = .ok () (setObjAt D d q)
  u1 : (Instr.mapUpdate 67 (.map (some d)) (.int .i64 id) (.bool true)).run Try.prog (setObjAt D m o1) = .ok () (setObjAt (setObjAt D m o1) d q)
  u2 : (Instr.mapUpdate 67 (.map (some d)) (.int .i64 id) (.bool true)).run Try.prog (setObjAt (setObjAt D m o1) m o2) = .ok () (setObjAt (setObjAt (setObjAt D m o1) m o2) d q)
  t1 : ∀ wx o, (setObjAt wx m o).cell? ⟨tb, 1, none⟩ = wx.cell? ⟨tb, 1, none⟩
  t2 : ∀ wx o, (setObjAt wx d o).cell? ⟨tb, 1, none⟩ = wx.cell? ⟨tb, 1, none⟩
  x1 : ∀ wx o, (setObjAt wx m o).cell? ⟨bx, 0, none⟩ = wx.cell? ⟨bx, 0, none⟩
  x2 : ∀ wx o, (setObjAt wx d o).cell? ⟨bx, 0, none⟩ = wx.cell? ⟨bx, 0, none⟩
  y1 : ∀ wx o, (setObjAt wx m o).cell? ⟨bx, 1, none⟩ = wx.cell? ⟨bx, 1, none⟩
  y2 : ∀ wx o, (setObjAt wx d o).cell? ⟨bx, 1, none⟩ = wx.cell? ⟨bx, 1, none⟩
  c0 : D.cell? ⟨tb, 1, none⟩ = some (.map (some m))
  c1 : D.cell? ⟨bx, 0, none⟩ = some (.int .i64 id)
  c2 : D.cell? ⟨bx, 1, none⟩ = some (.int .i64 pt)
/-- .. and what holds behind it. -/
def R14e (w : World) (rb tb m d : Nat) (s : ByteArray) (nx : Int) (p : PSt) (D : World) (o1 o2 q : Obj) : Prop :=
  PAt w (setObjAt (setObjAt (setObjAt D m o1) m o2) d q) rb tb m d s nx p ∧ PAt w (setObjAt (setObjAt (setObjAt D m o1) d q) m o2) rb tb m d s nx p ∧ PAt w (setObjAt (setObjAt (setObjAt D d q) m o1) m o2) rb tb m d s nx p
theorem reg14 {w D : World} {rb tb m d bx : Nat} {s : ByteArray} {nx : Int} {l : List OneP} {a e id pt : Int} (nm : ByteArray) (B : PBk w rb tb m d) (hx : bx ≠ m ∧ bx ≠ d) (h : PAt w D rb tb m d s nx ⟨a, e, l⟩)
    (hb : D.heap[bx]? = some (.cells #[.int .i64 id, .int .i64 pt] 58 (0, 0))) :
    ∃ v0 st o1 o2 q, R14 D m d tb bx nm id pt v0 st o1 o2 q ∧ R14e w rb tb m d s nx ⟨a, e, l ++ [(nm, (id, pt))]⟩ D o1 o2 q := by
  obtain ⟨O0, v0, st, o1, o2, hO, hE, hS, hM⟩ := MapAt.entry (strKey Try.underlying9) (P := Try.prog) h.tb.map Try.underlying54 zero58 nm (.agg #[.int .i64 id, .int .i64 pt])
  obtain ⟨Q0, q, hQ, hU, hI⟩ := MapAt.putB (intKey intKeyT) (P := Try.prog) h.ids Try.underlying67 id (.bool true)
  have lm : m < D.heap.size := h.tb.map.lt
  have ld : d < D.heap.size := h.ids.lt
  have ltb := h.tb.lt
  have nmd : m ≠ d := B.a5
  have ndm : d ≠ m := fun e => B.a5 e.symm
  have sz : ∀ wx k o, (setObjAt wx k o).heap.size = wx.heap.size := fun wx k o => setObjAt_size wx k o
  have hk : ∀ wf, wf.heap[m]? = some o2 → wf.heap[d]? = some q → Keeps (fun k => k = m ∨ k = d) D wf → PAt w wf rb tb m d s nx ⟨a, e, l ++ [(nm, (id, pt))]⟩ := fun wf h1 h2 h3 => by
    refine ⟨h.rd.keep h3 (fun e => e.elim B.a2 B.a3), ⟨h.tb.ne, (h3.block tb ltb (fun e => e.elim h.tb.ne B.a4)).trans h.tb.rcd, ?_⟩, ?_, k0_then h.k0 h3 (fun k e => by rcases e with rfl | rfl; exact B.b3; exact B.b4)⟩
    · show MapAt _ _ _ (Tbl.vals (mapO (l ++ [(nm, (id, pt))])))
      rw [mapO_app, ← aput_vals]
      exact hM wf h1
    · show MapAt _ _ _ (idsO (l ++ [(nm, (id, pt))]))
      rw [idsO_app]
      exact hI wf h2
  have kk : ∀ {wx : World} (k : Nat) (o : Obj), (k = m ∨ k = d) → Keeps (fun k => k = m ∨ k = d) D wx → Keeps (fun k => k = m ∨ k = d) D (setObjAt wx k o) := fun k o hk h => h.setObj (fun _ => hk) o
  have dm : ∀ wx o, (setObjAt wx m o).heap[d]? = wx.heap[d]? := fun wx o => setObjAt_other wx o ndm
  have md : ∀ wx o, (setObjAt wx d o).heap[m]? = wx.heap[m]? := fun wx o => setObjAt_other wx o nmd
  refine ⟨v0, st, o1, o2, q, ⟨hE D hO, hE _ ((md _ _).trans hO), hS _ (setObjAt_same _ lm), hS _ ((md _ _).trans (setObjAt_same _ lm)), hS _ (setObjAt_same _ (by rw [sz]; exact lm)), hU D hQ, hU _ ((dm _ _).trans hQ), hU _ ((dm _ _).trans ((dm _ _).trans hQ)),
    fun wx o => setObjAt_cell wx o 1 h.tb.ne, fun wx o => setObjAt_cell wx o 1 B.a4, fun wx o => setObjAt_cell wx o 0 hx.1, fun wx o => setObjAt_cell wx o 0 hx.2, fun wx o => setObjAt_cell wx o 1 hx.1, fun wx o => setObjAt_cell wx o 1 hx.2, h.tb.cell1, block_cell hb 0, block_cell hb 1⟩, ?_, ?_, ?_⟩
  · exact hk _ ((md _ _).trans (setObjAt_same _ (by rw [sz]; exact lm))) (setObjAt_same _ (by rw [sz, sz]; exact ld)) (kk d q (.inr rfl) (kk m o2 (.inl rfl) (kk m o1 (.inl rfl) (Keeps.refl _ _))))
  · exact hk _ (setObjAt_same _ (by rw [sz, sz]; exact lm)) ((dm _ _).trans (setObjAt_same _ (by rw [sz]; exact ld))) (kk m o2 (.inl rfl) (kk d q (.inr rfl) (kk m o1 (.inl rfl) (Keeps.refl _ _))))
  · exact hk _ (setObjAt_same _ (by rw [sz, sz]; exact lm)) ((dm _ _).trans ((dm _ _).trans (setObjAt_same _ ld))) (kk m o2 (.inl rfl) (kk m o1 (.inl rfl) (kk d q (.inr rfl) (Keeps.refl _ _))))
end Go.Proofs.Ytegbiekfpcfnnaa
