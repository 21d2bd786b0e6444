/-
  Maps in memory at the operations of a walk; and what a call leaves as it was, but for some blocks. Over any program.
-/
import Derived.Test.YtbjpifipjcfhkaaMp
import Derived.Deep.Draws
namespace Go.Proofs.Ytbjpifipjcfhkaa.Fx
open Go.RowKit Go.MapKept

/-- w' is w but for the blocks of S (and new ones). -/
structure Keeps (S : Nat → Prop) (w w' : World) : Prop where
  os : w'.os = w.os
  tape : w'.tape = w.tape
  output : w'.output = w.output
  size : w.heap.size ≤ w'.heap.size
  block : ∀ k, k < w.heap.size → ¬ S k → w'.heap[k]? = w.heap[k]?

section
variable {S S1 : Nat → Prop} {w w1 w2 : World}
theorem Keeps.refl (S : Nat → Prop) (w : World) : Keeps S w w := ⟨rfl, rfl, rfl, Nat.le_refl _, fun _ _ _ => rfl⟩
theorem Keeps.trans (h : Keeps S w w1) (h1 : Keeps S1 w1 w2) (hs : ∀ k, k < w.heap.size → S1 k → S k) : Keeps S w w2 :=
  ⟨h1.os.trans h.os, h1.tape.trans h.tape, h1.output.trans h.output, Nat.le_trans h.size h1.size,
    fun k hk hS => (h1.block k (Nat.lt_of_lt_of_le hk h.size) (fun e => hS (hs k hk e))).trans (h.block k hk hS)⟩
theorem Keeps.mono (h : Keeps S w w1) (hs : ∀ k, k < w.heap.size → S k → S1 k) : Keeps S1 w w1 :=
  ⟨h.os, h.tape, h.output, h.size, fun k hk hS => h.block k hk fun e => hS (hs k hk e)⟩
theorem Keeps.alloc (h : Keeps S w w1) (o : Obj) : Keeps S w (w1.alloc o) :=
  ⟨h.os, h.tape, h.output, by have := h.size; simp; omega, fun k hk hS => (Below.heap_alloc w1 o k (Nat.lt_of_lt_of_le hk h.size)).trans (h.block k hk hS)⟩
/-- All that was there is as it was. -/
abbrev K0 (w w' : World) : Prop := Keeps (fun _ => False) w w'
theorem K0.tr (h : K0 w w1) (h1 : K0 w1 w2) : K0 w w2 := h.trans h1 (fun _ _ h => h)
theorem K0.below (h : K0 w w1) : Below w.heap.size w w1 := ⟨h.os, h.tape, h.output, h.size, fun k hk => h.block k hk (fun e => e)⟩
theorem K0.of_below (h : Below w.heap.size w w1) : K0 w w1 := ⟨h.os, h.tape, h.output, h.size, fun k hk _ => h.block k hk⟩
/-- Behind a world that grew out of w0, one that keeps all of it has grown out of w0 too. -/
theorem K0.after {w0 : World} (h : K0 w w1) (hb : Below w0.heap.size w0 w) : Below w0.heap.size w0 w1 := hb.trans (h.below.mono hb.size)
theorem Keeps.drew (h : Keeps S w w1) : Keeps S w w1.drew := ⟨h.os, h.tape, h.output, h.size, h.block⟩
theorem Keeps.drewN (h : Keeps S w w1) (n : Nat) : Keeps S w (w1.drewN n) := ⟨h.os, h.tape, h.output, h.size, h.block⟩
theorem Keeps.setCell (h : Keeps S w w1) {p : Addr} (hp : p.block < w.heap.size → S p.block) (u : Value) : Keeps S w (w1.setCell p u) :=
  ⟨h.os, h.tape, h.output, by have := h.size; simp [World.setCell]; omega, fun k hk hS =>
    (Below.heap_setCell w1 p u k (fun e => hS (e ▸ hp (e ▸ hk)))).trans (h.block k hk hS)⟩
theorem Keeps.setC (h : Keeps S w w1) {b : Nat} (i : Nat) (u : Value) (hp : b < w.heap.size → S b) : Keeps S w (w1.setCell ⟨b, i, none⟩ u) := h.setCell (p := ⟨b, i, none⟩) hp u
/-- What held no block of w that may turn holds none. -/
theorem Keeps.none (h : Keeps S w w1) (hs : ∀ k, k < w.heap.size → ¬ S k) : Keeps (fun _ => False) w w1 := ⟨h.os, h.tape, h.output, h.size, fun k hk _ => h.block k hk (hs k hk)⟩
theorem Keeps.setObj (h : Keeps S w w1) {b : Nat} (hp : b < w.heap.size → S b) (o : Obj) : Keeps S w (setObjAt w1 b o) :=
  ⟨h.os, h.tape, h.output, by rw [setObjAt_size]; exact h.size, fun k hk hS => (setObjAt_other w1 o (fun e => by subst e; exact hS (hp hk))).trans (h.block k hk hS)⟩
theorem Keeps.below (h : Keeps S w w1) {B : Nat} (hB : B ≤ w.heap.size) (hs : ∀ k, S k → B ≤ k) : Below B w w1 :=
  ⟨h.os, h.tape, h.output, h.size, fun k hk => h.block k (by omega) fun e => by have := hs k e; omega⟩
theorem Keeps.of_below {B : Nat} (h : Below B w w1) (hs : ∀ k, B ≤ k → k < w.heap.size → S k) : Keeps S w w1 :=
  ⟨h.os, h.tape, h.output, h.size, fun k hk hS => h.block k ((Nat.lt_or_ge k B).elim id fun h => absurd (hs k h hk) hS)⟩
theorem Keeps.cell (h : Keeps S w w1) {p : Addr} (hp : p.block < w.heap.size) (hS : ¬ S p.block) : w1.cell? p = w.cell? p :=
  World.cell?_of_block (w := w) (h.block p.block hp hS)
theorem Keeps.cell' (h : Keeps S w w1) {p : Addr} {v : Value} (hc : w.cell? p = some v) (hS : ¬ S p.block) : w1.cell? p = some v :=
  (h.cell (World.block_lt_of_cell? w p hc) hS).trans hc
theorem Keeps.frozen (h : Keeps S w w1) {p : Addr} (hp : p.block < w.heap.size) (hS : ¬ S p.block) : w1.frozen? p = w.frozen? p :=
  World.frozen?_of_block (w := w) (h.block p.block hp hS)
theorem Keeps.grown {row : Option Nat} (h : Keeps S w w1) (hg : w1.grownBy w2 row) (hr : ∀ k, row = some k → k < w.heap.size → S k) : Keeps S w w2 :=
  ⟨hg.os.trans h.os, hg.tape.trans h.tape, hg.output.trans h.output, Nat.le_trans h.size hg.size, fun k hk hS =>
    (hg.block k (Nat.lt_of_lt_of_le hk h.size) (fun e => hS (hr k e.symm hk))).trans (h.block k hk hS)⟩
end

/-- A store into a known block. -/
theorem setCell_block {w : World} {b : Nat} {c : Array Value} {e : TypeId} {f : Nat × Nat} (h : w.heap[b]? = some (.cells c e f)) (i : Nat) (v : Value) :
    (w.setCell ⟨b, i, none⟩ v).heap[b]? = some (.cells (c.setIfInBounds i v) e f) := by
  simp [World.setCell, Array.getElem?_modify, h]

section
variable (w : World) (b : Nat) (o : Obj) (p : Addr)
@[go_sem] theorem cell?_setObjAt (h : p.block ≠ b) : (setObjAt w b o).cell? p = w.cell? p := World.cell?_of_block (w := w) (setObjAt_other w o h)
@[go_sem] theorem frozen?_setObjAt (h : p.block ≠ b) : (setObjAt w b o).frozen? p = w.frozen? p := World.frozen?_of_block (w := w) (setObjAt_other w o h)
@[go_sem] theorem size_setObjAt : (setObjAt w b o).heap.size = w.heap.size := setObjAt_size w b o
end

section
variable {P : Program} {kt : TypeId} {κ : Type} [DecidableEq κ]
omit [DecidableEq κ] in
theorem MapAt.keep {e : κ → Value} {w w' : World} {b : Nat} {L : List (κ × Value)} {S : Nat → Prop} (h : MapAt e w b L) (hk : Keeps S w w') (hS : ¬ S b) : MapAt e w' b L :=
  h.of_block (hk.block b h.lt hS)

variable (E : KeyEnc P kt κ) {w : World} {b : Nat} {L : List (κ × Value)} {ops : Array Oper} {rest : List Oper} {o : Oper} {a : Act} {Q : Exit → Act → World → Prop}
/-- A look-up in the walk. -/
theorem wpList_look (hg : o.guard = none) {m x : Operand} {t : TypeId} {c : Bool} (hop : o.op = Op.lookup t m x c)
    {et : TypeId} (ht : P.underlying t = some (.map kt et)) {z : Value} (hz : ∀ w, (zeroValue et).run P w = .ok z w) (hm : a.eval m = .map (some b)) (k : κ) (hx : a.eval x = E.enc k) (h : MapAt E.enc w b L) (v : Option Value) (hv : aget L k = v)
    (hK : wpList P ops Q rest (a.put o.dst (if c then .tuple #[v.getD z, .bool v.isSome] else v.getD z)) w) :
    wpList P ops Q (o :: rest) a w := by
  refine wpList_plain hg fun K' hK' => ?_
  have hrun := h.look E ht (hz w) k c
  unfold Oper.wp
  subst hv
  simp [execOp, hop, hm, hx, hrun, Result.andThen]
  exact hK' _ _ hK
/-- A store in the walk: some world in which the map has one entry put, but for its block the same. -/
theorem wpList_put (hg : o.guard = none) {m x v : Operand} {t : TypeId} (hop : o.op = Op.mapUpdate t m x v)
    {et : TypeId} (ht : P.underlying t = some (.map kt et)) (hm : a.eval m = .map (some b)) (k : κ) (hx : a.eval x = E.enc k) (h : MapAt E.enc w b L) (val : Value) (hv : a.eval v = val)
    (hK : ∀ ob, MapAt E.enc (setObjAt w b ob) b (aput L k val) → wpList P ops Q rest (a.put o.dst undef) (setObjAt w b ob)) :
    wpList P ops Q (o :: rest) a w := by
  refine wpList_plain hg fun K' hK' => ?_
  obtain ⟨ob, hrun, h'⟩ := h.put E ht k val
  unfold Oper.wp
  simp [execOp, hop, hm, hx, hv, hrun, Result.andThen]
  exact hK' _ _ (hK ob h')
/-- A delete in the walk. -/
theorem wpList_del (hg : o.guard = none) {m x : Operand} {t ts : TypeId} (hop : o.op = Op.call { callee := Callee.builtin Builtin.delete, args := #[m, x], argTypes := #[t, ts] })
    {et : TypeId} (ht : P.underlying t = some (.map kt et)) (hm : a.eval m = .map (some b)) (k : κ) (hx : a.eval x = E.enc k) (h : MapAt E.enc w b L)
    (hK : ∀ ob, MapAt E.enc (setObjAt w b ob) b (adel L k) → wpList P ops Q rest (a.put o.dst (.tuple #[])) (setObjAt w b ob)) :
    wpList P ops Q (o :: rest) a w := by
  refine wpList_plain hg fun K' hK' => ?_
  obtain ⟨ob, hrun, h'⟩ := h.del E ht k o.type ts
  unfold Oper.wp
  simp [execOp, hop, resolve, invoke, builtin, hm, hx, hrun, Result.andThen]
  exact hK' _ _ (hK ob h')
omit [DecidableEq κ] in
/-- A length in the walk. -/
theorem wpList_len (hg : o.guard = none) {m : Operand} {t : TypeId} (hop : o.op = Op.call { callee := Callee.builtin Builtin.len, args := #[m], argTypes := #[t] })
    {e : κ → Value} {et : TypeId} (ht : P.underlying t = some (.map kt et)) (hm : a.eval m = .map (some b)) (h : MapAt e w b L)
    (hK : wpList P ops Q rest (a.put o.dst (.int .i64 L.length)) w) :
    wpList P ops Q (o :: rest) a w := by
  refine wpList_plain hg fun K' hK' => ?_
  have hrun := h.len ht o.type
  unfold Oper.wp
  simp [execOp, hop, resolve, invoke, builtin, hm, hrun, Result.andThen]
  exact hK' _ _ hK
end
end Go.Proofs.Ytbjpifipjcfhkaa.Fx
