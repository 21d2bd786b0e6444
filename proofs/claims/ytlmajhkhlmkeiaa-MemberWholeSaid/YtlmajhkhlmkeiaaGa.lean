/-
  A group of members as an object in memory: its own block, the row of its members, their topics and partitions.
-/
import Derived.Test.YtlmajhkhlmkeiaaAl
namespace Go.Proofs.Ytlmajhkhlmkeiaa
open Go.RowKit Fx

theorem cell_block1 {w : World} {b o : Nat} {v : Value} (h : w.cell? ⟨b, o, none⟩ = some v) : b < w.heap.size := World.block_lt_of_cell? w _ h
/-- A member, with the values that stand for its topics and partitions. -/
structure OneV where
  member : Int
  tv : Value
  til : Int
  joined : Bool
  pv : Value
  topics : List ByteArray
  parts : List PartC
structure OneC where
  member : Int
  topics : List ByteArray
  til : Int
  joined : Bool
  parts : List PartC
structure GroupC where
  session : Int
  rebalance : Int
  phase : Int
  gen : Int
  next : Int
  til : Int
  ones : List OneC
def OneV.core (x : OneV) : OneC := ⟨x.member, x.topics, x.til, x.joined, x.parts⟩
def oneEnc (x : OneV) : List Value := [.int .i64 x.member, x.tv, .int .i64 x.til, .bool x.joined, x.pv]
theorem oneEnc_len (x : OneV) : (oneEnc x).length = 5 := rfl
def gCells (g : GroupC) (v : Value) : Array Value := #[.int .i64 g.session, .int .i64 g.rebalance, .int .i64 g.phase, .int .i64 g.gen, .int .i64 g.next, .int .i64 g.til, v]

/-- A reading that does not lean on the world. -/
def Still {α : Type} (R : Rdr α) : Prop := ∀ (w w' : World) (cs : List Value) (x : α), R w cs x → R w' cs x
theorem still_str : Still rStr := fun _ _ _ _ h => h
theorem still_part : Still rPart := fun _ _ _ _ h => h
/-- A slice value that reads as l, out of a block of G. -/
def Out {α : Type} (n : Nat) (R : Rdr α) (w : World) (G : Nat → Prop) (v : Value) (l : List α) : Prop :=
  ∃ a cap, v = .slice a l.length cap ∧ SlAt n R w a cap l ∧ ∀ x, a = some x → l ≠ [] → x.block < w.heap.size ∧ G x.block
theorem Out.nil {α : Type} (n : Nat) (R : Rdr α) (w : World) (G : Nat → Prop) : Out n R w G (.slice none 0 0) ([] : List α) :=
  ⟨none, 0, rfl, ⟨Nat.le_refl _, by unfold maxLen; omega, fun h => absurd rfl h⟩, fun x e => by cases e⟩
theorem Out.keep {α : Type} {n : Nat} {R : Rdr α} (hR : Still R) {w w' : World} {G G' S : Nat → Prop} {v : Value} {l : List α} (h : Out n R w G v l) (hk : Keeps S w w') (hS : ∀ k, k < w.heap.size → G k → ¬ S k) (hG : ∀ k, k < w.heap.size → G k → G' k) : Out n R w' G' v l := by
  obtain ⟨a, cap, rfl, ⟨h1, h2, h3⟩, h4⟩ := h
  refine ⟨a, cap, rfl, ⟨h1, h2, fun hne => ?_⟩, fun x e hne => ?_⟩
  · obtain ⟨b, off, rfl, hr⟩ := h3 hne
    obtain ⟨q1, q2⟩ := h4 _ rfl hne
    refine ⟨b, off, rfl, fun i hi => ?_⟩
    obtain ⟨cs, e1, e2, e3⟩ := hr i hi
    exact ⟨cs, e1, fun j hj => by rw [← e2 j hj]; exact hk.cell (p := ⟨b, off + i * n + j, none⟩) q1 (hS b q1 q2), hR _ _ _ _ e3⟩
  · obtain ⟨q1, q2⟩ := h4 _ e hne
    exact ⟨Nat.lt_of_lt_of_le q1 hk.size, hG _ q1 q2⟩

/-- The group at block b: its members' row is v, the blocks of all of it are in F. -/
structure GrpAt (w : World) (F : Nat → Prop) (b : Nat) (g : GroupC) (v : Value) (L : List OneV) : Prop where
  blk : w.heap[b]? = some (.cells (gCells g v) 63 (0, 0))
  row : w.ownsRow 0 43 5 v L.length (L.flatMap oneEnc)
  fb : F b
  lt : ∀ k, F k → k < w.heap.size
  own : ∀ k, v.ownBlock = some k → F k ∧ k ≠ b
  ones : L.map OneV.core = g.ones
  out : ∀ x ∈ L, Out 1 rStr w (fun k => F k ∧ k ≠ b ∧ v.ownBlock ≠ some k) x.tv x.topics ∧ Out 2 rPart w (fun k => F k ∧ k ≠ b ∧ v.ownBlock ≠ some k) x.pv x.parts
def Grp (w : World) (F : Nat → Prop) (b : Nat) (g : GroupC) : Prop := ∃ v L, GrpAt w F b g v L
theorem GrpAt.keep {w w' : World} {F S : Nat → Prop} {b : Nat} {g : GroupC} {v : Value} {L : List OneV} (h : GrpAt w F b g v L) (hk : Keeps S w w') (hS : ∀ k, F k → ¬ S k) : GrpAt w' F b g v L :=
  ⟨(hk.block b (block_lt h.blk) (hS b h.fb)).trans h.blk, own_keep hk h.row (fun k e => hS k (h.own k e).1), h.fb, fun k e => Nat.lt_of_lt_of_le (h.lt k e) hk.size, h.own, h.ones, fun x hx =>
    ⟨(h.out x hx).1.keep still_str hk (fun k _ e => hS k e.1) (fun _ _ e => e), (h.out x hx).2.keep still_part hk (fun k _ e => hS k e.1) (fun _ _ e => e)⟩⟩
theorem Grp.keep {w w' : World} {F S : Nat → Prop} {b : Nat} {g : GroupC} (h : Grp w F b g) (hk : Keeps S w w') (hS : ∀ k, F k → ¬ S k) : Grp w' F b g := by
  obtain ⟨v, L, h⟩ := h
  exact ⟨v, L, h.keep hk hS⟩
/-- What was made since. -/
def Fresh {α : Type} (n : Nat) (R : Rdr α) (w w' : World) (b : Nat) (v' : Value) (tv : Value) (l : List α) : Prop :=
  Out n R w' (fun k => w.heap.size ≤ k ∧ k ≠ b ∧ v'.ownBlock ≠ some k) tv l
theorem GrpAt.step {w w' : World} {F S : Nat → Prop} {b : Nat} {g g' : GroupC} {v v' : Value} {L L' : List OneV} (h : GrpAt w F b g v L) (hk : Keeps S w w') (hS : ∀ k, S k → k = b ∨ v.ownBlock = some k)
    (hblk : w'.heap[b]? = some (.cells (gCells g' v') 63 (0, 0))) (hrow : w'.ownsRow 0 43 5 v' L'.length (L'.flatMap oneEnc))
    (hv : ∀ k, v'.ownBlock = some k → v.ownBlock = some k ∨ w.heap.size ≤ k) (hones : L'.map OneV.core = g'.ones)
    (ht : ∀ x ∈ L', (∃ y ∈ L, x.tv = y.tv ∧ x.topics = y.topics) ∨ Fresh 1 rStr w w' b v' x.tv x.topics)
    (hp : ∀ x ∈ L', (∃ y ∈ L, x.pv = y.pv ∧ x.parts = y.parts) ∨ Fresh 2 rPart w w' b v' x.pv x.parts) :
    GrpAt w' (fun k => F k ∨ (w.heap.size ≤ k ∧ k < w'.heap.size)) b g' v' L' := by
  have hb := block_lt h.blk
  have hG : ∀ k, k < w.heap.size → (F k ∧ k ≠ b ∧ v.ownBlock ≠ some k) → ((F k ∨ (w.heap.size ≤ k ∧ k < w'.heap.size)) ∧ k ≠ b ∧ v'.ownBlock ≠ some k) := fun k hk' e =>
    ⟨.inl e.1, e.2.1, fun e2 => (hv k e2).elim e.2.2 fun e3 => by omega⟩
  have hS' : ∀ k, k < w.heap.size → (F k ∧ k ≠ b ∧ v.ownBlock ≠ some k) → ¬ S k := fun k _ e e2 => (hS k e2).elim e.2.1 e.2.2
  have hfr : ∀ {α : Type} {n : Nat} {R : Rdr α} {tv : Value} {l : List α}, Fresh n R w w' b v' tv l → Out n R w' (fun k => (F k ∨ (w.heap.size ≤ k ∧ k < w'.heap.size)) ∧ k ≠ b ∧ v'.ownBlock ≠ some k) tv l := by
    intro α n R tv l ⟨a, cap, e1, e2, e3⟩
    exact ⟨a, cap, e1, e2, fun x ex hne => ⟨(e3 x ex hne).1, .inr ⟨(e3 x ex hne).2.1, (e3 x ex hne).1⟩, (e3 x ex hne).2.2⟩⟩
  refine ⟨hblk, hrow, .inl h.fb, fun k e => e.elim (fun e => Nat.lt_of_lt_of_le (h.lt k e) hk.size) (fun e => e.2), fun k e => ?_, hones, fun x hx => ⟨?_, ?_⟩⟩
  · rcases hv k e with e1 | e1
    · exact ⟨.inl (h.own k e1).1, (h.own k e1).2⟩
    · exact ⟨.inr ⟨e1, (hrow.lt k e).2⟩, by omega⟩
  · rcases ht x hx with ⟨y, hy, e1, e2⟩ | h1
    · rw [e1, e2]
      exact (h.out y hy).1.keep still_str hk hS' hG
    · exact hfr h1
  · rcases hp x hx with ⟨y, hy, e1, e2⟩ | h1
    · rw [e1, e2]
      exact (h.out y hy).2.keep still_part hk hS' hG
    · exact hfr h1
/-- What a call on a group leaves. -/
def GrpPost (w : World) (F : Nat → Prop) (b : Nat) (g' : GroupC) (w' : World) : Prop :=
  ∃ F', Grp w' F' b g' ∧ (∀ k, F' k → F k ∨ w.heap.size ≤ k) ∧ Keeps F w w'
theorem GrpPost.trans {w w1 w2 : World} {F F1 : Nat → Prop} {b : Nat} {g' : GroupC} (hF : ∀ k, F1 k → F k ∨ w.heap.size ≤ k) (hk : Keeps F w w1) (h : GrpPost w1 F1 b g' w2) : GrpPost w F b g' w2 := by
  obtain ⟨F2, h1, h2, h3⟩ := h
  refine ⟨F2, h1, fun k e => (h2 k e).elim (hF k) (fun e => .inr (Nat.le_trans hk.size e)), hk.trans h3 fun k hk' e => (hF k e).elim id fun e => by omega⟩

theorem flat_len {α : Type} (enc : α → List Value) (n : Nat) (hn : ∀ x, (enc x).length = n) (l : List α) : (l.flatMap enc).length = l.length * n := by
  induction l with
  | nil => simp
  | cons x l ih => simp only [List.flatMap_cons, List.length_append, ih, hn, List.length_cons, Nat.add_mul, Nat.one_mul]; omega
theorem flat_set {α : Type} (enc : α → List Value) (n : Nat) (hn : ∀ x, (enc x).length = n) (f : α → α) (j : Nat) (u : Value) (hj : j < n) (hf : ∀ x, enc (f x) = (enc x).set j u) : ∀ (l : List α) (i : Nat), (l.flatMap enc).set (i * n + j) u = (l.modify i f).flatMap enc ∨ l.length ≤ i
  | [], i => .inr (Nat.zero_le _)
  | x :: l, 0 => by
    left
    simp only [List.flatMap_cons, Nat.zero_mul, Nat.zero_add, List.modify_zero_cons]
    rw [List.set_append_left _ _ (by rw [hn]; exact hj), hf]
  | x :: l, i + 1 => by
    rcases flat_set enc n hn f j u hj hf l i with h | h
    · left
      simp only [List.flatMap_cons, List.modify_succ_cons]
      rw [List.set_append_right _ _ (by rw [hn, Nat.add_mul]; omega), hn, show (i + 1) * n + j - n = i * n + j by rw [Nat.add_mul]; omega, h]
    · right; simp only [List.length_cons]; omega
theorem flat_set' {α : Type} (enc : α → List Value) (n : Nat) (hn : ∀ x, (enc x).length = n) (f : α → α) (j : Nat) (u : Value) (hj : j < n) (hf : ∀ x, enc (f x) = (enc x).set j u) (l : List α) (i : Nat) (hi : i < l.length) : (l.flatMap enc).set (i * n + j) u = (l.modify i f).flatMap enc :=
  (flat_set enc n hn f j u hj hf l i).resolve_right (by omega)
/-- A member's cells. -/
theorem GrpAt.cell {w : World} {F : Nat → Prop} {b : Nat} {g : GroupC} {v : Value} {L : List OneV} (h : GrpAt w F b g v L) {r cap : Nat} (hv : v = .slice (some ⟨r, 0, none⟩) L.length cap) (i : Nat) (hi : i < L.length) :
    w.cell? ⟨r, i * 5, none⟩ = some (.int .i64 L[i].member) ∧ w.cell? ⟨r, i * 5 + 1, none⟩ = some L[i].tv ∧ w.cell? ⟨r, i * 5 + 2, none⟩ = some (.int .i64 L[i].til) ∧ w.cell? ⟨r, i * 5 + 3, none⟩ = some (.bool L[i].joined) ∧ w.cell? ⟨r, i * 5 + 4, none⟩ = some L[i].pv := by
  subst hv
  have hc : ∀ j, j < 5 → w.cell? ⟨r, i * 5 + j, none⟩ = (oneEnc L[i])[j]? := fun j hj => by
    rw [h.row.cellAt (i * 5 + j) (by omega)]
    exact flatMap_get oneEnc 5 oneEnc_len L i j hi hj
  exact ⟨hc 0 (by omega), hc 1 (by omega), hc 2 (by omega), hc 3 (by omega), hc 4 (by omega)⟩
/-- Where its row is. -/
theorem GrpAt.form {w : World} {F : Nat → Prop} {b : Nat} {g : GroupC} {v : Value} {L : List OneV} (h : GrpAt w F b g v L) : (L = [] ∧ v = .slice none 0 0) ∨ ∃ r cap, v = .slice (some ⟨r, 0, none⟩) L.length cap ∧ r ≠ b ∧ r < w.heap.size ∧ L.length ≤ cap ∧ F r := by
  rcases h.row.2 with ⟨h1, h2⟩ | ⟨r, cap, cur, h1, _, hg, hc, _⟩
  · exact .inl ⟨List.eq_nil_of_length_eq_zero h2, h1⟩
  · have h3 := h.own r (by rw [h1]; rfl)
    exact .inr ⟨r, cap, h1, h3.2, block_lt hg, hc, h3.1⟩
end Go.Proofs.Ytlmajhkhlmkeiaa
