/-
  Association lists: what a put, a struck key leave.
-/
import Derived.Test.YtklhlffdpojkoaaGreatJ00
import Derived.Test.YtklhlffdpojkoaaGreatJ01
import Derived.Test.YtklhlffdpojkoaaGreatJ03
import Derived.Sort.Walk0
import Derived.Outline
namespace Go.Proofs.YtklhlffdpojkoaaGreat.Fx
section
variable {κ α : Type} [DecidableEq κ]
theorem aget_aput (L : List (κ × α)) (s t : κ) (v : α) : aget (aput L s v) t = if s = t then some v else aget L t := by
  induction L with
  | nil => simp [aget, aput]
  | cons p L ih =>
    obtain ⟨k, u⟩ := p
    simp only [aput]
    by_cases h : k = s
    · subst h
      simp only [if_true, aget]
      by_cases h2 : k = t <;> simp [h2]
    · simp only [h, if_false, aget, ih]
      by_cases h2 : k = t
      · subst h2
        simp [Ne.symm h]
      · simp [h2]
/-- Each key stands once. -/
def KD (L : List (κ × α)) : Prop := (L.map (·.1)).Nodup
theorem aget_out {L : List (κ × α)} {s : κ} (h : s ∉ L.map (·.1)) : aget L s = none := by
  induction L with
  | nil => rfl
  | cons p L ih =>
    obtain ⟨k, u⟩ := p
    simp only [List.map_cons, List.mem_cons, not_or] at h
    simp only [aget, if_neg (Ne.symm h.1)]
    exact ih h.2
theorem aget_in {L : List (κ × α)} {s : κ} {v : α} (h : aget L s = some v) : (s, v) ∈ L := by
  induction L with
  | nil => cases h
  | cons p L ih =>
    obtain ⟨k, u⟩ := p
    simp only [aget] at h
    by_cases hk : k = s
    · subst hk
      rw [if_pos rfl] at h
      cases h
      exact .head _
    · rw [if_neg hk] at h
      exact .tail _ (ih h)
theorem aget_of_mem {L : List (κ × α)} {s : κ} {v : α} (hd : KD L) (h : (s, v) ∈ L) : aget L s = some v := by
  induction L with
  | nil => cases h
  | cons p L ih =>
    obtain ⟨k, u⟩ := p
    unfold KD at hd
    simp only [List.map_cons, List.nodup_cons] at hd
    rcases List.mem_cons.1 h with e | e
    · cases e
      simp [aget]
    · have : k ≠ s := fun e2 => hd.1 (List.mem_map.2 ⟨(s, v), e, e2.symm⟩)
      simp only [aget, if_neg this]
      exact ih hd.2 e
theorem aget_adel {L : List (κ × α)} (hd : KD L) (s t : κ) : aget (adel L s) t = if s = t then none else aget L t := by
  induction L with
  | nil => simp [aget, adel]
  | cons p L ih =>
    obtain ⟨k, u⟩ := p
    unfold KD at hd
    simp only [List.map_cons, List.nodup_cons] at hd
    simp only [adel]
    by_cases h : k = s
    · subst h
      simp only [if_true, aget]
      by_cases h2 : k = t
      · subst h2
        simp [aget_out hd.1]
      · simp [h2]
    · simp only [h, if_false, aget, ih hd.2]
      by_cases h2 : k = t
      · subst h2
        simp [Ne.symm h]
      · simp [h2]
theorem keys_aput (L : List (κ × α)) (s t : κ) (v : α) : t ∈ (aput L s v).map (·.1) ↔ t = s ∨ t ∈ L.map (·.1) := by
  induction L with
  | nil => simp [aput]
  | cons p L ih =>
    obtain ⟨k, u⟩ := p
    simp only [aput]
    by_cases h : k = s
    · subst h
      simp
    · simp only [if_neg h, List.map_cons, List.mem_cons, ih]
      constructor
      · rintro (e | e | e) <;> simp [e]
      · rintro (e | e | e) <;> simp [e]
theorem KD.put {L : List (κ × α)} (hd : KD L) (s : κ) (v : α) : KD (aput L s v) := by
  induction L with
  | nil => simp [KD, aput]
  | cons p L ih =>
    obtain ⟨k, u⟩ := p
    unfold KD at hd
    simp only [List.map_cons, List.nodup_cons] at hd
    simp only [aput]
    by_cases h : k = s
    · subst h
      simp only [if_true, KD, List.map_cons, List.nodup_cons]
      exact hd
    · simp only [if_neg h, KD, List.map_cons, List.nodup_cons]
      refine ⟨fun e => ?_, ih hd.2⟩
      rcases (keys_aput _ _ _ _).1 e with e2 | e2
      · exact h e2
      · exact hd.1 e2
theorem keys_adel {L : List (κ × α)} {s t : κ} (h : t ∈ (adel L s).map (·.1)) : t ∈ L.map (·.1) := by
  induction L with
  | nil => simp [adel] at h
  | cons p L ih =>
    obtain ⟨k, u⟩ := p
    simp only [adel] at h
    by_cases hk : k = s
    · rw [if_pos hk] at h
      exact .tail _ h
    · rw [if_neg hk] at h
      rcases List.mem_cons.1 h with e | e
      · rw [e]; exact .head _
      · exact .tail _ (ih e)
theorem KD.del {L : List (κ × α)} (hd : KD L) (s : κ) : KD (adel L s) := by
  induction L with
  | nil => simp [KD, adel]
  | cons p L ih =>
    obtain ⟨k, u⟩ := p
    unfold KD at hd
    simp only [List.map_cons, List.nodup_cons] at hd
    simp only [adel]
    by_cases h : k = s
    · rw [if_pos h]; exact hd.2
    · simp only [if_neg h, KD, List.map_cons, List.nodup_cons]
      exact ⟨fun e => hd.1 (keys_adel e), ih hd.2⟩
end
/-- The shape of an association list under a map on what stands at the keys. -/
def amap {κ α β : Type} (f : α → β) (l : List (κ × α)) : List (κ × β) := l.map fun p => (p.1, f p.2)
section
variable {κ α β : Type} [DecidableEq κ] (f : α → β)
theorem aget_amap (l : List (κ × α)) (s : κ) : aget (amap f l) s = (aget l s).map f := by
  induction l with
  | nil => rfl
  | cons p l ih =>
    obtain ⟨k, x⟩ := p
    simp only [amap, List.map_cons, aget] at ih ⊢
    by_cases h : k = s
    · simp [h]
    · simp only [h, if_false]; exact ih
theorem aput_amap (l : List (κ × α)) (s : κ) (x : α) : aput (amap f l) s (f x) = amap f (aput l s x) := by
  induction l with
  | nil => rfl
  | cons p l ih =>
    obtain ⟨k, u⟩ := p
    simp only [amap, List.map_cons, aput] at ih ⊢
    by_cases h : k = s
    · simp [h]
    · simp only [h, if_false, List.map_cons]; rw [ih]
theorem adel_amap (l : List (κ × α)) (s : κ) : adel (amap f l) s = amap f (adel l s) := by
  induction l with
  | nil => rfl
  | cons p l ih =>
    obtain ⟨k, u⟩ := p
    simp only [amap, List.map_cons, adel] at ih ⊢
    by_cases h : k = s
    · simp [h]
    · simp only [h, if_false, List.map_cons]; rw [ih]
omit [DecidableEq κ] in
theorem amap_keys (l : List (κ × α)) : (amap f l).map (·.1) = l.map (·.1) := by simp [amap, Function.comp_def]
omit [DecidableEq κ] in
theorem KD.amap {l : List (κ × α)} (h : KD l) : KD (amap f l) := by unfold KD; rw [amap_keys]; exact h
end
theorem aput_same {κ α : Type} [DecidableEq κ] {L : List (κ × α)} {s : κ} {v : α} (h : aget L s = some v) : aput L s v = L := by
  induction L with
  | nil => simp [aget] at h
  | cons p L ih =>
    obtain ⟨k, u⟩ := p
    simp only [aget] at h
    by_cases hk : k = s
    · rw [if_pos hk] at h
      cases h
      simp [aput, hk]
    · rw [if_neg hk] at h
      simp [aput, hk, ih h]
end Go.Proofs.YtklhlffdpojkoaaGreat.Fx

/-
  An append of nothing, onto a row that the call owns: neither the row nor the world turns. Over any program.
-/
namespace Go.Proofs.YtklhlffdpojkoaaGreat.Fx
open Go.RowKit

section
variable {P : Program} {w : World} {ops : Array Oper} {rest : List Oper} {o : Oper} {a : Act} {Q : Exit → Act → World → Prop}
theorem wpList_appZ (hgd : o.guard = none) {s x : Operand} {t : TypeId} (ho : o.op = .call { callee := .builtin .append, args := #[s, x], argTypes := #[t, t] })
    {base : Nat} {e : TypeId} {z : Value} {size bytes : Nat} (ht : P.underlying t = some (.slice e)) (hinfo : (P.info? e).map (fun i => (i.zero, i.size, i.bytes)) = some (some z, size, bytes))
    {v : Value} {n : Nat} {xs : List Value} (hs : a.eval s = v) (hown : w.ownsRow base e size v n xs) {A : Option Addr} {c : Nat} (hx : a.eval x = .slice A 0 c)
    (h : wpList P ops Q rest (a.put o.dst v) w) : wpList P ops Q (o :: rest) a w := by
  obtain ⟨i, hi, hz, hz1, hz2⟩ := info_parts hinfo
  have hr : (Builtin.append_ #[t, t] o.type #[v, .slice A 0 c]).run P w = .ok v w := by
    rcases hown.2 with ⟨rfl, rfl⟩ | ⟨g, cap, cur, rfl, _, _, hnc, _⟩
    · cases A <;> simp [Builtin.append_, run_underlying ht, sizeOf, typeInfo, hi, Builtin.lenOf, Builtin.firstCells, loadCells, loadCellsFrom]
    · cases A <;> simp [Builtin.append_, run_underlying ht, sizeOf, typeInfo, hi, Builtin.lenOf, Builtin.firstCells, loadCells, loadCellsFrom, hnc, storeCells]
  refine wpList_plain hgd fun K hK => ?_
  unfold Oper.wp execOp
  simp only [ho, resolve, invoke, builtin, Sem.run_bind, Sem.run_pure, Result.andThen_ok, List.map_toArray, List.map_cons, List.map_nil, hs, hx, hr]
  exact hK _ _ h
end
end Go.Proofs.YtklhlffdpojkoaaGreat.Fx

/-
  Rows of structs that the call owns.
-/
namespace Go.Proofs.YtklhlffdpojkoaaGreat
open Go.RowKit Fx

theorem y_pairs_nodup {κ α : Type} {l : List (κ × α)} (h : KD l) : l.Nodup := by
  unfold KD at h
  rw [List.Nodup, List.pairwise_map] at h
  exact h.imp (fun hne e => hne (by rw [e]))
theorem y_perm_same {κ α : Type} [DecidableEq κ] {l1 l2 : List (κ × α)} (h1 : KD l1) (h2 : KD l2) (h : ∀ s, aget l1 s = aget l2 s) : l1.Perm l2 :=
  (List.perm_ext_iff_of_nodup (y_pairs_nodup h1) (y_pairs_nodup h2)).2 fun p => by
    obtain ⟨s, x⟩ := p
    exact ⟨fun e => aget_in (by rw [← h]; exact aget_of_mem h1 e), fun e => aget_in (by rw [h]; exact aget_of_mem h2 e)⟩
theorem y_row_keep {w w' : World} {S : Nat → Prop} (hk : Keeps S w w') {base : Nat} {e : TypeId} {size : Nat} {v : Value} {n : Nat} {xs : List Value} (h : w.ownsRow base e size v n xs) (hS : ∀ k, v.ownBlock = some k → ¬ S k) : w'.ownsRow base e size v n xs := by
  refine ⟨h.1, ?_⟩
  rcases h.2 with hn | ⟨g, cap, cur, rfl, hb, hgg, rest⟩
  · exact .inl hn
  · exact .inr ⟨g, cap, cur, rfl, hb, (hk.block g (Array.getElem?_eq_some_iff.1 hgg).1 (hS g rfl)).trans hgg, rest⟩
theorem y_add_at (b off j : Nat) : (⟨b, off, none⟩ : Addr).add j = ⟨b, off + j, none⟩ := by unfold Addr.add; split <;> simp_all
/-- An append of a row that lies somewhere, onto a row that the call owns. -/
theorem y_wpList_appN {P : Program} {w : World} {ops : Array Oper} {rest : List Oper} {o : Oper} {a : Act} {Q : Exit → Act → World → Prop} (hgd : o.guard = none) {s x : Operand} {t : TypeId}
    (ho : o.op = .call { callee := .builtin .append, args := #[s, x], argTypes := #[t, t] })
    {base : Nat} {e : TypeId} {z : Value} {size bytes : Nat} (ht : P.underlying t = some (.slice e)) (hinfo : (P.info? e).map (fun i => (i.zero, i.size, i.bytes)) = some (some z, size, bytes)) (hzs : z.cells.size = size) (hsz : 0 < size)
    {v : Value} {n : Nat} {xs : List Value} (hs : a.eval s = v) (hown : w.ownsRow base e size v n xs) {ad : Addr} {m c : Nat} {news : List Value} (hx : a.eval x = .slice (some ad) m c) (hl : news.length = m * size)
    (hnews : ∀ j u, news[j]? = some u → w.cell? (ad.add j) = some u) (h1 : ∀ u ∈ news, u.oneCell' = true) (hn : n + m ≤ 1000000 ∧ bytes ≤ 1000000) (hbase : base ≤ w.heap.size)
    (h : ∀ v' w', w'.ownsRow base e size v' (n + m) (xs ++ news) → w.grownBy w' v.ownBlock → wpList P ops Q rest (a.put o.dst v') w') : wpList P ops Q (o :: rest) a w := by
  obtain ⟨i, hi, hz, hz1, hz2⟩ := info_parts hinfo
  refine wpList_append_own w hgd s x t ho base e i z size bytes ht hi hz hz1 hz2 hzs hsz v n xs hs hown ad m c news hx hl hnews h1 (by unfold maxLen; omega) ?_ hbase fun v' w' h2 h3 _ => h v' w' h2 h3
  have : (n + m) * bytes ≤ 1000000 * 1000000 := Nat.mul_le_mul hn.1 hn.2
  omega
theorem y_own_slice {w : World} {base : Nat} {e : TypeId} {size : Nat} {v : Value} {n : Nat} {xs : List Value} (h : w.ownsRow base e size v n xs) : ∃ a c, v = .slice a n c := by
  rcases h.2 with ⟨rfl, rfl⟩ | ⟨g, cap, cur, rfl, _⟩
  · exact ⟨_, _, rfl⟩
  · exact ⟨_, _, rfl⟩
theorem y_flatN_drop {α : Type} (enc : α → List Value) (n : Nat) (hn : ∀ x, (enc x).length = n) (L : List α) (i : Nat) : (L.drop i).flatMap enc = (L.flatMap enc).drop (i * n) := by
  induction L generalizing i with
  | nil => simp
  | cons x L ih =>
    cases i with
    | zero => simp
    | succ i =>
      rw [List.drop_succ_cons, ih, List.flatMap_cons, List.drop_append, hn]
      have e1 : (enc x).drop ((i + 1) * n) = [] := List.drop_eq_nil_of_le (by rw [hn, Nat.add_mul]; omega)
      rw [e1, List.nil_append]
      congr 1
      rw [Nat.add_mul]; omega
theorem y_flatN_take {α : Type} (enc : α → List Value) (n : Nat) (hn : ∀ x, (enc x).length = n) (L : List α) (i : Nat) : (L.take i).flatMap enc = (L.flatMap enc).take (i * n) := by
  induction L generalizing i with
  | nil => simp
  | cons x L ih =>
    cases i with
    | zero => simp
    | succ i =>
      rw [List.take_succ_cons, List.flatMap_cons, ih, List.flatMap_cons, List.take_append, hn]
      have e1 : (enc x).take ((i + 1) * n) = enc x := List.take_of_length_le (by rw [hn, Nat.add_mul]; omega)
      rw [e1]
      congr 2
      rw [Nat.add_mul]; omega
theorem y_flat_len {α : Type} (enc : α → List Value) (n : Nat) (hn : ∀ x, (enc x).length = n) (L : List α) : (L.flatMap enc).length = L.length * n := by
  induction L with
  | nil => simp
  | cons x L ih => rw [List.flatMap_cons, List.length_append, hn, ih, List.length_cons, Nat.add_mul]; omega
theorem y_own_base {w : World} {base base' : Nat} {e : TypeId} {size : Nat} {v : Value} {n : Nat} {xs : List Value} (h : w.ownsRow base e size v n xs) (hb : base' ≤ base) : w.ownsRow base' e size v n xs := by
  refine ⟨h.1, h.2.elim .inl fun ⟨g, cap, cur, h1, h2, h3⟩ => .inr ⟨g, cap, cur, h1, Nat.le_trans hb h2, h3⟩⟩
theorem y_flat_setF {α : Type} (enc : α → List Value) (n : Nat) (hn : ∀ x, (enc x).length = n) (f : α → α) (j : Nat) (u : Value) (hj : j < n) (hf : ∀ x, enc (f x) = (enc x).set j u) : ∀ (l : List α) (i : Nat), i < l.length → (l.flatMap enc).set (i * n + j) u = (l.modify i f).flatMap enc
  | [], i, h => absurd h (Nat.not_lt_zero _)
  | x :: l, 0, _ => by
    simp only [List.flatMap_cons, Nat.zero_mul, Nat.zero_add, List.modify_zero_cons]
    rw [List.set_append_left _ _ (by rw [hn]; exact hj), hf]
  | x :: l, i + 1, h => by
    have h1 := y_flat_setF enc n hn f j u hj hf l i (by simpa using h)
    simp only [List.flatMap_cons, List.modify_succ_cons]
    rw [List.set_append_right _ _ (by rw [hn, Nat.add_mul]; omega), hn, show (i + 1) * n + j - n = i * n + j by rw [Nat.add_mul]; omega, h1]
theorem y_grown1 {w w1 : World} (hg : w.grownBy w1 none) : K0 w w1 := (Keeps.refl (fun _ => False) w).grown hg (fun k e => by cases e)
end Go.Proofs.YtklhlffdpojkoaaGreat

/-
  The document's offsets: an object in memory; key, find, Get, cut.
-/
namespace Go.Proofs.YtklhlffdpojkoaaGreat
open Go.RowKit Fx

abbrev RowP := OffK × Int
def encR (p : RowP) : List Value := [.string p.1.group, .string p.1.topic, .int .i64 p.1.index, .int .i64 p.2]
theorem encR_len (p : RowP) : (encR p).length = 4 := rfl
theorem encR_one (p : RowP) : ∀ u ∈ encR p, u.oneCell' = true := fun u hu => by
  simp only [encR, List.mem_cons, List.not_mem_nil, or_false] at hu
  rcases hu with rfl | rfl | rfl | rfl <;> rfl
theorem infoRow : (Tryz.prog.info? 115).map (fun i => (i.zero, i.size, i.bytes)) = some (some (.agg #[.string ⟨#[]⟩, .string ⟨#[]⟩, .int .i64 0, .int .i64 0]), 4, 48) := by kernel_rfl
def roCells (R : OffC) (v : Value) : Array Value := #[.int .i64 R.room, v]
/-- The table at block b: its rows' row is v, the blocks of all of it are in F. -/
structure ROat (w : World) (F : Nat → Prop) (b : Nat) (R : OffC) (v : Value) : Prop where
  blk : w.heap[b]? = some (.cells (roCells R v) 73 (0, 0))
  row : w.ownsRow 0 115 4 v R.all.length (R.all.flatMap encR)
  fb : F b
  lt : ∀ k, F k → k < w.heap.size
  own : ∀ k, v.ownBlock = some k → F k ∧ k ≠ b
def ROst (w : World) (F : Nat → Prop) (b : Nat) (R : OffC) : Prop := ∃ v, ROat w F b R v
def ROpost (w : World) (F : Nat → Prop) (b : Nat) (R' : OffC) (w' : World) : Prop := ∃ F', ROst w' F' b R' ∧ (∀ k, F' k → F k ∨ w.heap.size ≤ k) ∧ Keeps F w w'
section
variable {w w' : World} {F S : Nat → Prop} {b : Nat} {R R' : OffC} {v v' : Value}
theorem ROat.keep (h : ROat w F b R v) (hk : Keeps S w w') (hS : ∀ k, F k → ¬ S k) : ROat w' F b R v :=
  ⟨(hk.block b (block_lt h.blk) (hS b h.fb)).trans h.blk, y_row_keep hk h.row (fun k e => hS k (h.own k e).1), h.fb, fun k e => Nat.lt_of_lt_of_le (h.lt k e) hk.size, h.own⟩
theorem ROst.keep (h : ROst w F b R) (hk : Keeps S w w') (hS : ∀ k, F k → ¬ S k) : ROst w' F b R := by
  obtain ⟨v, h⟩ := h
  exact ⟨v, h.keep hk hS⟩
theorem ROst.lt (h : ROst w F b R) : ∀ k, F k → k < w.heap.size := by
  obtain ⟨v, h⟩ := h
  exact h.lt
theorem ROpost.same (h : ROst w F b R) (hk : K0 w w') : ROpost w F b R w' := ⟨F, h.keep hk (fun _ _ e => e), fun _k e => .inl e, hk.mono fun _ _ e => e.elim⟩
theorem ROat.step (h : ROat w F b R v) (hk : Keeps S w w') (hS : ∀ k, S k → k = b ∨ v.ownBlock = some k) (hblk : w'.heap[b]? = some (.cells (roCells R' v') 73 (0, 0))) (hrow : w'.ownsRow 0 115 4 v' R'.all.length (R'.all.flatMap encR))
    (hv : ∀ k, v'.ownBlock = some k → v.ownBlock = some k ∨ w.heap.size ≤ k) : ROpost w F b R' w' := by
  have hb := block_lt h.blk
  refine ⟨fun k => F k ∨ (w.heap.size ≤ k ∧ k < w'.heap.size), ⟨v', hblk, hrow, .inl h.fb, fun k e => e.elim (fun e => Nat.lt_of_lt_of_le (h.lt k e) hk.size) (fun e => e.2), fun k e => ?_⟩, fun k e => e.imp id (fun e => e.1), hk.mono fun k _ e => (hS k e).elim (fun e => e ▸ h.fb) (fun e => (h.own k e).1)⟩
  rcases hv k e with e1 | e1
  · exact ⟨.inl (h.own k e1).1, (h.own k e1).2⟩
  · exact ⟨.inr ⟨e1, (hrow.lt k e).2⟩, by omega⟩
theorem ROat.cell (h : ROat w F b R v) {r cap : Nat} (hv : v = .slice (some ⟨r, 0, none⟩) R.all.length cap) (i : Nat) (hi : i < R.all.length) :
    w.cell? ⟨r, i * 4, none⟩ = some (.string R.all[i].1.group) ∧ w.cell? ⟨r, i * 4 + 1, none⟩ = some (.string R.all[i].1.topic) ∧ w.cell? ⟨r, i * 4 + 2, none⟩ = some (.int .i64 R.all[i].1.index) ∧ w.cell? ⟨r, i * 4 + 3, none⟩ = some (.int .i64 R.all[i].2) := by
  subst hv
  have hc : ∀ j, j < 4 → w.cell? ⟨r, i * 4 + j, none⟩ = (encR R.all[i])[j]? := fun j hj => by
    rw [h.row.cellAt (i * 4 + j) (by omega)]
    exact flatMap_get encR 4 encR_len R.all i j hi hj
  exact ⟨hc 0 (by omega), hc 1 (by omega), hc 2 (by omega), hc 3 (by omega)⟩
theorem ROat.form (h : ROat w F b R v) : (R.all = [] ∧ v = .slice none 0 0) ∨ ∃ r cap, v = .slice (some ⟨r, 0, none⟩) R.all.length cap ∧ r ≠ b ∧ r < w.heap.size ∧ R.all.length ≤ cap ∧ F r ∧ cap ≤ 9223372036854775807 := by
  rcases h.row.2 with ⟨h1, h2⟩ | ⟨r, cap, cur, h1, _, hg, hc, hm, _⟩
  · exact .inl ⟨List.eq_nil_of_length_eq_zero h2, h1⟩
  · have h3 := h.own r (by rw [h1]; rfl)
    exact .inr ⟨r, cap, h1, h3.2, block_lt hg, hc, h3.1, by unfold maxLen at hm; omega⟩
theorem ROat.newrow1 {wr : World} {l : List RowP} {nv : Value} (h : ROat w F b R v) (hk0 : K0 w wr) (hrow : wr.ownsRow w.heap.size 115 4 nv l.length (l.flatMap encR)) :
    ROpost w F b ⟨R.room, l⟩ (wr.setCell ⟨b, 1, none⟩ nv) := by
  have hb := block_lt h.blk
  have hk : Keeps (fun k => k = b) w (wr.setCell ⟨b, 1, none⟩ nv) := (hk0.mono (S1 := fun k => k = b) (fun _ _ e => e.elim)).setC 1 _ (fun _ => rfl)
  refine h.step hk (fun k e => .inl e) ?_ ?_ (fun k e => .inr (hrow.lt k e).1)
  · exact setCell_block ((hk0.block b hb (fun e => e)).trans h.blk) 1 _
  · exact y_own_base (y_row_keep ((Keeps.refl (fun k => k = b) wr).setC 1 _ (fun _ => rfl)) hrow (fun k e e2 => by have := (hrow.lt k e).1; omega)) (Nat.zero_le _)
/-- What is so of the table in all later worlds. -/
structure TabO (w wx : World) (b r : Nat) (nx : Int) (v : Value) (l : List RowP) (i j : Nat) : Prop where
  k0 : K0 w wx
  c0 : wx.cell? ⟨b, 0, none⟩ = some (.int .i64 nx)
  c1 : wx.cell? ⟨b, 1, none⟩ = some v
  lt : b < wx.heap.size
  f0 : wx.frozen? ⟨b, 0, none⟩ = false
  f1 : wx.frozen? ⟨b, 1, none⟩ = false
  n1 : ∀ q u, ((l.take i).flatMap encR)[q]? = some u → wx.cell? ((⟨r, 0, none⟩ : Addr).add q) = some u
  n2 : ∀ q u, ((l.drop j).flatMap encR)[q]? = some u → wx.cell? ((⟨r, j * 4, none⟩ : Addr).add q) = some u
theorem ROat.tabO {wx : World} {r cap : Nat} (h : ROat w F b R (.slice (some ⟨r, 0, none⟩) R.all.length cap)) (hk : K0 w wx) (i j : Nat) : TabO w wx b r R.room (.slice (some ⟨r, 0, none⟩) R.all.length cap) R.all i j := by
  have h1 := h.keep hk (fun _ _ e => e)
  have hcells : ∀ q u, (R.all.flatMap encR)[q]? = some u → wx.cell? ⟨r, q, none⟩ = some u := fun q u hu => by
    have hj : q < (R.all.flatMap encR).length := (List.getElem?_eq_some_iff.1 hu).1
    rw [h1.row.cellAt q (by rw [y_flat_len encR 4 encR_len] at hj; exact hj)]
    exact hu
  refine ⟨hk, block_cell h1.blk 0, block_cell h1.blk 1, block_lt h1.blk, block_free h1.blk 0, block_free h1.blk 1, fun q u hu => ?_, fun q u hu => ?_⟩
  · rw [y_flatN_take encR 4 encR_len, List.getElem?_take] at hu
    split at hu
    · rw [y_add_at, Nat.zero_add]; exact hcells q u hu
    · cases hu
  · rw [y_flatN_drop encR 4 encR_len, List.getElem?_drop] at hu
    rw [y_add_at]
    exact hcells _ u hu
structure NilO (w wx : World) (b : Nat) (nx : Int) : Prop where
  k0 : K0 w wx
  c0 : wx.cell? ⟨b, 0, none⟩ = some (.int .i64 nx)
  c1 : wx.cell? ⟨b, 1, none⟩ = some (.slice none 0 0)
  lt : b < wx.heap.size
  f0 : wx.frozen? ⟨b, 0, none⟩ = false
  f1 : wx.frozen? ⟨b, 1, none⟩ = false
theorem ROat.nilO {wx : World} (h : ROat w F b R (.slice none 0 0)) (hk : K0 w wx) : NilO w wx b R.room :=
  have h1 := h.keep hk (fun _ _ e => e)
  ⟨hk, block_cell h1.blk 0, block_cell h1.blk 1, block_lt h1.blk, block_free h1.blk 0, block_free h1.blk 1⟩
end
theorem partA : Tryz.prog.underlying 34 = some (.struct (Tryz.prog.fieldsOf 34)) := by kernel_rfl
theorem partB : Tryz.prog.stoodInHeld 34 = false := by kernel_rfl
theorem partC : Tryz.prog.eqGuardType Tryz.prog.depth 34 = false := by kernel_rfl
theorem pfields_of {P : Program} {t : TypeId} {fs : Array Field} (h : P.underlying t = some (.struct fs)) : P.fieldsOf t = fs := by simp [Program.fieldsOf, h]
theorem eqPart (s1 s2 : ByteArray) (i1 i2 : Int) (w : World) : (binOp .eql 34 (.agg #[.string s1, .int .i64 i1]) (.agg #[.string s2, .int .i64 i2])).run Tryz.prog w = .ok (.bool (s1.toList == s2.toList && i1 == i2)) w := by
  rw [run_eql_struct, run_equalIn_struct w 9999 34 _ _ partA partB, pfields_of Tryz.underlying34]
  simp [Op.eqFields, go_sem]
  by_cases h1 : s1.toList = s2.toList <;> by_cases h2 : i1 = i2 <;> simp [h1, h2]
set_option maxRecDepth 100000 in
set_option maxHeartbeats 4000000 in
theorem keyR_any (g t : ByteArray) (i : Int) (w : World) (hg : g.size ≤ 9223372036854775807) (ht : t.size ≤ 9223372036854775807) : Calls Tryz.prog 56 #[.string g, .agg #[.string t, .int .i64 i]] w fun e w' => Same w e (.bool (mayB ⟨g, t, i⟩)) w' := by
  have hb : ∀ x : Bool, (decide (1 ≤ (g.size : Int)) && decide ((g.size : Int) ≤ 100) && decide (1 ≤ (t.size : Int)) && decide ((t.size : Int) ≤ 100) && decide (0 ≤ i) && decide (i ≤ 15)) = x → mayB ⟨g, t, i⟩ = x := by
    intro x hx
    rw [← hx]
    unfold mayB nameB
    rw [Bool.eq_iff_iff]
    simp only [Bool.and_eq_true, decide_eq_true_eq]
    omega
  by_cases h1 : 1 ≤ (g.size : Int)
  case neg =>
    rw [hb false (by simp [h1])]
    clear hb
    go_enter Tryz.func56, Tryz.ntmps56
    go_wp2
    go_ret
    exact ⟨rfl, (Keeps.refl _ _).alloc _⟩
  by_cases h2 : (g.size : Int) ≤ 100
  case neg =>
    rw [hb false (by simp [h2])]
    clear hb
    go_enter Tryz.func56, Tryz.ntmps56
    go_wp2
    go_ret
    exact ⟨rfl, (Keeps.refl _ _).alloc _⟩
  by_cases h3 : 1 ≤ (t.size : Int)
  case neg =>
    rw [hb false (by simp [h3])]
    clear hb
    go_enter Tryz.func56, Tryz.ntmps56
    go_wp2
    go_ret
    exact ⟨rfl, (Keeps.refl _ _).alloc _⟩
  by_cases h4 : (t.size : Int) ≤ 100
  case neg =>
    rw [hb false (by simp [h4])]
    clear hb
    go_enter Tryz.func56, Tryz.ntmps56
    go_wp2
    go_ret
    exact ⟨rfl, (Keeps.refl _ _).alloc _⟩
  by_cases h5 : 0 ≤ i
  case neg =>
    rw [hb false (by simp [h5])]
    clear hb
    go_enter Tryz.func56, Tryz.ntmps56
    go_wp2
    go_ret
    exact ⟨rfl, (Keeps.refl _ _).alloc _⟩
  by_cases h6 : i ≤ 15
  case neg =>
    rw [hb false (by simp [h6])]
    clear hb
    go_enter Tryz.func56, Tryz.ntmps56
    go_wp2
    go_ret
    exact ⟨rfl, (Keeps.refl _ _).alloc _⟩
  rw [hb true (by simp [h1, h2, h3, h4, h5, h6])]
  clear hb
  go_enter Tryz.func56, Tryz.ntmps56
  go_wp2
  go_ret
  exact ⟨rfl, (Keeps.refl _ _).alloc _⟩
theorem ROpost.trans {w w1 w2 : World} {F F1 : Nat → Prop} {b : Nat} {R' : OffC} (hF : ∀ k, F1 k → F k ∨ w.heap.size ≤ k) (hk : Keeps F w w1) (h : ROpost w1 F1 b R' w2) : ROpost w F b R' w2 := by
  obtain ⟨F2, h1, h2, h3⟩ := h
  exact ⟨F2, h1, fun k e => (h2 k e).elim (hF k) (fun e => .inr (Nat.le_trans hk.size e)), hk.trans h3 fun k hk' e => (hF k e).elim id fun e => by omega⟩
def ROfnd (R : OffC) (k : OffK) (x : Int) : Prop := (∃ i : Nat, ∃ hi : i < R.all.length, x = i ∧ R.all[i].1 = k) ∨ (x = -1 ∧ aget R.all k = none)
theorem knot {l : List RowP} {s : OffK} (h : aget l s = none) {i : Nat} (hi : i < l.length) : l[i].1 ≠ s := fun e => aget_none h l[i] (List.getElem_mem hi) e
theorem kno {l : List RowP} {s : OffK} (h : ∀ i (hi : i < l.length), l[i].1 ≠ s) : aget l s = none := by
  refine aget_out fun hm => ?_
  obtain ⟨p, hp, e⟩ := List.mem_map.1 hm
  obtain ⟨i, hi, rfl⟩ := List.mem_iff_getElem.1 hp
  exact h i hi e
theorem kat {l : List RowP} (hd : KD l) {i : Nat} (hi : i < l.length) : aget l l[i].1 = some l[i].2 := aget_of_mem hd (List.getElem_mem hi)
theorem str_ne {a b : ByteArray} (h : ¬ a = b) : (a.toList == b.toList) = false := by rw [toList_eq]; exact decide_eq_false h
set_option maxRecDepth 100000 in
set_option maxHeartbeats 4000000 in
theorem rofind_any {w : World} {F : Nat → Prop} {b : Nat} {R : OffC} {v : Value} (g t : ByteArray) (ix : Int) (h : ROat w F b R v) :
    Calls Tryz.prog 57 #[.pointer (some ⟨b, 0, none⟩), .string g, .agg #[.string t, .int .i64 ix]] w fun e w' => ∃ x, e = .returned (.int .i64 x) ∧ K0 w w' ∧ ROfnd R ⟨g, t, ix⟩ x := by
  have hb := block_lt h.blk
  have hx : w.cell? ⟨b, 1, none⟩ = some v := block_cell h.blk 1
  have HH := Lib.hid h
  rcases h.form with ⟨hnil, rfl⟩ | ⟨r, cap, rfl, hrb, hrl, hcap, hFr, hcm⟩
  · have HN := Lib.hid hnil
    clear h hnil
    go_enter Tryz.func57, Tryz.ntmps57
    go_wp2
    refine wp_loop_once ?_
    go_wp2
    go_ret
    exact ⟨_, rfl, (Keeps.refl _ _).alloc _, .inr ⟨rfl, by rw [HN.out]; rfl⟩⟩
  · clear h
    go_enter Tryz.func57, Tryz.ntmps57
    go_wp2
    go_loopw [7] (fun i wr => ∃ k : Nat, i = .int .i64 k ∧ k ≤ R.all.length ∧ (∀ j (hj : j < R.all.length), j < k → R.all[j].1 ≠ ⟨g, t, ix⟩) ∧ K0 (w.alloc (.cells #[.string t, .int .i64 ix] 34)) wr) (fun i _ => R.all.length - (intOf i).toNat)
    case atStart => exact ⟨0, rfl, by omega, fun _ _ h => absurd h (Nat.not_lt_zero _), Keeps.refl _ _⟩
    case round =>
      obtain ⟨k, rfl, hk, hq, hkr⟩ := hrel
      have HQ := Lib.hid hq
      have hkw : K0 w wr := K0.tr ((Keeps.refl _ _).alloc _) hkr
      have bx := (hkr.block w.heap.size (by simp) (fun e => e)).trans (heap_new _ _ _ rfl)
      have p0 : wr.cell? ⟨w.heap.size, 0, none⟩ = some (.string t) := block_cell bx 0
      have p1 : wr.cell? ⟨w.heap.size, 1, none⟩ = some (.int .i64 ix) := block_cell bx 1
      have pl := block_lt bx
      have HKR := Lib.hid hkr
      have HKW := Lib.hid hkw
      clear bx
      clear hq
      have h1 := HH.out.keep hkw (fun _ _ e => e)
      have x1 : wr.cell? ⟨b, 1, none⟩ = some (.slice (some ⟨r, 0, none⟩) R.all.length cap) := block_cell h1.blk 1
      have xb := block_lt h1.blk
      have i0 : (0 : Int) ≤ k := by omega
      by_cases hlt : k < R.all.length
      · obtain ⟨c0, c1, c2, c3⟩ := h1.cell rfl k hlt
        have hrl1 : r < wr.heap.size := Nat.lt_of_lt_of_le hrl hkw.size
        have i1 : (k : Int) < R.all.length := by omega
        have HLT := Lib.hid hlt
        have q3 := partC
        have qe := fun w => eqPart R.all[k].1.topic t R.all[k].1.index ix w
        have HKEY : Hid (∀ a b c, R.all[k].1.group = a → R.all[k].1.topic = b → R.all[k].1.index = c → R.all[k].1 = ⟨a, b, c⟩) := by
          show ∀ _ _ _, _ → _ → _ → _
          rintro _ _ _ rfl rfl rfl
          rfl
        clear h1 hkr hkw
        by_cases e0 : R.all[k].1.group = g
        · have e0' : (R.all[k].1.group.toList == g.toList) = true := by rw [e0]; exact beq_self_eq_true _
          by_cases e1 : R.all[k].1.topic = t ∧ R.all[k].1.index = ix
          · have HE : Hid (R.all[k].1 = ⟨g, t, ix⟩) := HKEY.out _ _ _ e0 e1.1 e1.2
            have e1' : (R.all[k].1.topic.toList == t.toList && R.all[k].1.index == ix) = true := by rw [e1.1, e1.2]; simp
            rw [e1'] at qe
            generalize R.all[k].1.group = xg at c0 e0'
            generalize R.all[k].1.topic = xt at c1 qe
            generalize R.all[k].1.index = xi at c2 qe
            clear e0 e1 e1'
            go_wp2
            go_quiet (fail)
            go_wp2
            go_ret
            exact ⟨_, rfl, HKW.out.drewN _, .inl ⟨k, HLT.out, rfl, HE.out⟩⟩
          · have HE : Hid (R.all[k].1 ≠ ⟨g, t, ix⟩) := fun e => e1 ⟨by rw [e], by rw [e]⟩
            have e1' : (R.all[k].1.topic.toList == t.toList && R.all[k].1.index == ix) = false := by
              rw [toList_eq]
              by_cases q : R.all[k].1.topic = t
              · have : ¬ R.all[k].1.index = ix := fun e => e1 ⟨q, e⟩
                simp [this]
              · simp [q]
            rw [e1'] at qe
            generalize R.all[k].1.group = xg at c0 e0'
            generalize R.all[k].1.topic = xt at c1 qe
            generalize R.all[k].1.index = xi at c2 qe
            clear e0 e1 e1'
            go_wp2
            go_quiet (fail)
            go_wp2
            go_roundw
            case rel => exact ⟨k + 1, by go_num, HLT.out, fun j hj h2 => (Nat.lt_succ_iff_lt_or_eq.1 h2).elim (HQ.out j hj) fun e => by subst e; exact HE.out, HKR.out.drewN _⟩
            case measure => have := HLT.out; simp [intOf]; omega
        · have HE : Hid (R.all[k].1 ≠ ⟨g, t, ix⟩) := fun e => e0 (by rw [e])
          have e0' := str_ne e0
          generalize R.all[k].1.group = xg at c0 e0'
          generalize R.all[k].1.topic = xt at c1 qe
          generalize R.all[k].1.index = xi at c2 qe
          clear e0
          go_wp2
          go_quiet (fail)
          go_wp2
          go_roundw
          case rel => exact ⟨k + 1, by go_num, HLT.out, fun j hj h2 => (Nat.lt_succ_iff_lt_or_eq.1 h2).elim (HQ.out j hj) fun e => by subst e; exact HE.out, HKR.out.drewN _⟩
          case measure => have := HLT.out; simp [intOf]; omega
      · obtain rfl : k = R.all.length := by omega
        go_wp2
        go_ret
        exact ⟨_, rfl, HKW.out, .inr ⟨rfl, kno fun i hi => HQ.out i hi hi⟩⟩
end Go.Proofs.YtklhlffdpojkoaaGreat

/-
  The document's offsets: Get, cut, Drop.
-/
namespace Go.Proofs.YtklhlffdpojkoaaGreat
open Go.RowKit Fx

set_option maxRecDepth 100000 in
set_option maxHeartbeats 4000000 in
theorem roget_any {w : World} {F : Nat → Prop} {b : Nat} {R : OffC} (g t : ByteArray) (ix : Int) (h : ROst w F b R) (hd : KD R.all) :
    Calls Tryz.prog 33 #[.pointer (some ⟨b, 0, none⟩), .string g, .agg #[.string t, .int .i64 ix]] w fun e w' => Same w e (.tuple #[.int .i64 (getV R ⟨g, t, ix⟩).1, .bool (getV R ⟨g, t, ix⟩).2]) w' := by
  obtain ⟨v, h⟩ := h
  have HF := Lib.hid (fun (wx : World) (hk : K0 w wx) => rofind_any g t ix (h.keep hk (fun _ _ e => e)))
  have HH := Lib.hid h
  have HD := Lib.hid hd
  have p0 : (w.alloc (.cells #[.string t, .int .i64 ix] 34)).heap[w.heap.size]? = some (.cells #[.string t, .int .i64 ix] 34 (0, 0)) := heap_new _ _ _ rfl
  clear h hd p0
  go_enter Tryz.func33, Tryz.ntmps33
  go_wp2_with fail
  refine (HF.out _ (by first | exact Keeps.refl _ _ | exact (Keeps.refl _ _).alloc _)).mono ?_
  rintro e w1 ⟨x, rfl, hk1, hf⟩
  have HK1 : Hid (K0 w w1) := by first | exact hk1 | exact K0.tr ((Keeps.refl _ _).alloc _) hk1
  have h1 := HH.out.keep HK1.out (fun _ _ e => e)
  rcases hf with ⟨i, hi, rfl, he⟩ | ⟨rfl, hn⟩
  · have hg : getV R ⟨g, t, ix⟩ = (R.all[i].2, true) := by
      have := kat HD.out hi
      rw [he] at this
      unfold getV
      rw [this]
      rfl
    have HG := Lib.hid hg
    rcases h1.form with ⟨hnil, _⟩ | ⟨r, cap, rfl, hrb, hrl, hcap, _, hcm⟩
    · rw [hnil] at hi; exact absurd hi (Nat.not_lt_zero _)
    have c3 := (h1.cell rfl i hi).2.2.2
    have x1 : w1.cell? ⟨b, 1, none⟩ = some (.slice (some ⟨r, 0, none⟩) R.all.length cap) := block_cell h1.blk 1
    have xl := block_lt h1.blk
    have i0 : (0 : Int) ≤ i := by omega
    have i1 : (i : Int) < R.all.length := by omega
    have i2 : ¬ (i : Int) < 0 := by omega
    generalize R.all[i].2 = y at c3 HG
    clear h1 he hg hk1
    go_wp2
    go_ret2
    rw [HG.out]
    exact ⟨rfl, HK1.out⟩
  · have hg : getV R ⟨g, t, ix⟩ = (0, false) := by unfold getV; rw [hn]; rfl
    have HG := Lib.hid hg
    clear h1 hn hg hk1
    go_wp2
    go_ret2
    rw [HG.out]
    exact ⟨rfl, HK1.out⟩
def CutP (w : World) (F : Nat → Prop) (b : Nat) (R : OffC) (i : Nat) (e : Ending) (w' : World) : Prop := e = .returned (.tuple #[]) ∧ ROpost w F b ⟨R.room, R.all.eraseIdx i⟩ w'
set_option maxRecDepth 100000 in
set_option maxHeartbeats 4000000 in
theorem rocut_any {w : World} {F : Nat → Prop} {b : Nat} {R : OffC} (i : Nat) (h : ROst w F b R) (hi : i < R.all.length) (hl : R.all.length ≤ 100000) :
    Calls Tryz.prog 59 #[.pointer (some ⟨b, 0, none⟩), .int .i64 i] w (CutP w F b R i) := by
  obtain ⟨v, h⟩ := h
  have HH := Lib.hid h
  have hb := block_lt h.blk
  have hx : w.cell? ⟨b, 1, none⟩ = some v := block_cell h.blk 1
  rcases h.form with ⟨hnil, rfl⟩ | ⟨r, cap, rfl, hrb, hrl, hcap, hFr, hcm⟩
  · rw [hnil] at hi; exact absurd hi (Nat.not_lt_zero _)
  clear h
  have HTF : Hid (∀ wx, K0 w wx → TabO w wx b r R.room (.slice (some ⟨r, 0, none⟩) R.all.length cap) R.all i (i + 1)) := fun wx hk => HH.out.tabO hk i (i + 1)
  have hn1 := (HTF.out w (Keeps.refl _ _)).n1
  have fr1 := (HTF.out w (Keeps.refl _ _)).f1
  have hl1 : ((R.all.take i).flatMap encR).length = i * 4 := by rw [y_flat_len encR 4 encR_len, List.length_take]; congr 1; omega
  have hl2 : ((R.all.drop (i + 1)).flatMap encR).length = (R.all.length - (i + 1)) * 4 := by rw [y_flat_len encR 4 encR_len, List.length_drop]
  have hc1 : ∀ u ∈ (R.all.take i).flatMap encR, u.oneCell' = true := fun u hu => by
    obtain ⟨y, hy, hu⟩ := List.mem_flatMap.1 hu
    exact encR_one y u hu
  have hc2 : ∀ u ∈ (R.all.drop (i + 1)).flatMap encR, u.oneCell' = true := fun u hu => by
    obtain ⟨y, hy, hu⟩ := List.mem_flatMap.1 hu
    exact encR_one y u hu
  have hown0 : w.ownsRow w.heap.size 115 4 (.slice none 0 0) 0 [] := World.ownsRow_nil _ _ _ _
  have HLE : Hid ((R.all.eraseIdx i).length = i + (R.all.length - (i + 1))) := by show _ = _; rw [List.length_eraseIdx, if_pos hi]; omega
  have HFM : Hid ((R.all.eraseIdx i).flatMap encR = (R.all.take i).flatMap encR ++ (R.all.drop (i + 1)).flatMap encR) := by show _ = _; rw [List.eraseIdx_eq_take_drop_succ, List.flatMap_append]
  have HFIN : Hid (∀ w4 va vc, K0 w w4 → w4.ownsRow w.heap.size 115 4 (.slice va (i + (R.all.length - (i + 1))) vc) (i + (R.all.length - (i + 1))) ((R.all.take i).flatMap encR ++ (R.all.drop (i + 1)).flatMap encR) →
      CutP w F b R i (.returned (.tuple #[])) (w4.setCell ⟨b, 1, none⟩ (.slice va (i + (R.all.length - (i + 1))) vc))) := by
    show ∀ _ _ _, _ → _ → _
    intro w4 va vc hk4 ho4
    refine ⟨rfl, ?_⟩
    rw [← HFM.out, ← HLE.out] at ho4
    have h9 := HH.out.newrow1 hk4 ho4
    rw [HLE.out] at h9
    exact h9
  have i0 : (0 : Int) ≤ i := by omega
  have i1 : (i : Int) ≤ cap := by omega
  have i2 : (i : Int) < R.all.length := by omega
  have i3 : (i : Int) + 1 ≤ R.all.length := by omega
  have i4 : (R.all.length : Int) ≤ cap := by omega
  go_enter Tryz.func59, Tryz.ntmps59
  by_cases hce : cap = i + 1
  · have hdn : R.all.length = i + 1 := by omega
    have HDN : Hid ((R.all.drop (i + 1)).flatMap encR = []) := by show _ = _; rw [List.drop_eq_nil_of_le (by omega)]; rfl
    rw [hdn] at hx HTF HFIN i2 i3 i4
    rw [HDN.out] at HFIN
    have HFZ : Hid (∀ w4 va vc, K0 w w4 → w4.ownsRow w.heap.size 115 4 (.slice va i vc) i ((R.all.take i).flatMap encR) →
      CutP w F b R i (.returned (.tuple #[])) (w4.setCell ⟨b, 1, none⟩ (.slice va i vc))) := by
      show ∀ _ _ _, _ → _ → _
      intro w4 va vc hk4 ho4
      have h9 := HFIN.out w4 va vc hk4
      rw [Nat.sub_self, Nat.add_zero, List.append_nil] at h9
      exact h9 ho4
    subst hce
    clear hdn hl2 hc2 HLE HFM HFIN
    go_wp2_with (at_builtin; first | (refine y_wpList_appN rfl rfl Tryz.underlying71 infoRow rfl (by decide) rfl hown0 rfl hl1 hn1 hc1 ⟨by omega, by decide⟩ (Nat.le_refl _) ?_; intro v1 w2 hv1 hg1; simp only [Nat.zero_add, List.nil_append] at hv1; obtain ⟨va1, vc1, rfl⟩ := y_own_slice hv1; have hk1 := y_grown1 hg1; have hz1 := hk1.size; obtain ⟨_, _, t1, t2, _, t3, _, t4⟩ := HTF.out w2 hk1; clear hx hb fr1 hn1) | (refine wpList_appZ rfl rfl Tryz.underlying71 infoRow rfl hv1 rfl ?_; have HK3 := Lib.hid hk1; have HV3 := Lib.hid hv1; clear hv1 hk1))
    go_end0
    exact HFZ.out _ _ _ HK3.out HV3.out
  · go_wp2_with (at_builtin; first | (refine y_wpList_appN rfl rfl Tryz.underlying71 infoRow rfl (by decide) rfl hown0 rfl hl1 hn1 hc1 ⟨by omega, by decide⟩ (Nat.le_refl _) ?_; intro v1 w2 hv1 hg1; simp only [Nat.zero_add, List.nil_append] at hv1; obtain ⟨va1, vc1, rfl⟩ := y_own_slice hv1; have hk1 := y_grown1 hg1; have hz1 := hk1.size; obtain ⟨_, _, t1, t2, _, t3, _, t4⟩ := HTF.out w2 hk1; clear hx hb fr1 hn1) | (refine y_wpList_appN rfl rfl Tryz.underlying71 infoRow rfl (by decide) rfl hv1 rfl hl2 t4 hc2 ⟨by omega, by decide⟩ hz1 ?_; intro v3 w3 hv3 hg3; obtain ⟨va3, vc3, rfl⟩ := y_own_slice hv3; have hk3 : K0 w w3 := hk1.grown hg3 (fun k e hlt => absurd (hv1.lt k e).1 (by omega)); have HK3 := Lib.hid hk3; have HV3 := Lib.hid hv3; obtain ⟨_, _, r1, r2, _, r3, _, _⟩ := HTF.out w3 hk3; clear t1 t2 t3 t4 hv3 hg3 hv1 hk3))
    go_end0
    exact HFIN.out _ _ _ HK3.out HV3.out
/-- What Drop leaves. -/
def dropO (R : OffC) (t : ByteArray) : OffC := ⟨R.room, R.all.filter fun p => !decide (p.1.topic = t)⟩
def dropN (R : OffC) (t : ByteArray) : Nat := (R.all.filter fun p => decide (p.1.topic = t)).length
/-- The list behind the places from i on. -/
def odropAt (l : List RowP) (t : ByteArray) (i : Nat) : List RowP := l.take i ++ (l.drop i).filter fun p => !decide (p.1.topic = t)
theorem odropAt_all (l : List RowP) (t : ByteArray) : odropAt l t l.length = l := by unfold odropAt; rw [List.take_length, List.drop_length]; simp
theorem odropAt_zero (l : List RowP) (t : ByteArray) : odropAt l t 0 = l.filter fun p => !decide (p.1.topic = t) := by unfold odropAt; simp
theorem odropAt_len (l : List RowP) (t : ByteArray) (i : Nat) (h : i ≤ l.length) : i ≤ (odropAt l t i).length ∧ (odropAt l t i).length ≤ l.length := by
  unfold odropAt
  have h1 := List.length_filter_le (fun p : RowP => !decide (p.1.topic = t)) (l.drop i)
  rw [List.length_drop] at h1
  rw [List.length_append, List.length_take]
  omega
theorem odropAt_get (l : List RowP) (t : ByteArray) {i : Nat} (h : i < l.length) : ∃ h' : i < (odropAt l t (i + 1)).length, (odropAt l t (i + 1))[i] = l[i] := by
  have h1 := (odropAt_len l t (i + 1) (by omega)).1
  refine ⟨by omega, ?_⟩
  unfold odropAt
  rw [List.getElem_append_left (by rw [List.length_take]; omega), List.getElem_take]
theorem odropAt_stay (l : List RowP) (t : ByteArray) {i : Nat} (h : i < l.length) (hn : ¬ l[i].1.topic = t) : odropAt l t (i + 1) = odropAt l t i := by
  unfold odropAt
  rw [List.take_succ_eq_append_getElem h, List.append_assoc]
  congr 1
  conv => rhs; rw [List.drop_eq_getElem_cons h]
  rw [List.filter_cons]
  simp [hn]
theorem odropAt_cut (l : List RowP) (t : ByteArray) {i : Nat} (h : i < l.length) (hn : l[i].1.topic = t) : (odropAt l t (i + 1)).eraseIdx i = odropAt l t i := by
  unfold odropAt
  rw [List.take_succ_eq_append_getElem h, List.append_assoc]
  rw [List.eraseIdx_append_of_length_le (by rw [List.length_take]; omega)]
  congr 1
  have h2 : i - (l.take i).length = 0 := by rw [List.length_take]; omega
  rw [h2]
  conv => rhs; rw [List.drop_eq_getElem_cons h]
  rw [List.filter_cons]
  simp [hn]
theorem drop_count (l : List RowP) (t : ByteArray) : (l.filter fun p => decide (p.1.topic = t)).length + (l.filter fun p => !decide (p.1.topic = t)).length = l.length := by
  induction l with
  | nil => rfl
  | cons p l ih =>
    simp only [List.filter_cons, List.length_cons]
    by_cases h : p.1.topic = t <;> simp [h] <;> omega
set_option maxRecDepth 100000 in
set_option maxHeartbeats 4000000 in
theorem rodrop_any {w : World} {F : Nat → Prop} {b : Nat} {R : OffC} (t : ByteArray) (h : ROst w F b R) (hl : R.all.length ≤ 100000) :
    Calls Tryz.prog 34 #[.pointer (some ⟨b, 0, none⟩), .string t] w fun e w' => e = .returned (.int .i64 (dropN R t)) ∧ ROpost w F b (dropO R t) w' := by
  have HH := Lib.hid h
  obtain ⟨v, h⟩ := h
  have hb := block_lt h.blk
  have hx : w.cell? ⟨b, 1, none⟩ = some v := block_cell h.blk 1
  obtain ⟨va, vc, rfl⟩ := y_own_slice h.row
  clear h
  go_enter Tryz.func34, Tryz.ntmps34
  go_wp2
  go_loopw [5, 6] (fun nv i wr => ∃ j : Nat, j ≤ R.all.length ∧ i = .int .i64 ((j : Int) - 1) ∧ nv = .int .i64 ((R.all.length : Int) - (odropAt R.all t j).length) ∧ ROpost w F b ⟨R.room, odropAt R.all t j⟩ wr) (fun _ i _ => (intOf i + 1).toNat)
  case atStart => exact ⟨R.all.length, Nat.le_refl _, by go_num, by rw [odropAt_all]; simp, by rw [odropAt_all]; exact ROpost.same HH.out (Keeps.refl _ _)⟩
  case round =>
    obtain ⟨j, hj, rfl, rfl, F1, hr, hF, hk⟩ := hrel
    have HR := Lib.hid hr
    have HF := Lib.hid hF
    have HK := Lib.hid hk
    obtain ⟨v1, h1⟩ := hr
    obtain ⟨va1, vc1, rfl⟩ := y_own_slice h1.row
    have x1 : wr.cell? ⟨b, 1, none⟩ = some (.slice va1 (odropAt R.all t j).length vc1) := block_cell h1.blk 1
    have xl := block_lt h1.blk
    by_cases hj0 : j = 0
    · subst hj0
      have HFN : Hid (((R.all.length : Int) - (odropAt R.all t 0).length) = dropN R t) := by
        show _ = _
        have h8 : (R.all.filter fun p => decide (p.1.topic = t)).length + (R.all.filter fun p => !decide (p.1.topic = t)).length = R.all.length := drop_count R.all t
        have h7 : (odropAt R.all t 0).length = (R.all.filter fun p => !decide (p.1.topic = t)).length := by rw [odropAt_zero]
        have h6 : dropN R t = (R.all.filter fun p => decide (p.1.topic = t)).length := rfl
        rw [h7, h6]
        omega
      have HP : Hid (ROpost w F b (dropO R t) wr) := by
        have h9 : ROpost w F b ⟨R.room, odropAt R.all t 0⟩ wr := ⟨F1, HR.out, HF.out, HK.out⟩
        rw [odropAt_zero] at h9
        exact h9
      clear h1 hF hk
      rw [HFN.out]
      go_wp2
      go_ret
      exact ⟨rfl, HP.out⟩
    · obtain ⟨i, rfl⟩ : ∃ i, j = i + 1 := ⟨j - 1, by omega⟩
      have hil : i < R.all.length := by omega
      have hie : ((i + 1 : Nat) : Int) - 1 = i := by omega
      rw [hie]
      obtain ⟨hi2, hgi⟩ := odropAt_get R.all t hil
      have hdl := odropAt_len R.all t (i + 1) (by omega)
      rcases h1.form with ⟨hnil, _⟩ | ⟨r, cap, e9, hrb, hrl, hcap, _, hcm⟩
      · have h8 : odropAt R.all t (i + 1) = [] := hnil
        rw [h8] at hi2; exact absurd hi2 (Nat.not_lt_zero _)
      simp only [Value.slice.injEq] at e9
      obtain ⟨rfl, _, rfl⟩ := e9
      have c1 := (h1.cell rfl i hi2).2.1
      have hgi2 : ((⟨R.room, odropAt R.all t (i + 1)⟩ : OffC).all[i]'hi2) = R.all[i] := hgi
      rw [hgi2] at c1
      have HS := Lib.hid (odropAt_stay R.all t hil)
      have HC := Lib.hid (odropAt_cut R.all t hil)
      have HI2 := Lib.hid hi2
      have HDL := Lib.hid hdl
      have i0 : (0 : Int) ≤ i := by omega
      have i1 : (i : Int) < (odropAt R.all t (i + 1)).length := by omega
      clear h1 hF hk hgi hgi2
      by_cases ht : R.all[i].1.topic = t
      · have ht1 : (R.all[i].1.topic.toList == t.toList) = true := by rw [ht]; exact beq_self_eq_true _
        have HC2 := Lib.hid (HC.out ht)
        have HCT := Lib.hid (rocut_any i HR.out HI2.out (by have := HDL.out; show (odropAt R.all t (i + 1)).length ≤ _; omega))
        have HLN : Hid ((odropAt R.all t i).length + 1 = (odropAt R.all t (i + 1)).length) := by
          show _ = _
          rw [← HC2.out, List.length_eraseIdx, if_pos HI2.out]
          have : i < (odropAt R.all t (i + 1)).length := HI2.out
          omega
        generalize R.all[i].1.topic = xt at c1 ht1
        clear ht
        go_wp2_with fail
        refine HCT.out.mono ?_
        rintro e w2 ⟨rfl, hp⟩
        have HP2 := Lib.hid (ROpost.trans HF.out HK.out hp)
        clear hp
        go_wp2
        go_roundw
        case rel => exact ⟨i, by omega, by go_num, by have := HLN.out; go_num, by have h9 := HP2.out; rw [HC2.out] at h9; exact h9⟩
        case measure => first | (simp [intOf]; done) | (simp [intOf]; omega)
      · have ht1 := str_ne ht
        have HS2 := Lib.hid (HS.out ht)
        generalize R.all[i].1.topic = xt at c1 ht1
        clear ht
        go_wp2
        go_roundw
        case rel => exact ⟨i, by omega, by go_num, by rw [HS2.out], F1, by have h9 := HR.out; rw [HS2.out] at h9; exact h9, HF.out, HK.out⟩
        case measure => first | (simp [intOf]; done) | (simp [intOf]; omega)
end Go.Proofs.YtklhlffdpojkoaaGreat
