/-
  Lists with names in their order; rows of structs that the call owns. Over any kind of what stands at a name.
-/
import Derived.Test.YtbjpifipjcfhkaaRows
import Derived.Test.YtbjpifipjcfhkaaMl
import Derived.Test.YtbjpifipjcfhkaaMn
import Derived.Test.YtbjpifipjcfhkaaAz
import Derived.Sort.Walk0
namespace Go.Proofs.Ytbjpifipjcfhkaa
open Go.RowKit Fx

section
variable {α : Type}
def bltB (a b : ByteArray) : Bool := Op.bytesLess a.toList b.toList
theorem blt_iff (a b : ByteArray) : bltB a b = true ↔ a.data.toList < b.data.toList := by
  unfold bltB
  rw [bytesLess_eq, ByteArray.toList_eq, ByteArray.toList_eq]
  simp
theorem data_inj {a b : ByteArray} (h : a.data.toList = b.data.toList) : a = b := by
  cases a; cases b
  simp only [ByteArray.mk.injEq]
  exact Array.toList_inj.1 h
theorem blt_irrefl (a : ByteArray) : bltB a a = false := by
  have : ¬ bltB a a = true := fun h => List.lt_irrefl _ ((blt_iff a a).1 h)
  simpa using this
theorem blt_trans {a b c : ByteArray} (h1 : bltB a b = true) (h2 : bltB b c = true) : bltB a c = true :=
  (blt_iff a c).2 (List.lt_trans ((blt_iff a b).1 h1) ((blt_iff b c).1 h2))
theorem blt_total {a b : ByteArray} (h : a ≠ b) (h1 : bltB a b = false) : bltB b a = true := by
  refine (blt_iff b a).2 ?_
  have h2 : ¬ a.data.toList < b.data.toList := fun e => by rw [(blt_iff a b).2 e] at h1; cases h1
  have h3 : b.data.toList ≤ a.data.toList := List.not_lt.1 h2
  exact Classical.byContradiction fun h4 => h (data_inj (List.le_antisymm (List.not_lt.1 h4) h3))
/-- The names of a list. -/
def keysF (l : List (ByteArray × α)) : List ByteArray := l.map (·.1)
def SortF (l : List (ByteArray × α)) : Prop := (keysF l).Pairwise fun a b => bltB a b = true
/-- A file laid in its place. -/
def insS (l : List (ByteArray × α)) (s : ByteArray) (x : α) : List (ByteArray × α) := l.takeWhile (fun p => bltB p.1 s) ++ (s, x) :: l.dropWhile fun p => bltB p.1 s
theorem SortF.kd {l : List (ByteArray × α)} (h : SortF l) : KD l := by
  unfold KD
  refine List.Pairwise.imp ?_ h
  intro a b hab e
  subst e
  rw [blt_irrefl] at hab
  cases hab
theorem aget_append {l1 l2 : List (ByteArray × α)} (u : ByteArray) : aget (l1 ++ l2) u = (aget l1 u).or (aget l2 u) := by
  induction l1 with
  | nil => rfl
  | cons p l ih =>
    obtain ⟨k, v⟩ := p
    simp only [List.cons_append, aget]
    split
    · rfl
    · exact ih
theorem aget_isSome {l : List (ByteArray × α)} {s : ByteArray} : (aget l s).isSome = true ↔ s ∈ keysF l := by
  constructor
  · intro h
    obtain ⟨x, hx⟩ := Option.isSome_iff_exists.1 h
    exact List.mem_map.2 ⟨_, aget_in hx, rfl⟩
  · intro h
    cases hx : aget l s with
    | some x => rfl
    | none =>
      obtain ⟨p, hp, e⟩ := List.mem_map.1 h
      exact absurd e (aget_none hx p hp)
theorem keysF_append (l1 l2 : List (ByteArray × α)) : keysF (l1 ++ l2) = keysF l1 ++ keysF l2 := List.map_append
theorem aget_insS {l : List (ByteArray × α)} {s : ByteArray} (h : aget l s = none) (x : α) (u : ByteArray) : aget (insS l s x) u = if s = u then some x else aget l u := by
  have h0 : aget l u = aget (l.takeWhile (fun p => bltB p.1 s) ++ l.dropWhile fun p => bltB p.1 s) u := by rw [List.takeWhile_append_dropWhile]
  have hn : aget (l.takeWhile fun p => bltB p.1 s) s = none := by
    cases hx : aget (l.takeWhile fun p => bltB p.1 s) s with
    | none => rfl
    | some y => exact absurd rfl (aget_none h _ ((List.takeWhile_sublist _).subset (aget_in hx)))
  rw [h0]
  unfold insS
  rw [aget_append, aget_append]
  by_cases e : s = u
  · subst e
    rw [if_pos rfl, hn]
    simp [aget]
  · rw [if_neg e]
    simp [aget, e]
theorem takeWhile_all {l : List (ByteArray × α)} {s : ByteArray} : ∀ p ∈ l.takeWhile (fun p => bltB p.1 s), bltB p.1 s = true := by
  intro p hp
  exact List.all_eq_true.1 (List.all_takeWhile (p := fun p : ByteArray × α => bltB p.1 s) (l := l)) p hp
theorem dropWhile_all {s : ByteArray} : ∀ {l : List (ByteArray × α)}, SortF l → aget l s = none → ∀ p ∈ l.dropWhile (fun p => bltB p.1 s), bltB s p.1 = true
  | [], _, _, p, hp => by cases hp
  | q :: l, hs, hn, p, hp => by
    have hs' : SortF l := (List.pairwise_cons.1 hs).2
    have hq : q.1 ≠ s := aget_none hn q (List.mem_cons_self ..)
    have hn' : aget l s = none := by
      obtain ⟨k, v⟩ := q
      simp only [aget] at hn
      rw [if_neg hq] at hn
      exact hn
    rw [List.dropWhile_cons] at hp
    split at hp
    · exact dropWhile_all hs' hn' p hp
    · rename_i h1
      have h2 : bltB s q.1 = true := blt_total hq (by simpa using h1)
      rcases List.mem_cons.1 hp with rfl | hp
      · exact h2
      · exact blt_trans h2 ((List.pairwise_cons.1 hs).1 p.1 (List.mem_map.2 ⟨p, hp, rfl⟩))
theorem SortF.ins {l : List (ByteArray × α)} (h : SortF l) {s : ByteArray} (hn : aget l s = none) (x : α) : SortF (insS l s x) := by
  have h0 : SortF (l.takeWhile (fun p => bltB p.1 s) ++ l.dropWhile fun p => bltB p.1 s) := by rw [List.takeWhile_append_dropWhile]; exact h
  unfold SortF insS at *
  rw [keysF_append] at h0 ⊢
  obtain ⟨h1, h2, h3⟩ := List.pairwise_append.1 h0
  refine List.pairwise_append.2 ⟨h1, List.pairwise_cons.2 ⟨fun a ha => ?_, h2⟩, fun a ha b hb => ?_⟩
  · obtain ⟨p, hp, rfl⟩ := List.mem_map.1 ha
    exact dropWhile_all h hn p hp
  · rcases List.mem_cons.1 hb with rfl | hb
    · obtain ⟨p, hp, rfl⟩ := List.mem_map.1 ha
      exact takeWhile_all p hp
    · exact h3 a ha b hb
theorem keys_aput {l : List (ByteArray × α)} {s : ByteArray} (h : (aget l s).isSome = true) (x : α) : keysF (aput l s x) = keysF l := by
  induction l with
  | nil => cases h
  | cons p l ih =>
    obtain ⟨k, v⟩ := p
    simp only [aget] at h
    simp only [aput]
    by_cases e : k = s
    · rw [if_pos e]; simp [keysF, e]
    · rw [if_neg e] at h ⊢
      have := ih h
      simp only [keysF, List.map_cons] at this ⊢
      rw [this]
theorem SortF.put {l : List (ByteArray × α)} (h : SortF l) {s : ByteArray} (hs : (aget l s).isSome = true) (x : α) : SortF (aput l s x) := by
  unfold SortF
  rw [keys_aput hs]
  exact h
theorem adel_sub (l : List (ByteArray × α)) (s : ByteArray) : (adel l s).Sublist l := by
  induction l with
  | nil => exact List.Sublist.refl _
  | cons p l ih =>
    obtain ⟨k, v⟩ := p
    simp only [adel]
    split
    · exact List.sublist_cons_self _ _
    · exact ih.cons_cons _
theorem SortF.del {l : List (ByteArray × α)} (h : SortF l) (s : ByteArray) : SortF (adel l s) := List.Pairwise.sublist ((adel_sub l s).map _) h
/-- Where a name's place is. -/
structure PlaceAt (l : List (ByteArray × α)) (s : ByteArray) (k : Nat) : Prop where
  le : k ≤ l.length
  low : ∀ j (hj : j < l.length), j < k → bltB l[j].1 s = true
  high : ∀ h : k < l.length, bltB l[k].1 s = false
theorem place_take {l : List (ByteArray × α)} {s : ByteArray} : ∀ {k : Nat}, PlaceAt l s k → l.takeWhile (fun p => bltB p.1 s) = l.take k ∧ l.dropWhile (fun p => bltB p.1 s) = l.drop k := by
  induction l with
  | nil => intro k h; simp
  | cons p l ih =>
    intro k h
    cases k with
    | zero =>
      have h1 := h.high (Nat.zero_lt_succ _)
      have h2 : bltB p.1 s = false := h1
      simp [h2]
    | succ k =>
      have h1 : bltB p.1 s = true := h.low 0 (Nat.zero_lt_succ _) (Nat.zero_lt_succ _)
      have h2 : PlaceAt l s k := ⟨by have := h.le; simp at this; omega, fun j hj hk => h.low (j + 1) (by simp; omega) (by omega), fun hk => h.high (by simp; omega)⟩
      obtain ⟨e1, e2⟩ := ih h2
      simp [h1, e1, e2]
theorem place_ins {l : List (ByteArray × α)} {s : ByteArray} {k : Nat} (h : PlaceAt l s k) (x : α) : insS l s x = l.take k ++ (s, x) :: l.drop k := by
  obtain ⟨e1, e2⟩ := place_take h
  unfold insS
  rw [e1, e2]
theorem ins_len (l : List (ByteArray × α)) (s : ByteArray) (x : α) : (insS l s x).length = l.length + 1 := by
  unfold insS
  rw [List.length_append, List.length_cons]
  have := congrArg List.length (List.takeWhile_append_dropWhile (p := fun p : ByteArray × α => bltB p.1 s) (l := l))
  rw [List.length_append] at this
  omega
theorem PlaceAt.nil {l : List (ByteArray × α)} (h : l = []) (s : ByteArray) : PlaceAt l s 0 := by
  subst h
  exact ⟨Nat.le_refl _, fun j hj => absurd hj (Nat.not_lt_zero _), fun h => absurd h (Nat.not_lt_zero _)⟩
theorem modify_aput {l : List (ByteArray × α)} (hd : KD l) (g : α → α) : ∀ {i : Nat} (hi : i < l.length), l.modify i (fun p => (p.1, g p.2)) = aput l l[i].1 (g l[i].2) := by
  induction l with
  | nil => intro i hi; exact absurd hi (Nat.not_lt_zero _)
  | cons p l ih =>
    intro i hi
    have hd2 : KD l := (List.nodup_cons.1 hd).2
    have hp := (List.nodup_cons.1 hd).1
    cases i with
    | zero => simp [aput]
    | succ i =>
      have hi' : i < l.length := by simpa using hi
      have hne : p.1 ≠ l[i].1 := fun e => hp (List.mem_map.2 ⟨l[i], List.getElem_mem hi', e.symm⟩)
      have := ih hd2 hi'
      simp only [List.modify_succ_cons, List.getElem_cons_succ, aput, if_neg hne, this]
theorem erase_adel {l : List (ByteArray × α)} (hd : KD l) : ∀ {i : Nat} (hi : i < l.length), l.eraseIdx i = adel l l[i].1 := by
  induction l with
  | nil => intro i hi; exact absurd hi (Nat.not_lt_zero _)
  | cons p l ih =>
    intro i hi
    have hd2 : KD l := (List.nodup_cons.1 hd).2
    have hp := (List.nodup_cons.1 hd).1
    cases i with
    | zero => simp [adel]
    | succ i =>
      have hi' : i < l.length := by simpa using hi
      have hne : p.1 ≠ l[i].1 := fun e => hp (List.mem_map.2 ⟨l[i], List.getElem_mem hi', e.symm⟩)
      have := ih hd2 hi'
      simp only [List.eraseIdx_cons_succ, List.getElem_cons_succ, adel, if_neg hne, this]
theorem aget_atI {l : List (ByteArray × α)} (hd : KD l) {i : Nat} (hi : i < l.length) : aget l l[i].1 = some l[i].2 := aget_of_mem hd (List.getElem_mem hi)
theorem aget_not {l : List (ByteArray × α)} {s : ByteArray} (h : aget l s = none) {i : Nat} (hi : i < l.length) : l[i].1 ≠ s := fun e => aget_none h l[i] (List.getElem_mem hi) e
theorem aget_no {l : List (ByteArray × α)} {s : ByteArray} (h : ∀ i (hi : i < l.length), l[i].1 ≠ s) : aget l s = none := by
  refine aget_out fun hm => ?_
  obtain ⟨p, hp, e⟩ := List.mem_map.1 hm
  obtain ⟨i, hi, rfl⟩ := List.mem_iff_getElem.1 hp
  exact h i hi e
theorem toList_neU {a b : ByteArray} (h : ¬ a = b) : (b.toList == a.toList) = false ∧ (a.toList == b.toList) = false := by
  have : ¬ a.toList = b.toList := fun e => h (by
    rw [ByteArray.toList_eq, ByteArray.toList_eq] at e
    exact data_inj e)
  exact ⟨by simpa using fun e => this e.symm, by simpa using this⟩
end
theorem pairs_nodup {κ α : Type} {l : List (κ × α)} (h : KD l) : l.Nodup := by
  unfold KD at h
  rw [List.Nodup, List.pairwise_map] at h
  exact h.imp (fun hne e => hne (by rw [e]))
theorem perm_same {κ α : Type} [DecidableEq κ] {l1 l2 : List (κ × α)} (h1 : KD l1) (h2 : KD l2) (h : ∀ s, aget l1 s = aget l2 s) : l1.Perm l2 :=
  (List.perm_ext_iff_of_nodup (pairs_nodup h1) (pairs_nodup h2)).2 fun p => by
    obtain ⟨s, x⟩ := p
    exact ⟨fun e => aget_in (by rw [← h]; exact aget_of_mem h1 e), fun e => aget_in (by rw [h]; exact aget_of_mem h2 e)⟩
theorem row_keep {w w' : World} {S : Nat → Prop} (hk : Keeps S w w') {base : Nat} {e : TypeId} {size : Nat} {v : Value} {n : Nat} {xs : List Value} (h : w.ownsRow base e size v n xs) (hS : ∀ k, v.ownBlock = some k → ¬ S k) : w'.ownsRow base e size v n xs := by
  refine ⟨h.1, ?_⟩
  rcases h.2 with hn | ⟨g, cap, cur, rfl, hb, hgg, rest⟩
  · exact .inl hn
  · exact .inr ⟨g, cap, cur, rfl, hb, (hk.block g (Array.getElem?_eq_some_iff.1 hgg).1 (hS g rfl)).trans hgg, rest⟩
theorem add_at (b off j : Nat) : (⟨b, off, none⟩ : Addr).add j = ⟨b, off + j, none⟩ := by unfold Addr.add; split <;> simp_all
/-- An append of a row that lies somewhere, onto a row that the call owns. -/
theorem wpList_appN {P : Program} {w : World} {ops : Array Oper} {rest : List Oper} {o : Oper} {a : Act} {Q : Exit → Act → World → Prop} (hgd : o.guard = none) {s x : Operand} {t : TypeId}
    (ho : o.op = .call { callee := .builtin .append, args := #[s, x], argTypes := #[t, t] })
    {base : Nat} {e : TypeId} {z : Value} {size bytes : Nat} (ht : P.underlying t = some (.slice e)) (hinfo : (P.info? e).map (fun i => (i.zero, i.size, i.bytes)) = some (some z, size, bytes)) (hzs : z.cells.size = size) (hsz : 0 < size)
    {v : Value} {n : Nat} {xs : List Value} (hs : a.eval s = v) (hown : w.ownsRow base e size v n xs) {ad : Addr} {m c : Nat} {news : List Value} (hx : a.eval x = .slice (some ad) m c) (hl : news.length = m * size)
    (hnews : ∀ j u, news[j]? = some u → w.cell? (ad.add j) = some u) (h1 : ∀ u ∈ news, u.oneCell' = true) (hn : n + m ≤ 1000000 ∧ bytes ≤ 1000000) (hbase : base ≤ w.heap.size)
    (h : ∀ v' w', w'.ownsRow base e size v' (n + m) (xs ++ news) → w.grownBy w' v.ownBlock → wpList P ops Q rest (a.put o.dst v') w') : wpList P ops Q (o :: rest) a w := by
  obtain ⟨i, hi, hz, hz1, hz2⟩ := info_parts hinfo
  refine wpList_append_own w hgd s x t ho base e i z size bytes ht hi hz hz1 hz2 hzs hsz v n xs hs hown ad m c news hx hl hnews h1 (by unfold maxLen; omega) ?_ hbase fun v' w' h2 h3 _ => h v' w' h2 h3
  have : (n + m) * bytes ≤ 1000000 * 1000000 := Nat.mul_le_mul hn.1 hn.2
  omega
theorem own_slice {w : World} {base : Nat} {e : TypeId} {size : Nat} {v : Value} {n : Nat} {xs : List Value} (h : w.ownsRow base e size v n xs) : ∃ a c, v = .slice a n c := by
  rcases h.2 with ⟨rfl, rfl⟩ | ⟨g, cap, cur, rfl, _⟩
  · exact ⟨_, _, rfl⟩
  · exact ⟨_, _, rfl⟩
theorem flatN_drop {α : Type} (enc : α → List Value) (n : Nat) (hn : ∀ x, (enc x).length = n) (L : List α) (i : Nat) : (L.drop i).flatMap enc = (L.flatMap enc).drop (i * n) := by
  induction L generalizing i with
  | nil => simp
  | cons x L ih =>
    cases i with
    | zero => simp
    | succ i =>
      rw [List.drop_succ_cons, ih, List.flatMap_cons, List.drop_append, hn]
      have e1 : (enc x).drop ((i + 1) * n) = [] := List.drop_eq_nil_of_le (by rw [hn, Nat.add_mul]; omega)
      rw [e1, List.nil_append]
      congr 1
      rw [Nat.add_mul]; omega
theorem flatN_take {α : Type} (enc : α → List Value) (n : Nat) (hn : ∀ x, (enc x).length = n) (L : List α) (i : Nat) : (L.take i).flatMap enc = (L.flatMap enc).take (i * n) := by
  induction L generalizing i with
  | nil => simp
  | cons x L ih =>
    cases i with
    | zero => simp
    | succ i =>
      rw [List.take_succ_cons, List.flatMap_cons, ih, List.flatMap_cons, List.take_append, hn]
      have e1 : (enc x).take ((i + 1) * n) = enc x := List.take_of_length_le (by rw [hn, Nat.add_mul]; omega)
      rw [e1]
      congr 2
      rw [Nat.add_mul]; omega
theorem flat_len {α : Type} (enc : α → List Value) (n : Nat) (hn : ∀ x, (enc x).length = n) (L : List α) : (L.flatMap enc).length = L.length * n := by
  induction L with
  | nil => simp
  | cons x L ih => rw [List.flatMap_cons, List.length_append, hn, ih, List.length_cons, Nat.add_mul]; omega
theorem own_base {w : World} {base base' : Nat} {e : TypeId} {size : Nat} {v : Value} {n : Nat} {xs : List Value} (h : w.ownsRow base e size v n xs) (hb : base' ≤ base) : w.ownsRow base' e size v n xs := by
  refine ⟨h.1, h.2.elim .inl fun ⟨g, cap, cur, h1, h2, h3⟩ => .inr ⟨g, cap, cur, h1, Nat.le_trans hb h2, h3⟩⟩
theorem flat_setF {α : Type} (enc : α → List Value) (n : Nat) (hn : ∀ x, (enc x).length = n) (f : α → α) (j : Nat) (u : Value) (hj : j < n) (hf : ∀ x, enc (f x) = (enc x).set j u) : ∀ (l : List α) (i : Nat), i < l.length → (l.flatMap enc).set (i * n + j) u = (l.modify i f).flatMap enc
  | [], i, h => absurd h (Nat.not_lt_zero _)
  | x :: l, 0, _ => by
    simp only [List.flatMap_cons, Nat.zero_mul, Nat.zero_add, List.modify_zero_cons]
    rw [List.set_append_left _ _ (by rw [hn]; exact hj), hf]
  | x :: l, i + 1, h => by
    have h1 := flat_setF enc n hn f j u hj hf l i (by simpa using h)
    simp only [List.flatMap_cons, List.modify_succ_cons]
    rw [List.set_append_right _ _ (by rw [hn, Nat.add_mul]; omega), hn, show (i + 1) * n + j - n = i * n + j by rw [Nat.add_mul]; omega, h1]
theorem grown1 {w w1 : World} (hg : w.grownBy w1 none) : K0 w w1 := (Keeps.refl (fun _ => False) w).grown hg (fun k e => by cases e)
end Go.Proofs.Ytbjpifipjcfhkaa
