/-
  Producers, in plain Lean: the document's list beside the program's map.
-/
import Derived.Test.YtbjpifipjcfhkaaIu
import Derived.Test.YtbjpifipjcfhkaaUa
namespace Go.Proofs.Ytbjpifipjcfhkaa
open Go.RowKit Fx

/-- A producer's window, as a list. -/
def winL (H : HeardC) : List SentC := (List.range H.count).map (nth H)
theorem winL_len (H : HeardC) : (winL H).length = H.count := by simp [winL]
theorem winL_get (H : HeardC) (i : Nat) (h : i < (winL H).length) : (winL H)[i] = nth H i := by simp [winL]
theorem win_winL (H : HeardC) : Win H (winL H) := ⟨(winL_len H).symm, fun i h => (winL_get H i h).symm⟩
theorem Win.eq {H : HeardC} {ws : List SentC} (h : Win H ws) : winL H = ws := by
  apply List.ext_getElem
  · rw [winL_len]; exact h.1
  · intro i h1 h2
    rw [winL_get, h.2 i h2]
theorem winL_add {H : HeardC} (ok : HOk H) (s : SentC) : winL (addH H s) = (if (winL H).length = 5 then (winL H).tail else winL H) ++ [s] := ((win_winL H).add ok s).eq
theorem winL_new (e : Int) : winL (newHd e) = [] := rfl
/-- What the document keeps of a producer. -/
def coreI (p : Int × HeardC) : Int × Int × List SentC := (p.1, p.2.epoch, winL p.2)
def SortI {α : Type} (l : List (Int × α)) : Prop := (l.map (·.1)).Pairwise (· < ·)
theorem SortI.kd {α : Type} {l : List (Int × α)} (h : SortI l) : KD l := List.Pairwise.imp (fun hab e => by omega) h
structure SimI (M R : List (Int × HeardC)) : Prop where
  keys : KD M
  look : ∀ id, aget M id = aget R id
  ord : SortI R
theorem SimI.old {M R : List (Int × HeardC)} (h : SimI M R) (id : Int) : oldH M id = oldH R id := by unfold oldH; rw [h.look]
theorem SimI.check {M R : List (Int × HeardC)} (h : SimI M R) (b : BatchC) : checkR M b = checkR R b := by unfold checkR; rw [h.old]
/-- One laid in its place. -/
def insI {α : Type} (l : List (Int × α)) (s : Int) (x : α) : List (Int × α) := l.takeWhile (fun p => decide (p.1 < s)) ++ (s, x) :: l.dropWhile fun p => decide (p.1 < s)
section
variable {α : Type}
theorem agetI_append {l1 l2 : List (Int × α)} (u : Int) : aget (l1 ++ l2) u = (aget l1 u).or (aget l2 u) := by
  induction l1 with
  | nil => rfl
  | cons p l ih =>
    obtain ⟨k, v⟩ := p
    simp only [List.cons_append, aget]
    split
    · rfl
    · exact ih
theorem aget_insI {l : List (Int × α)} {s : Int} (h : aget l s = none) (x : α) (u : Int) : aget (insI l s x) u = if s = u then some x else aget l u := by
  have h0 : aget l u = aget (l.takeWhile (fun p => decide (p.1 < s)) ++ l.dropWhile fun p => decide (p.1 < s)) u := by rw [List.takeWhile_append_dropWhile]
  have hn : aget (l.takeWhile fun p => decide (p.1 < s)) s = none := by
    cases hx : aget (l.takeWhile fun p => decide (p.1 < s)) s with
    | none => rfl
    | some y => exact absurd rfl (aget_none h _ ((List.takeWhile_sublist _).subset (aget_in hx)))
  rw [h0]
  unfold insI
  rw [agetI_append, agetI_append]
  by_cases e : s = u
  · subst e
    rw [if_pos rfl, hn]
    simp [aget]
  · rw [if_neg e]
    simp [aget, e]
theorem takeWhileI_all {l : List (Int × α)} {s : Int} : ∀ p ∈ l.takeWhile (fun p => decide (p.1 < s)), p.1 < s := by
  intro p hp
  exact of_decide_eq_true (List.all_eq_true.1 (List.all_takeWhile (p := fun p : Int × α => decide (p.1 < s)) (l := l)) p hp)
theorem dropWhileI_all {s : Int} : ∀ {l : List (Int × α)}, SortI l → aget l s = none → ∀ p ∈ l.dropWhile (fun p => decide (p.1 < s)), s < p.1
  | [], _, _, p, hp => by cases hp
  | q :: l, hs, hn, p, hp => by
    have hs' : SortI l := (List.pairwise_cons.1 hs).2
    have hq : q.1 ≠ s := aget_none hn q (List.mem_cons_self ..)
    have hn' : aget l s = none := by
      obtain ⟨k, v⟩ := q
      simp only [aget] at hn
      rw [if_neg hq] at hn
      exact hn
    rw [List.dropWhile_cons] at hp
    split at hp
    · exact dropWhileI_all hs' hn' p hp
    · rename_i h1
      have h2 : s < q.1 := by
        have : ¬ q.1 < s := by simpa using h1
        omega
      rcases List.mem_cons.1 hp with rfl | hp
      · exact h2
      · have h3 : q.1 < p.1 := (List.pairwise_cons.1 hs).1 p.1 (List.mem_map.2 ⟨p, hp, rfl⟩)
        omega
theorem SortI.ins {l : List (Int × α)} (h : SortI l) {s : Int} (hn : aget l s = none) (x : α) : SortI (insI l s x) := by
  have h0 : SortI (l.takeWhile (fun p => decide (p.1 < s)) ++ l.dropWhile fun p => decide (p.1 < s)) := by rw [List.takeWhile_append_dropWhile]; exact h
  unfold SortI insI at *
  rw [List.map_append] at h0 ⊢
  obtain ⟨h1, h2, h3⟩ := List.pairwise_append.1 h0
  refine List.pairwise_append.2 ⟨h1, List.pairwise_cons.2 ⟨fun a ha => ?_, h2⟩, fun a ha b hb => ?_⟩
  · obtain ⟨p, hp, rfl⟩ := List.mem_map.1 ha
    exact dropWhileI_all h hn p hp
  · rcases List.mem_cons.1 hb with rfl | hb
    · obtain ⟨p, hp, rfl⟩ := List.mem_map.1 ha
      exact takeWhileI_all p hp
    · exact h3 a ha b hb
theorem keysI_aput {l : List (Int × α)} {s : Int} (h : (aget l s).isSome = true) (x : α) : (aput l s x).map (·.1) = l.map (·.1) := by
  induction l with
  | nil => cases h
  | cons p l ih =>
    obtain ⟨k, v⟩ := p
    simp only [aget] at h
    simp only [aput]
    by_cases e : k = s
    · rw [if_pos e]; simp [e]
    · rw [if_neg e] at h ⊢
      have := ih h
      simp only [List.map_cons] at this ⊢
      rw [this]
theorem SortI.put {l : List (Int × α)} (h : SortI l) {s : Int} (hs : (aget l s).isSome = true) (x : α) : SortI (aput l s x) := by
  unfold SortI
  rw [keysI_aput hs]
  exact h
/-- Where a number's place is. -/
structure PlaceI (l : List (Int × α)) (s : Int) (k : Nat) : Prop where
  le : k ≤ l.length
  low : ∀ j (hj : j < l.length), j < k → l[j].1 < s
  high : ∀ h : k < l.length, ¬ l[k].1 < s
theorem placeI_take {l : List (Int × α)} {s : Int} : ∀ {k : Nat}, PlaceI l s k → l.takeWhile (fun p => decide (p.1 < s)) = l.take k ∧ l.dropWhile (fun p => decide (p.1 < s)) = l.drop k := by
  induction l with
  | nil => intro k h; simp
  | cons p l ih =>
    intro k h
    cases k with
    | zero =>
      have h1 := h.high (Nat.zero_lt_succ _)
      have h2 : ¬ p.1 < s := h1
      simp [h2]
    | succ k =>
      have h1 : p.1 < s := h.low 0 (Nat.zero_lt_succ _) (Nat.zero_lt_succ _)
      have h2 : PlaceI l s k := ⟨by have := h.le; simp at this; omega, fun j hj hk => h.low (j + 1) (by simp; omega) (by omega), fun hk => h.high (by simp; omega)⟩
      obtain ⟨e1, e2⟩ := ih h2
      simp [h1, e1, e2]
theorem placeI_ins {l : List (Int × α)} {s : Int} {k : Nat} (h : PlaceI l s k) (x : α) : insI l s x = l.take k ++ (s, x) :: l.drop k := by
  obtain ⟨e1, e2⟩ := placeI_take h
  unfold insI
  rw [e1, e2]
theorem insI_len (l : List (Int × α)) (s : Int) (x : α) : (insI l s x).length = l.length + 1 := by
  unfold insI
  rw [List.length_append, List.length_cons]
  have := congrArg List.length (List.takeWhile_append_dropWhile (p := fun p : Int × α => decide (p.1 < s)) (l := l))
  rw [List.length_append] at this
  omega
theorem setI_aput {l : List (Int × α)} (hd : KD l) (x : α) : ∀ {i : Nat} (hi : i < l.length), l.set i (l[i].1, x) = aput l l[i].1 x := by
  induction l with
  | nil => intro i hi; exact absurd hi (Nat.not_lt_zero _)
  | cons p l ih =>
    intro i hi
    have hd2 : KD l := (List.nodup_cons.1 hd).2
    have hp := (List.nodup_cons.1 hd).1
    cases i with
    | zero => simp [aput]
    | succ i =>
      have hi' : i < l.length := by simpa using hi
      have hne : p.1 ≠ l[i].1 := fun e => hp (List.mem_map.2 ⟨l[i], List.getElem_mem hi', e.symm⟩)
      have := ih hd2 hi'
      simp only [List.set_cons_succ, List.getElem_cons_succ, aput, if_neg hne, this]
theorem agetI_at {l : List (Int × α)} (hd : KD l) {i : Nat} (hi : i < l.length) : aget l l[i].1 = some l[i].2 := aget_of_mem hd (List.getElem_mem hi)
theorem agetI_not {l : List (Int × α)} {s : Int} (h : aget l s = none) {i : Nat} (hi : i < l.length) : l[i].1 ≠ s := fun e => aget_none h l[i] (List.getElem_mem hi) e
theorem agetI_no {l : List (Int × α)} {s : Int} (h : ∀ i (hi : i < l.length), l[i].1 ≠ s) : aget l s = none := by
  refine aget_out fun hm => ?_
  obtain ⟨p, hp, e⟩ := List.mem_map.1 hm
  obtain ⟨i, hi, rfl⟩ := List.mem_iff_getElem.1 hp
  exact h i hi e
end
/-- The document's Note. -/
def noteS (R : List (Int × HeardC)) (b : BatchC) : List (Int × HeardC) :=
  if mayB b = true then (if b.epoch < (oldH R b.prod).epoch then R else
    aput (match aget R b.prod with | some _ => R | none => insI R b.prod (newHd b.epoch)) b.prod (addH (if (oldH R b.prod).epoch = b.epoch then oldH R b.prod else newHd b.epoch) (sentB b))) else R
theorem SimI.nil : SimI [] [] := ⟨List.nodup_nil, fun _ => rfl, List.Pairwise.nil⟩
theorem SimI.note {M R : List (Int × HeardC)} (h : SimI M R) (b : BatchC) : SimI (noteM M b) (noteS R b) := by
  unfold noteM noteS
  by_cases hm : mayB b = true
  · rw [if_pos hm, if_pos hm, ← h.old b.prod]
    by_cases h1 : b.epoch < (oldH M b.prod).epoch
    · rw [if_pos h1, if_pos h1]; exact h
    · rw [if_neg h1, if_neg h1]
      obtain ⟨x, e1, e2⟩ : ∃ x, (if (oldH M b.prod).epoch < b.epoch then aput M b.prod (addH (newHd b.epoch) (sentB b)) else aput M b.prod (addH (oldH M b.prod) (sentB b))) = aput M b.prod x ∧ addH (if (oldH M b.prod).epoch = b.epoch then oldH M b.prod else newHd b.epoch) (sentB b) = x := by
        by_cases h2 : (oldH M b.prod).epoch < b.epoch
        · exact ⟨_, by rw [if_pos h2], by rw [if_neg (by omega)]⟩
        · exact ⟨_, by rw [if_neg h2], by rw [if_pos (by omega)]⟩
      rw [e1, e2]
      cases ha : aget R b.prod with
      | some y =>
        refine ⟨h.keys.put _ _, fun id => ?_, h.ord.put (by rw [ha]; rfl) _⟩
        rw [aget_aput, aget_aput, h.look]
      | none =>
        refine ⟨h.keys.put _ _, fun id => ?_, (h.ord.ins ha _).put (by rw [aget_insI ha, if_pos rfl]; rfl) _⟩
        rw [aget_aput, aget_aput, aget_insI ha, h.look]
        split
        · rfl
        · rfl
  · rw [if_neg hm, if_neg hm]; exact h
theorem SimI.perm {M R : List (Int × HeardC)} (h : SimI M R) : M.Perm R := perm_same h.keys h.ord.kd h.look
theorem SimI.len {M R : List (Int × HeardC)} (h : SimI M R) : M.length = R.length := h.perm.length_eq
/-- What may stand in a window. -/
def okS (s : SentC) : Prop := 0 ≤ s.seq ∧ s.seq ≤ 1073741824 ∧ 0 ≤ s.base ∧ s.base ≤ 1099511627776 ∧ 1 ≤ s.span ∧ s.span ≤ 50
structure okH (H : HeardC) : Prop where
  ok : HOk H
  ep : 0 ≤ H.epoch ∧ H.epoch ≤ 32768
  cnt : 1 ≤ H.count
  all : ∀ s ∈ winL H, okS s
structure WfR (M : List (Int × HeardC)) : Prop where
  rng : ∀ id H, aget M id = some H → 0 ≤ id ∧ id ≤ 1073741824 ∧ okH H
theorem WfR.nil : WfR [] := ⟨fun _ _ e => by cases e⟩
theorem WfR.wfm {M : List (Int × HeardC)} (h : WfR M) : WfM M := fun id H e => ⟨(h.rng id H e).2.2.ep.1, (h.rng id H e).2.2.ok⟩
theorem WfR.look {M R : List (Int × HeardC)} (h : WfR M) (hs : ∀ id, aget M id = aget R id) : WfR R := ⟨fun id H e => h.rng id H (by rw [hs]; exact e)⟩
theorem mayB_all {b : BatchC} (h : mayB b = true) : (0 ≤ b.prod ∧ b.prod ≤ 1073741824) ∧ (0 ≤ b.epoch ∧ b.epoch ≤ 32768) ∧ okS (sentB b) := by
  unfold mayB win at h
  simp only [Bool.and_eq_true, decide_eq_true_eq] at h
  obtain ⟨⟨⟨⟨h1, h2⟩, h3⟩, h4⟩, h5⟩ := h
  exact ⟨h1, h2, h3.1, h3.2, h5.1, h5.2, h4.1, h4.2⟩
theorem okH.add {H : HeardC} (ok : HOk H) (ep : 0 ≤ H.epoch ∧ H.epoch ≤ 32768) (ha : ∀ s ∈ winL H, okS s) {s : SentC} (hs : okS s) : okH (addH H s) := by
  refine ⟨addH_ok ok s, ep, by show 1 ≤ _ + 1; omega, fun t ht => ?_⟩
  rw [winL_add ok] at ht
  rcases List.mem_append.1 ht with ht | ht
  · split at ht
    · exact ha t (List.mem_of_mem_tail ht)
    · exact ha t ht
  · rw [List.mem_singleton.1 ht]; exact hs
theorem WfR.note {M : List (Int × HeardC)} (h : WfR M) (b : BatchC) : WfR (noteM M b) := by
  unfold noteM
  by_cases hm : mayB b = true
  · rw [if_pos hm]
    obtain ⟨h1, h2, h3⟩ := mayB_all hm
    by_cases h4 : b.epoch < (oldH M b.prod).epoch
    · rw [if_pos h4]; exact h
    · rw [if_neg h4]
      have hnew : okH (addH (newHd b.epoch) (sentB b)) := okH.add (newHd_ok _) h2 (fun s hs => by cases hs) h3
      have hput : ∀ x, okH x → WfR (aput M b.prod x) := fun x hx => ⟨fun id H e => by
        rw [aget_aput] at e
        split at e
        · rename_i he
          cases e
          rw [← he]
          exact ⟨h1.1, h1.2, hx⟩
        · exact h.rng id H e⟩
      by_cases h5 : (oldH M b.prod).epoch < b.epoch
      · rw [if_pos h5]; exact hput _ hnew
      · rw [if_neg h5]
        rcases (h.wfm.old b.prod).2 with ho | ⟨_, ho⟩
        · have := (h.rng _ _ ho).2.2
          exact hput _ (okH.add this.ok this.ep this.all h3)
        · rw [ho] at h5
          exact absurd h5 (by show ¬ ¬ -1 < b.epoch; omega)
  · rw [if_neg hm]; exact h
theorem noteM_len (M : List (Int × HeardC)) (b : BatchC) : (noteM M b).length ≤ M.length + 1 := by
  have hp : ∀ x, (aput M b.prod x).length ≤ M.length + 1 := by
    intro x
    induction M with
    | nil => simp [aput]
    | cons p l ih =>
      obtain ⟨k, v⟩ := p
      simp only [aput]
      split
      · simp
      · simp; exact ih
  unfold noteM
  split
  · split
    · omega
    · split <;> exact hp _
  · omega
end Go.Proofs.Ytbjpifipjcfhkaa
