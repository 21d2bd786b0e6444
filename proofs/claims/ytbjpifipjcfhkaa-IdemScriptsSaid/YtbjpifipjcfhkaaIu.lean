/-
  IdemAgain, the plain law: the window as a list, a chain of batches, what a Check of each one says.
-/
import Derived.Test.YtbjpifipjcfhkaaIt
namespace Go.Proofs.Ytbjpifipjcfhkaa
open Go.RowKit Fx

/-- The window, as a list. -/
def Win (H : HeardC) (ws : List SentC) : Prop := H.count = ws.length ∧ ∀ i (h : i < ws.length), nth H i = ws[i]
theorem Win.new (e : Int) : Win (newHd e) [] := ⟨rfl, fun _ h => absurd h (Nat.not_lt_zero _)⟩
theorem Win.shed {H : HeardC} {ws : List SentC} (h : Win H ws) : Win (shed H) (if ws.length = 5 then ws.tail else ws) := by
  have hc := h.1
  unfold Go.Proofs.Ytbjpifipjcfhkaa.shed
  by_cases h5 : H.count = 5
  · rw [if_pos h5, if_pos (by omega)]
    refine ⟨by rw [List.length_tail]; show 4 = _; omega, fun i hi => ?_⟩
    rw [List.length_tail] at hi
    have := h.2 (i + 1) (by omega)
    rw [List.getElem_tail, ← this]
    show H.ring (((H.first + 1) % 5 + i) % 5) = H.ring ((H.first + (i + 1)) % 5)
    congr 1
    omega
  · rw [if_neg h5, if_neg (by omega)]
    exact h
theorem shed_ring (H : HeardC) : (shed H).ring = H.ring := by
  unfold Go.Proofs.Ytbjpifipjcfhkaa.shed
  split <;> rfl
theorem Win.add {H : HeardC} {ws : List SentC} (ok : HOk H) (h : Win H ws) (s : SentC) : Win (addH H s) ((if ws.length = 5 then ws.tail else ws) ++ [s]) := by
  have h1 := h.shed
  have h4 := (shed_ok ok).2
  generalize (if ws.length = 5 then ws.tail else ws) = us at h1
  have hc := h1.1
  refine ⟨by rw [List.length_append]; show (Go.Proofs.Ytbjpifipjcfhkaa.shed H).count + 1 = _; rw [hc]; rfl, fun i hi => ?_⟩
  rw [List.length_append] at hi
  simp only [List.length_cons, List.length_nil] at hi
  show upd H.ring (slot (Go.Proofs.Ytbjpifipjcfhkaa.shed H) (Go.Proofs.Ytbjpifipjcfhkaa.shed H).count) s (slot (Go.Proofs.Ytbjpifipjcfhkaa.shed H) i) = _
  by_cases hl : i < us.length
  · rw [List.getElem_append_left hl, ← h1.2 i hl]
    have hne : slot (Go.Proofs.Ytbjpifipjcfhkaa.shed H) i ≠ slot (Go.Proofs.Ytbjpifipjcfhkaa.shed H) (Go.Proofs.Ytbjpifipjcfhkaa.shed H).count := by
      unfold slot
      have := (shed_ok ok).1.f
      omega
    unfold upd
    rw [if_neg hne]
    unfold nth
    rw [shed_ring]
  · obtain rfl : i = us.length := by omega
    have hr : (us ++ [s])[us.length]'(by simp) = s := by simp
    refine Eq.trans ?_ hr.symm
    unfold upd
    rw [← hc]
    exact if_pos rfl
def last5 {α : Type} (l : List α) : List α := l.drop (l.length - 5)
theorem last5_len {α : Type} (l : List α) : (last5 l).length = l.length - (l.length - 5) := by unfold last5; rw [List.length_drop]
theorem last5_add {α : Type} (l : List α) (x : α) : last5 (l ++ [x]) = (if (last5 l).length = 5 then (last5 l).tail else last5 l) ++ [x] := by
  have hl := last5_len l
  by_cases h : 5 ≤ l.length
  · rw [if_pos (by omega)]
    unfold last5
    rw [List.length_append, List.tail_drop, List.drop_append_of_le_length (by simp only [List.length_cons, List.length_nil]; omega)]
    congr 2
    simp only [List.length_cons, List.length_nil]
    omega
  · rw [if_neg (by omega)]
    unfold last5
    rw [List.length_append, show l.length + [x].length - 5 = 0 by simp only [List.length_cons, List.length_nil]; omega, show l.length - 5 = 0 by omega]
    rfl
theorem last5_get {α : Type} (l : List α) (i : Nat) (h : i < (last5 l).length) : (last5 l)[i] = l[l.length - 5 + i]'(by have := last5_len l; omega) :=
  List.getElem_drop
theorem findW_none {H : HeardC} {ws : List SentC} {q p : Int} (h : Win H ws) (hn : ∀ s ∈ ws, ¬ s.seq = q) : ∀ k, k ≤ ws.length → findW H q p k = none
  | 0, _ => rfl
  | k + 1, hk => by
    unfold findW
    rw [h.2 k (by omega), if_neg (fun e => hn _ (List.getElem_mem _) e.1)]
    exact findW_none h hn k (by omega)
theorem findW_some {H : HeardC} {ws : List SentC} (h : Win H ws) (i : Nat) (hi : i < ws.length) (hn : ∀ j (hj : j < ws.length), ws[j].seq = ws[i].seq → j = i) : ∀ k, k ≤ ws.length → i < k → findW H ws[i].seq ws[i].span k = some ws[i]
  | 0, _, h0 => absurd h0 (Nat.not_lt_zero _)
  | k + 1, hk, hik => by
    unfold findW
    rw [h.2 k (by omega)]
    by_cases he : k = i
    · subst he
      rw [if_pos ⟨rfl, rfl⟩]
    · rw [if_neg (fun e => he (hn k (by omega) e.1))]
      exact findW_some h i hi hn k (by omega) (by omega)
structure Chain (epoch : Int) (bl : List BatchC) (seq base : Int) (k : Nat) : Prop where
  form : ∀ b ∈ bl, b = sentC epoch b.seq b.span b.base
  rng : ∀ b ∈ bl, 0 ≤ b.seq ∧ 1 ≤ b.span ∧ b.span ≤ 50 ∧ b.seq + b.span ≤ seq
  sorted : bl.Pairwise (fun x y => x.seq < y.seq)
  last : ∀ b, bl.getLast? = some b → b.seq + b.span = seq
  nil : bl = [] → seq = 0
  seqR : 0 ≤ seq ∧ seq ≤ 50 * k
  baseR : 0 ≤ base ∧ base ≤ 100 * k
  len : bl.length ≤ k
theorem Chain.init (epoch : Int) : Chain epoch [] 0 0 0 :=
  ⟨(fun _ h => by cases h), (fun _ h => by cases h), List.Pairwise.nil, (fun _ h => by cases h), (fun _ => rfl), by omega, by omega, Nat.le_refl _⟩
theorem Chain.skip {epoch : Int} {bl : List BatchC} {seq base : Int} {k : Nat} (h : Chain epoch bl seq base k) : Chain epoch bl seq base (k + 1) :=
  ⟨h.form, h.rng, h.sorted, h.last, h.nil, by have := h.seqR; omega, by have := h.baseR; omega, by have := h.len; omega⟩
theorem Chain.add {epoch : Int} {bl : List BatchC} {seq base sp : Int} {k : Nat} (h : Chain epoch bl seq base k) (h1 : 1 ≤ sp) (h2 : sp ≤ 50) (hk : k < 40) :
    Chain epoch (bl ++ [sentC epoch seq sp base]) (seq + sp) (base + sp + k) (k + 1) := by
  refine ⟨fun b hb => ?_, fun b hb => ?_, ?_, fun b hb => ?_, fun e => ?_, by have := h.seqR; omega, by have := h.baseR; omega, by have := h.len; simp; omega⟩
  · rcases List.mem_append.1 hb with hb | hb
    · exact h.form b hb
    · obtain rfl := List.mem_singleton.1 hb; rfl
  · rcases List.mem_append.1 hb with hb | hb
    · have := h.rng b hb; omega
    · obtain rfl := List.mem_singleton.1 hb
      have := h.seqR
      refine ⟨this.1, h1, h2, Int.le_refl _⟩
  · rw [List.pairwise_append]
    refine ⟨h.sorted, List.pairwise_singleton _ _, fun x hx y hy => ?_⟩
    obtain rfl := List.mem_singleton.1 hy
    have := h.rng x hx
    show x.seq < seq
    omega
  · rw [List.getLast?_append] at hb
    simp at hb
    subst hb
    rfl
  · simp at e
theorem Chain.at_lt {epoch : Int} {bl : List BatchC} {seq base : Int} {k : Nat} (h : Chain epoch bl seq base k) {i j : Nat} (hi : i < j) (hj : j < bl.length) : bl[i].seq < bl[j].seq :=
  List.pairwise_iff_getElem.1 h.sorted i j (by omega) hj hi
def HeardL (epoch : Int) (bl : List BatchC) (M : List (Int × HeardC)) : Prop :=
  (bl = [] ∧ oldH M 7 = noneH) ∨ (bl ≠ [] ∧ (oldH M 7).epoch = epoch ∧ HOk (oldH M 7) ∧ Win (oldH M 7) (last5 (bl.map sentB)))
theorem HeardL.init (epoch : Int) : HeardL epoch [] [] := .inl ⟨rfl, rfl⟩
theorem may_sent {epoch q p b : Int} (h1 : 0 ≤ epoch) (h2 : epoch ≤ 32768) (h3 : 0 ≤ q) (h4 : q ≤ 1073741824) (h5 : 1 ≤ p) (h6 : p ≤ 50) (h7 : 0 ≤ b) (h8 : b ≤ 1099511627776) : mayB (sentC epoch q p b) = true := by
  unfold mayB sentC
  simp only [win_true h1 h2, win_true h3 h4, win_true h5 h6, win_true h7 h8]
  rfl
theorem chk_sent (M : List (Int × HeardC)) {epoch q p : Int} (b : Int) (h1 : 0 ≤ epoch) (h2 : epoch ≤ 32768) (h3 : 0 ≤ q) (h4 : q ≤ 1073741824) (h5 : 1 ≤ p) (h6 : p ≤ 50) : checkR M (sentC epoch q p b) = checkH (oldH M 7) (sentC epoch q p b) := by
  unfold checkR
  rw [if_neg (by show ¬ (7 : Int) = -1; omega), if_pos (show mayB (bareB (sentC epoch q p b)) = true from may_sent (b := 0) h1 h2 h3 h4 h5 h6 (by omega) (by omega))]
  rfl
theorem sentB_seq (b : BatchC) : (sentB b).seq = b.seq ∧ (sentB b).span = b.span ∧ (sentB b).base = b.base := ⟨rfl, rfl, rfl⟩
theorem mem_last5 {bl : List BatchC} {s : SentC} (h : s ∈ last5 (bl.map sentB)) : ∃ b ∈ bl, s = sentB b := by
  have := List.mem_of_mem_drop h
  obtain ⟨b, hb, rfl⟩ := List.mem_map.1 this
  exact ⟨b, hb, rfl⟩
section
variable {epoch seq base : Int} {bl : List BatchC} {k : Nat} {M : List (Int × HeardC)}
theorem HeardL.note (h : HeardL epoch bl M) {q p b : Int} (h1 : 0 ≤ epoch) (hm : mayB (sentC epoch q p b) = true) : HeardL epoch (bl ++ [sentC epoch q p b]) (noteM M (sentC epoch q p b)) := by
  refine .inr ⟨by simp, ?_⟩
  rw [List.map_append, List.map_cons, List.map_nil, last5_add]
  rcases h with ⟨rfl, ho⟩ | ⟨hn, he, ok, hw⟩
  · have hm2 : oldH (noteM M (sentC epoch q p b)) 7 = addH (newHd epoch) (sentB (sentC epoch q p b)) := by
      unfold noteM
      rw [if_pos hm, if_neg (by show ¬ epoch < (oldH M 7).epoch; rw [ho]; show ¬ epoch < -1; omega), if_pos (by show (oldH M 7).epoch < epoch; rw [ho]; show -1 < epoch; omega)]
      show oldH (aput M 7 _) 7 = _
      rw [oldH_aput, if_pos rfl]
      rfl
    rw [hm2]
    exact ⟨rfl, addH_ok (newHd_ok _) _, (Win.new epoch).add (newHd_ok _) _⟩
  · have hm2 : oldH (noteM M (sentC epoch q p b)) 7 = addH (oldH M 7) (sentB (sentC epoch q p b)) := by
      unfold noteM
      rw [if_pos hm, if_neg (by show ¬ epoch < (oldH M 7).epoch; omega), if_neg (by show ¬ (oldH M 7).epoch < epoch; omega)]
      show oldH (aput M 7 _) 7 = _
      rw [oldH_aput, if_pos rfl]
      rfl
    rw [hm2]
    exact ⟨he, addH_ok ok _, hw.add ok _⟩
/-- What comes next. -/
theorem next_chain (c : Chain epoch bl seq base k) (hk : k ≤ 40) (hn : bl ≠ []) (hw : Win (oldH M 7) (last5 (bl.map sentB))) : nextW (oldH M 7) = seq := by
  have hl := last5_len (bl.map sentB)
  rw [List.length_map] at hl
  have h0 : bl.length ≠ 0 := fun e => hn (List.length_eq_zero_iff.1 e)
  unfold nextW
  have hc := hw.1
  rw [if_neg (by omega)]
  have hx := hw.2 ((oldH M 7).count - 1) (by omega)
  have hlast : (last5 (bl.map sentB))[(oldH M 7).count - 1]'(by omega) = sentB (bl[bl.length - 1]'(by omega)) := by
    rw [last5_get, List.getElem_map]
    congr 2
    rw [List.length_map]
    omega
  rw [hx, hlast]
  have h1 := c.last (bl[bl.length - 1]'(by omega)) (by rw [List.getLast?_eq_getElem?, List.getElem?_eq_getElem (by omega)])
  show wrap64 ((bl[bl.length - 1]'(by omega)).seq + (bl[bl.length - 1]'(by omega)).span) = seq
  rw [h1]
  have h2 := c.seqR
  unfold wrap64
  omega
theorem chk_new (h : HeardL epoch bl M) (c : Chain epoch bl seq base k) (hk : k ≤ 40) (h1 : 0 ≤ epoch) (h2 : epoch ≤ 32768) {p : Int} (h5 : 1 ≤ p) (h6 : p ≤ 50) : checkR M (sentC epoch seq p base) = (0, false, 0) := by
  have h3 := c.seqR
  rw [chk_sent M base h1 h2 h3.1 (by omega) h5 h6]
  unfold checkH
  rcases h with ⟨rfl, ho⟩ | ⟨hn, he, ok, hw⟩
  · rw [ho, if_neg (by show ¬ epoch < -1; omega), if_neg (by show ¬ epoch = -1; omega), c.nil rfl]
    rfl
  · rw [if_neg (by show ¬ epoch < (oldH M 7).epoch; omega), if_pos (by show epoch = (oldH M 7).epoch; omega), hw.1]
    rw [findW_none hw (fun s hs => ?_) _ (Nat.le_refl _)]
    · show tailR seq (nextW (oldH M 7)) = _
      rw [next_chain c hk hn hw]
      unfold tailR
      rw [if_pos rfl]
    · obtain ⟨b, hb, rfl⟩ := mem_last5 hs
      have := c.rng b hb
      show ¬ b.seq = seq
      omega
theorem chk_gap (h : HeardL epoch bl M) (c : Chain epoch bl seq base k) (hk : k ≤ 40) (h1 : 0 ≤ epoch) (h2 : epoch ≤ 32768) {p : Int} (h5 : 1 ≤ p) (h6 : p ≤ 50) : checkR M (sentC epoch (seq + 51) p base) = (0, false, 9) := by
  have h3 := c.seqR
  rw [chk_sent M base h1 h2 (by omega) (by omega) h5 h6]
  unfold checkH
  rcases h with ⟨rfl, ho⟩ | ⟨hn, he, ok, hw⟩
  · rw [ho, if_neg (by show ¬ epoch < -1; omega), if_neg (by show ¬ epoch = -1; omega), c.nil rfl]
    rfl
  · rw [if_neg (by show ¬ epoch < (oldH M 7).epoch; omega), if_pos (by show epoch = (oldH M 7).epoch; omega), hw.1]
    rw [findW_none hw (fun s hs => ?_) _ (Nat.le_refl _)]
    · show tailR (seq + 51) (nextW (oldH M 7)) = _
      rw [next_chain c hk hn hw]
      unfold tailR
      rw [if_neg (by omega)]
    · obtain ⟨b, hb, rfl⟩ := mem_last5 hs
      have := c.rng b hb
      show ¬ b.seq = seq + 51
      omega
theorem chk_out (h : HeardL epoch bl M) (c : Chain epoch bl seq base k) (hk : k ≤ 40) (h1 : 0 ≤ epoch) (h2 : epoch ≤ 32768) {i : Nat} (hi : i + 5 < bl.length) : checkR M (bl[i]'(by omega)) = (0, false, 9) := by
  have hil : i < bl.length := by omega
  have h3 := c.seqR
  have hr := c.rng _ (List.getElem_mem hil)
  have hf := c.form _ (List.getElem_mem hil)
  have hrest : ∀ s ∈ last5 (bl.map sentB), ¬ s.seq = bl[i].seq := fun s hs => by
    obtain ⟨j, hj, rfl⟩ := List.mem_iff_getElem.1 hs
    have hl := last5_len (bl.map sentB)
    rw [List.length_map] at hl
    have hj2 := hj
    rw [hl] at hj2
    rw [last5_get, List.getElem_map]
    have := c.at_lt (i := i) (j := (bl.map sentB).length - 5 + j) (by rw [List.length_map]; omega) (by rw [List.length_map]; omega)
    show ¬ (bl[(bl.map sentB).length - 5 + j]'(by rw [List.length_map]; omega)).seq = _
    omega
  generalize bl[i] = b at hr hf hrest
  rw [hf, chk_sent M b.base h1 h2 hr.1 (by omega) hr.2.1 hr.2.2.1]
  unfold checkH
  rcases h with ⟨rfl, ho⟩ | ⟨hn, he, ok, hw⟩
  · simp at hi
  · rw [if_neg (by show ¬ epoch < (oldH M 7).epoch; omega), if_pos (by show epoch = (oldH M 7).epoch; omega), hw.1]
    have hfn := findW_none (q := b.seq) (p := b.span) hw hrest _ (Nat.le_refl _)
    show (match findW (oldH M 7) b.seq b.span (last5 (bl.map sentB)).length with | some s => (s.base, true, 0) | none => tailR b.seq (nextW (oldH M 7))) = _
    rw [hfn]
    show tailR b.seq (nextW (oldH M 7)) = _
    rw [next_chain c hk hn hw]
    unfold tailR
    rw [if_neg (by omega)]
theorem chk_again (h : HeardL epoch bl M) (c : Chain epoch bl seq base k) (hk : k ≤ 40) (h1 : 0 ≤ epoch) (h2 : epoch ≤ 32768) {i : Nat} (hi : i < bl.length) (h5 : bl.length ≤ i + 5) : checkR M bl[i] = (bl[i].base, true, 0) := by
  have h3 := c.seqR
  have hr := c.rng _ (List.getElem_mem hi)
  have hf := c.form _ (List.getElem_mem hi)
  have hl := last5_len (bl.map sentB)
  rw [List.length_map] at hl
  have hat : ∀ j (hj : j < (last5 (bl.map sentB)).length), (last5 (bl.map sentB))[j] = sentB (bl[bl.length - 5 + j]'(by omega)) := fun j hj => by
    rw [last5_get, List.getElem_map]
    congr 2
    rw [List.length_map]
  have hpos : i - (bl.length - 5) < (last5 (bl.map sentB)).length := by omega
  have hii : bl.length - 5 + (i - (bl.length - 5)) = i := by omega
  have hit : (last5 (bl.map sentB))[i - (bl.length - 5)] = sentB bl[i] := by
    rw [hat]
    congr 2
  have hfind : Win (oldH M 7) (last5 (bl.map sentB)) → findW (oldH M 7) bl[i].seq bl[i].span (last5 (bl.map sentB)).length = some (sentB bl[i]) := fun hw => by
    have := findW_some hw (i - (bl.length - 5)) hpos (fun j hj e => ?_) _ (Nat.le_refl _) hpos
    · rw [hit] at this
      exact this
    · rw [hit, hat] at e
      have e : (bl[bl.length - 5 + j]'(by omega)).seq = bl[i].seq := e
      rcases Nat.lt_trichotomy (bl.length - 5 + j) i with hlt | heq | hgt
      · have := c.at_lt hlt hi; omega
      · omega
      · have := c.at_lt hgt (by omega); omega
  generalize bl[i] = b at hr hf hfind
  have hck : checkR M b = checkH (oldH M 7) b := by
    rw [hf]
    exact chk_sent M b.base h1 h2 hr.1 (by omega) hr.2.1 hr.2.2.1
  have hbe : b.epoch = epoch := by rw [hf]; rfl
  rw [hck]
  unfold checkH
  rcases h with ⟨rfl, ho⟩ | ⟨hn, he, ok, hw⟩
  · simp at hi
  · rw [if_neg (by omega), if_pos (by omega), hw.1, hfind hw]
    rfl
theorem chk_old (h : HeardL epoch bl M) (hn : bl ≠ []) (h1 : 1 ≤ epoch) (h2 : epoch ≤ 32768) {q p b : Int} (h3 : 0 ≤ q) (h4 : q ≤ 1073741824) (h5 : 1 ≤ p) (h6 : p ≤ 50) : checkR M (sentC (epoch - 1) q p b) = (0, false, 8) := by
  rw [chk_sent M b (by omega) (by omega) h3 h4 h5 h6]
  unfold checkH
  rcases h with ⟨rfl, ho⟩ | ⟨_, he, _, _⟩
  · exact absurd rfl hn
  · rw [if_pos (by show epoch - 1 < (oldH M 7).epoch; omega)]
end
end Go.Proofs.Ytbjpifipjcfhkaa
