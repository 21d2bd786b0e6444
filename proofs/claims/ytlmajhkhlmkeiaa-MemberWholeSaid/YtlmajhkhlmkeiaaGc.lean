/-
  A slice's copy (slices.Clone) of texts, of partitions, of members.
-/
import Derived.Test.YtlmajhkhlmkeiaaGb
namespace Go.Proofs.Ytlmajhkhlmkeiaa
open Go.RowKit Fx

theorem add_at (b off j : Nat) : (⟨b, off, none⟩ : Addr).add j = ⟨b, off + j, none⟩ := by unfold Addr.add; split <;> simp_all
/-- The cells of a list. -/
def CellsR {α : Type} (n : Nat) (R : Rdr α) (w : World) (l : List α) (news : List Value) : Prop :=
  news.length = l.length * n ∧ ∀ i (h : i < l.length), ∃ cs : List Value, cs.length = n ∧ (∀ j, j < n → news[i * n + j]? = cs[j]?) ∧ R w cs l[i]
/-- What reads has plain cells. -/
def Plain {α : Type} (R : Rdr α) : Prop := ∀ (w : World) (cs : List Value) (x : α), R w cs x → ∀ u ∈ cs, u.oneCell' = true
theorem plain_str : Plain rStr := by
  rintro w cs s ⟨rfl, _⟩ u hu
  simp at hu; subst hu; rfl
theorem plain_part : Plain rPart := by
  rintro w cs p rfl u hu
  simp at hu
  rcases hu with rfl | rfl <;> rfl
theorem cells_ofR {α : Type} {n : Nat} (hn : 0 < n) {R : Rdr α} (hone : Plain R) {w : World} {b off : Nat} {l : List α} (h : RowAt n R w b off l) :
    ∃ news, CellsR n R w l news ∧ (∀ j u, news[j]? = some u → w.cell? ((⟨b, off, none⟩ : Addr).add j) = some u) ∧ ∀ u ∈ news, u.oneCell' = true := by
  have hc : ∀ j, j < l.length * n → ∃ u, w.cell? ⟨b, off + j, none⟩ = some u ∧ u.oneCell' = true := by
    intro j hj
    have hd : j / n < l.length := by rw [Nat.div_lt_iff_lt_mul hn]; exact hj
    have hm : j % n < n := Nat.mod_lt _ hn
    obtain ⟨cs, h1, h2, h3⟩ := h (j / n) hd
    have h4 := h2 (j % n) hm
    have h5 := Nat.div_add_mod j n
    rw [Nat.mul_comm] at h5
    rw [show off + j / n * n + j % n = off + j by omega, List.getElem?_eq_getElem (by omega)] at h4
    exact ⟨_, h4, hone _ _ _ h3 _ (List.getElem_mem _)⟩
  have hg : ∀ j, j < l.length * n → ((List.range (l.length * n)).map fun j => (w.cell? ⟨b, off + j, none⟩).getD .nilIface)[j]? = w.cell? ⟨b, off + j, none⟩ := by
    intro j hj
    obtain ⟨u, hu, _⟩ := hc j hj
    rw [List.getElem?_map, List.getElem?_range hj]
    simp [hu]
  refine ⟨(List.range (l.length * n)).map fun j => (w.cell? ⟨b, off + j, none⟩).getD .nilIface, ⟨by simp, fun i hi => ?_⟩, fun j u hu => ?_, fun u hu => ?_⟩
  · obtain ⟨cs, h1, h2, h3⟩ := h i hi
    refine ⟨cs, h1, fun j hj => ?_, h3⟩
    have : (i + 1) * n ≤ l.length * n := Nat.mul_le_mul_right _ hi
    rw [Nat.add_mul] at this
    rw [hg _ (by omega), ← h2 j hj, Nat.add_assoc]
  · have hj : j < l.length * n := by
      have := (List.getElem?_eq_some_iff.1 hu).1
      simpa using this
    rw [hg j hj] at hu
    rw [add_at]
    exact hu
  · obtain ⟨j, hj, rfl⟩ := List.mem_iff_getElem.1 hu
    have hj' : j < l.length * n := by simpa using hj
    obtain ⟨u, hu, h1⟩ := hc j hj'
    have h5 := hg j hj'
    rw [List.getElem?_eq_getElem hj, hu] at h5
    rw [Option.some.inj h5]
    exact h1
theorem own_cells {α : Type} {n : Nat} {R : Rdr α} (hR : Still R) {w w' : World} {base : Nat} {e : TypeId} {v : Value} {l : List α} {news : List Value} (h : w'.ownsRow base e n v l.length news) (hc : CellsR n R w l news) :
    Out n R w' (fun k => base ≤ k) v l := by
  rcases h.2 with ⟨rfl, h0⟩ | ⟨g, cap, cur, rfl, hb, hg, hcp, hm, hs, ht⟩
  · have : l = [] := List.eq_nil_of_length_eq_zero h0
    subst this
    exact Out.nil _ _ _ _
  · refine ⟨_, cap, rfl, ⟨hcp, hm, fun _ => ⟨g, 0, rfl, fun i hi => ?_⟩⟩, fun x e _ => by cases e; exact ⟨block_lt hg, hb⟩⟩
    obtain ⟨cs, e1, e2, e3⟩ := hc.2 i hi
    refine ⟨cs, e1, fun j hj => ?_, hR _ _ _ _ e3⟩
    have : (i + 1) * n ≤ l.length * n := Nat.mul_le_mul_right _ hi
    rw [Nat.add_mul] at this
    rw [Nat.zero_add, h.cellAt (i * n + j) (by omega), e2 j hj]
/-- An append of a row that lies somewhere, onto a row that the call owns. -/
theorem wpList_appN {P : Program} {w : World} {ops : Array Oper} {rest : List Oper} {o : Oper} {a : Act} {Q : Exit → Act → World → Prop} (hgd : o.guard = none) {s x : Operand} {t : TypeId}
    (ho : o.op = .call { callee := .builtin .append, args := #[s, x], argTypes := #[t, t] })
    {base : Nat} {e : TypeId} {z : Value} {size bytes : Nat} (ht : P.underlying t = some (.slice e)) (hinfo : (P.info? e).map (fun i => (i.zero, i.size, i.bytes)) = some (some z, size, bytes)) (hzs : z.cells.size = size) (hsz : 0 < size)
    {v : Value} {n : Nat} {xs : List Value} (hs : a.eval s = v) (hown : w.ownsRow base e size v n xs) {ad : Addr} {m c : Nat} {news : List Value} (hx : a.eval x = .slice (some ad) m c) (hl : news.length = m * size)
    (hnews : ∀ j u, news[j]? = some u → w.cell? (ad.add j) = some u) (h1 : ∀ u ∈ news, u.oneCell' = true) (hn : n + m ≤ 1000000 ∧ bytes ≤ 1000000) (hbase : base ≤ w.heap.size)
    (h : ∀ v' w', w'.ownsRow base e size v' (n + m) (xs ++ news) → w.grownBy w' v.ownBlock → wpList P ops Q rest (a.put o.dst v') w') : wpList P ops Q (o :: rest) a w := by
  obtain ⟨i, hi, hz, hz1, hz2⟩ := info_parts hinfo
  refine wpList_append_own w hgd s x t ho base e i z size bytes ht hi hz hz1 hz2 hzs hsz v n xs hs hown ad m c news hx hl hnews h1 (by unfold maxLen; omega) ?_ hbase fun v' w' h2 h3 _ => h v' w' h2 h3
  have : (n + m) * bytes ≤ 1000000 * 1000000 := Nat.mul_le_mul hn.1 hn.2
  omega
theorem infoStr : (Try.prog.info? 9).map (fun i => (i.zero, i.size, i.bytes)) = some (some (.string ⟨#[]⟩), 1, 16) := by kernel_rfl
theorem infoOne : (Try.prog.info? 43).map (fun i => (i.zero, i.size, i.bytes)) = some (some (.agg #[.int .i64 0, .slice none 0 0, .int .i64 0, .bool false, .slice none 0 0]), 5, 72) := by kernel_rfl
/-- What a copy leaves. -/
def ClonePost {α : Type} (n : Nat) (R : Rdr α) (w : World) (l : List α) (e : Ending) (w' : World) : Prop := ∃ v, e = .returned v ∧ Out n R w' (fun k => w.heap.size ≤ k) v l ∧ K0 w w'
theorem grown_kept {w w1 w2 : World} {g : Nat} (hk : K0 w w1) (hg : w1.grownBy w2 (some g)) (hl : w.heap.size ≤ g) : K0 w w2 := hk.grown hg (fun k e hk' => by cases e; omega)
set_option maxRecDepth 100000 in
set_option maxHeartbeats 1000000 in
theorem clone_str (w : World) (G : Nat → Prop) (v : Value) (l : List ByteArray) (h : Out 1 rStr w G v l) (hl : l.length ≤ 1000) :
    Calls Try.prog 24 #[v] w (ClonePost 1 rStr w l) := by
  obtain ⟨a, cap, rfl, hs, _⟩ := h
  have HS := Lib.hid hs
  clear hs
  cases a with
  | none =>
    have hne : l = [] := by
      have h5 := HS.out.2.2
      exact Classical.byContradiction fun h => by obtain ⟨_, _, e, _⟩ := h5 h; cases e
    subst hne
    have q1 : ∀ w : World, (binOp .eql 22 (.slice none 0 cap) (.slice none 0 0)).run Try.prog w = .ok (.bool true) w := fun w => Lib.run_eql_slice_nil w 22 9 none 0 cap 0 0 Try.underlying22
    go_enter Try.func24, Try.ntmps24
    go_wp2
    go_ret
    exact ⟨_, rfl, Out.nil _ _ _ _, Keeps.refl _ _⟩
  | some ad =>
    have hnews : ∃ news, CellsR 1 rStr w l news ∧ (∀ j u, news[j]? = some u → w.cell? (ad.add j) = some u) ∧ ∀ u ∈ news, u.oneCell' = true := by
      by_cases h0 : l = []
      · subst h0
        exact ⟨[], ⟨rfl, fun i hi => absurd hi (Nat.not_lt_zero _)⟩, fun j u hu => by simp at hu, fun u hu => by simp at hu⟩
      · obtain ⟨b, off, e, hr⟩ := HS.out.2.2 h0
        cases e
        exact cells_ofR (by omega) plain_str hr
    obtain ⟨news, hn1, hn2, hn3⟩ := hnews
    have HN := Lib.hid hn1
    have hn4 := hn1.1
    have hn5 : ∀ j u, news[j]? = some u → (w.alloc (.cells #[] 9)).cell? (ad.add j) = some u := fun j u hu => ((Keeps.refl (fun _ => False) w).alloc _).cell' (hn2 j u hu) (fun e => e)
    have hown : (w.alloc (.cells #[] 9)).ownsRow w.heap.size 9 1 (.slice (some ⟨w.heap.size, 0, none⟩) 0 0) 0 [] := World.ownsRow_made w #[] 0 (Nat.le_refl _) (by unfold maxLen; omega) rfl
    have q1 : ∀ w : World, (binOp .eql 22 (.slice (some ad) l.length cap) (.slice none 0 0)).run Try.prog w = .ok (.bool false) w := fun w => Lib.run_eql_slice_nil w 22 9 (some ad) l.length cap 0 0 Try.underlying22
    clear hn1
    go_enter Try.func24, Try.ntmps24
    go_wp2_with (at_builtin; refine wpList_appN rfl rfl Try.underlying22 infoStr rfl (by decide) rfl hown rfl hn4 hn5 hn3 ⟨by omega, by decide⟩ (by simp) ?_; intro v1 w3 hv1 hv2)
    go_ret
    simp only [Nat.zero_add, List.nil_append] at hv1
    exact ⟨_, rfl, own_cells still_str hv1 HN.out, grown_kept ((Keeps.refl _ _).alloc _) hv2 (Nat.le_refl _)⟩
set_option maxRecDepth 100000 in
set_option maxHeartbeats 1000000 in
theorem clone_part (w : World) (G : Nat → Prop) (v : Value) (l : List PartC) (h : Out 2 rPart w G v l) (hl : l.length ≤ 100000) :
    Calls Try.prog 28 #[v] w (ClonePost 2 rPart w l) := by
  obtain ⟨a, cap, rfl, hs, _⟩ := h
  have HS := Lib.hid hs
  clear hs
  cases a with
  | none =>
    have hne : l = [] := by
      have h5 := HS.out.2.2
      exact Classical.byContradiction fun h => by obtain ⟨_, _, e, _⟩ := h5 h; cases e
    subst hne
    have q1 : ∀ w : World, (binOp .eql 37 (.slice none 0 cap) (.slice none 0 0)).run Try.prog w = .ok (.bool true) w := fun w => Lib.run_eql_slice_nil w 37 61 none 0 cap 0 0 Try.underlying37
    go_enter Try.func28, Try.ntmps28
    go_wp2
    go_ret
    exact ⟨_, rfl, Out.nil _ _ _ _, Keeps.refl _ _⟩
  | some ad =>
    have hnews : ∃ news, CellsR 2 rPart w l news ∧ (∀ j u, news[j]? = some u → w.cell? (ad.add j) = some u) ∧ ∀ u ∈ news, u.oneCell' = true := by
      by_cases h0 : l = []
      · subst h0
        exact ⟨[], ⟨rfl, fun i hi => absurd hi (Nat.not_lt_zero _)⟩, fun j u hu => by simp at hu, fun u hu => by simp at hu⟩
      · obtain ⟨b, off, e, hr⟩ := HS.out.2.2 h0
        cases e
        exact cells_ofR (by omega) plain_part hr
    obtain ⟨news, hn1, hn2, hn3⟩ := hnews
    have HN := Lib.hid hn1
    have hn4 := hn1.1
    have hn5 : ∀ j u, news[j]? = some u → (w.alloc (.cells #[] 61)).cell? (ad.add j) = some u := fun j u hu => ((Keeps.refl (fun _ => False) w).alloc _).cell' (hn2 j u hu) (fun e => e)
    have hown : (w.alloc (.cells #[] 61)).ownsRow w.heap.size 61 2 (.slice (some ⟨w.heap.size, 0, none⟩) 0 0) 0 [] := World.ownsRow_made w #[] 0 (Nat.le_refl _) (by unfold maxLen; omega) rfl
    have q1 : ∀ w : World, (binOp .eql 37 (.slice (some ad) l.length cap) (.slice none 0 0)).run Try.prog w = .ok (.bool false) w := fun w => Lib.run_eql_slice_nil w 37 61 (some ad) l.length cap 0 0 Try.underlying37
    clear hn1
    go_enter Try.func28, Try.ntmps28
    go_wp2_with (at_builtin; refine wpList_appN rfl rfl Try.underlying37 info41 rfl (by decide) rfl hown rfl hn4 hn5 hn3 ⟨by omega, by decide⟩ (by simp) ?_; intro v1 w3 hv1 hv2)
    go_ret
    simp only [Nat.zero_add, List.nil_append] at hv1
    exact ⟨_, rfl, own_cells still_part hv1 HN.out, grown_kept ((Keeps.refl _ _).alloc _) hv2 (Nat.le_refl _)⟩
/-- The members' row, copied: a row of its own with the same values. -/
def CloneOnes (w : World) (L : List OneV) (e : Ending) (w' : World) : Prop := ∃ v, e = .returned v ∧ w'.ownsRow w.heap.size 43 5 v L.length (L.flatMap oneEnc) ∧ K0 w w'
set_option maxRecDepth 100000 in
set_option maxHeartbeats 1000000 in
theorem clone_ones (w : World) (v : Value) (L : List OneV) (h : w.ownsRow 0 43 5 v L.length (L.flatMap oneEnc)) (hp : ∀ x ∈ L, x.tv.oneCell' = true ∧ x.pv.oneCell' = true) (hl : L.length ≤ 1000) :
    Calls Try.prog 27 #[v] w (CloneOnes w L) := by
  have HH := Lib.hid h
  rcases h.2 with ⟨rfl, h0⟩ | ⟨g, cap, cur, rfl, hb, hg, hcp, hm, hs, ht⟩
  · have : L = [] := List.eq_nil_of_length_eq_zero h0
    subst this
    clear h
    have q1 : ∀ w : World, (binOp .eql 33 (.slice none 0 0) (.slice none 0 0)).run Try.prog w = .ok (.bool true) w := fun w => Lib.run_eql_slice_nil w 33 43 none 0 0 0 0 Try.underlying33
    go_enter Try.func27, Try.ntmps27
    go_wp2
    go_ret
    exact ⟨_, rfl, World.ownsRow_nil _ _ _ _, Keeps.refl _ _⟩
  · have hn4 : (L.flatMap oneEnc).length = L.length * 5 := flat_len _ 5 oneEnc_len L
    have hn5 : ∀ j u, (L.flatMap oneEnc)[j]? = some u → (w.alloc (.cells #[] 43)).cell? ((⟨g, 0, none⟩ : Addr).add j) = some u := fun j u hu => ((Keeps.refl (fun _ => False) w).alloc _).cell' (by
      have hj := (List.getElem?_eq_some_iff.1 hu).1
      rw [add_at, Nat.zero_add, h.cellAt j (by rw [← hn4]; exact hj)]
      exact hu) (fun e => e)
    have hn3 : ∀ u ∈ L.flatMap oneEnc, u.oneCell' = true := by
      intro u hu
      obtain ⟨x, hx, hu⟩ := List.mem_flatMap.1 hu
      have h7 := hp x hx
      simp only [oneEnc, List.mem_cons, List.not_mem_nil, or_false] at hu
      rcases hu with rfl | rfl | rfl | rfl | rfl
      · rfl
      · exact h7.1
      · rfl
      · rfl
      · exact h7.2
    have hown : (w.alloc (.cells #[] 43)).ownsRow w.heap.size 43 5 (.slice (some ⟨w.heap.size, 0, none⟩) 0 0) 0 [] := World.ownsRow_made w #[] 0 (Nat.le_refl _) (by unfold maxLen; omega) rfl
    clear h hg ht hs hm hcp hb hp
    generalize hxs : L.flatMap oneEnc = xs at *
    generalize hnn : L.length = n at *
    have HX := Lib.hid hxs
    have HN := Lib.hid hnn
    clear hxs hnn
    have q1 : ∀ w : World, (binOp .eql 33 (.slice (some ⟨g, 0, none⟩) n cap) (.slice none 0 0)).run Try.prog w = .ok (.bool false) w := fun w => Lib.run_eql_slice_nil w 33 43 (some ⟨g, 0, none⟩) n cap 0 0 Try.underlying33
    go_enter Try.func27, Try.ntmps27
    go_wp2_with (at_builtin; refine wpList_appN rfl rfl Try.underlying33 infoOne rfl (by decide) rfl hown rfl hn4 hn5 hn3 ⟨by omega, by decide⟩ (by simp) ?_; intro v1 w3 hv1 hv2)
    go_ret
    simp only [Nat.zero_add, List.nil_append] at hv1
    rw [← HX.out, ← HN.out] at hv1
    exact ⟨_, rfl, hv1, grown_kept ((Keeps.refl _ _).alloc _) hv2 (Nat.le_refl _)⟩
end Go.Proofs.Ytlmajhkhlmkeiaa
