/-
  The document's disk: a file cut out of its row.
-/
import Derived.Test.YtjfblcmpdcbpgaaEc
import Derived.Outline
namespace Go.Proofs.Ytjfblcmpdcbpgaa
open Go.RowKit Fx

theorem add_at (b off j : Nat) : (⟨b, off, none⟩ : Addr).add j = ⟨b, off + j, none⟩ := by unfold Addr.add; split <;> simp_all
/-- An append of a row that lies somewhere, onto a row that the call owns. -/
theorem wpList_appN {P : Program} {w : World} {ops : Array Oper} {rest : List Oper} {o : Oper} {a : Act} {Q : Exit → Act → World → Prop} (hgd : o.guard = none) {s x : Operand} {t : TypeId}
    (ho : o.op = .call { callee := .builtin .append, args := #[s, x], argTypes := #[t, t] })
    {base : Nat} {e : TypeId} {z : Value} {size bytes : Nat} (ht : P.underlying t = some (.slice e)) (hinfo : (P.info? e).map (fun i => (i.zero, i.size, i.bytes)) = some (some z, size, bytes)) (hzs : z.cells.size = size) (hsz : 0 < size)
    {v : Value} {n : Nat} {xs : List Value} (hs : a.eval s = v) (hown : w.ownsRow base e size v n xs) {ad : Addr} {m c : Nat} {news : List Value} (hx : a.eval x = .slice (some ad) m c) (hl : news.length = m * size)
    (hnews : ∀ j u, news[j]? = some u → w.cell? (ad.add j) = some u) (h1 : ∀ u ∈ news, u.oneCell' = true) (hn : n + m ≤ 1000000 ∧ bytes ≤ 1000000) (hbase : base ≤ w.heap.size)
    (h : ∀ v' w', w'.ownsRow base e size v' (n + m) (xs ++ news) → w.grownBy w' v.ownBlock → wpList P ops Q rest (a.put o.dst v') w') : wpList P ops Q (o :: rest) a w := by
  obtain ⟨i, hi, hz, hz1, hz2⟩ := info_parts hinfo
  refine wpList_append_own w hgd s x t ho base e i z size bytes ht hi hz hz1 hz2 hzs hsz v n xs hs hown ad m c news hx hl hnews h1 (by unfold maxLen; omega) ?_ hbase fun v' w' h2 h3 _ => h v' w' h2 h3
  have : (n + m) * bytes ≤ 1000000 * 1000000 := Nat.mul_le_mul hn.1 hn.2
  omega
theorem own_slice {w : World} {base : Nat} {e : TypeId} {size : Nat} {v : Value} {n : Nat} {xs : List Value} (h : w.ownsRow base e size v n xs) : ∃ a c, v = .slice a n c := by
  rcases h.2 with ⟨rfl, rfl⟩ | ⟨g, cap, cur, rfl, _⟩
  · exact ⟨_, _, rfl⟩
  · exact ⟨_, _, rfl⟩
theorem flatN_drop {α : Type} (enc : α → List Value) (n : Nat) (hn : ∀ x, (enc x).length = n) (L : List α) (i : Nat) : (L.drop i).flatMap enc = (L.flatMap enc).drop (i * n) := by
  induction L generalizing i with
  | nil => simp
  | cons x L ih =>
    cases i with
    | zero => simp
    | succ i =>
      rw [List.drop_succ_cons, ih, List.flatMap_cons, List.drop_append, hn]
      have e1 : (enc x).drop ((i + 1) * n) = [] := List.drop_eq_nil_of_le (by rw [hn, Nat.add_mul]; omega)
      rw [e1, List.nil_append]
      congr 1
      rw [Nat.add_mul]; omega
theorem flatN_take {α : Type} (enc : α → List Value) (n : Nat) (hn : ∀ x, (enc x).length = n) (L : List α) (i : Nat) : (L.take i).flatMap enc = (L.flatMap enc).take (i * n) := by
  induction L generalizing i with
  | nil => simp
  | cons x L ih =>
    cases i with
    | zero => simp
    | succ i =>
      rw [List.take_succ_cons, List.flatMap_cons, ih, List.flatMap_cons, List.take_append, hn]
      have e1 : (enc x).take ((i + 1) * n) = enc x := List.take_of_length_le (by rw [hn, Nat.add_mul]; omega)
      rw [e1]
      congr 2
      rw [Nat.add_mul]; omega
theorem flat_len {α : Type} (enc : α → List Value) (n : Nat) (hn : ∀ x, (enc x).length = n) (L : List α) : (L.flatMap enc).length = L.length * n := by
  induction L with
  | nil => simp
  | cons x L ih => rw [List.flatMap_cons, List.length_append, hn, ih, List.length_cons, Nat.add_mul]; omega
theorem own_base {w : World} {base base' : Nat} {e : TypeId} {size : Nat} {v : Value} {n : Nat} {xs : List Value} (h : w.ownsRow base e size v n xs) (hb : base' ≤ base) : w.ownsRow base' e size v n xs := by
  refine ⟨h.1, h.2.elim .inl fun ⟨g, cap, cur, h1, h2, h3⟩ => .inr ⟨g, cap, cur, h1, Nat.le_trans hb h2, h3⟩⟩
theorem fenc_one (p : ByteArray × FileC) : ∀ u ∈ fenc p, u.oneCell' = true := fun u hu => by
  simp only [fenc, List.mem_cons, List.not_mem_nil, or_false] at hu
  rcases hu with rfl | rfl | rfl <;> rfl
theorem infoFile : (Try.prog.info? 76).map (fun i => (i.zero, i.size, i.bytes)) = some (some (.agg #[.string ⟨#[]⟩, .string ⟨#[]⟩, .int .i64 0]), 3, 40) := by kernel_rfl
/-- A new row, stored. -/
theorem RAt.newrow {w wr : World} {F : Nat → Prop} {b : Nat} {R : DiskC} {v nv : Value} {l : List (ByteArray × FileC)} (h : RAt w F b R v) (hk0 : K0 w wr) (hrow : wr.ownsRow w.heap.size 76 3 nv l.length (l.flatMap fenc)) (u : Int) :
    RPost w F b ⟨R.room, u, R.fuse, l⟩ (wr.setCell ⟨b, 1, none⟩ nv) := by
  have hb := block_lt h.blk
  have hk : Keeps (fun k => k = b) w (wr.setCell ⟨b, 1, none⟩ nv) := (hk0.mono (S1 := fun k => k = b) (fun _ _ e => e.elim)).setC 1 _ (fun _ => rfl)
  refine h.step hk (fun k e => .inl e) ?_ ?_ (fun k e => .inr (hrow.lt k e).1)
  · exact setCell_block ((hk0.block b hb (fun e => e)).trans h.blk) 1 _
  · exact own_base (row_keep ((Keeps.refl (fun k => k = b) wr).setC 1 _ (fun _ => rfl)) hrow (fun k e e2 => by have := (hrow.lt k e).1; omega)) (Nat.zero_le _)
def cutAt (R : DiskC) (i : Nat) (u : Int) : DiskC := ⟨R.room, u, R.fuse, R.files.eraseIdx i⟩
theorem RAt.dropped {w w2 : World} {F : Nat → Prop} {b : Nat} {R : DiskC} {v : Value} {i n vc : Nat} {va : Option Addr} (u : Int) (h : RAt w F b R v) (hi : i < R.files.length) (hk : K0 w w2) (hn : n = R.files.length - 1)
    (hrow : w2.ownsRow w.heap.size 76 3 (.slice va n vc) n ((R.files.take i).flatMap fenc ++ (R.files.drop (i + 1)).flatMap fenc)) : RPost w F b (cutAt R i u) (w2.setCell ⟨b, 1, none⟩ (.slice va n vc)) := by
  have hle : (R.files.eraseIdx i).length = n := by rw [List.length_eraseIdx, if_pos hi, hn]
  exact h.newrow (l := R.files.eraseIdx i) hk (by
    rw [hle, List.eraseIdx_eq_take_drop_succ, List.flatMap_append]
    exact hrow) u
set_option maxRecDepth 100000 in
set_option maxHeartbeats 2000000 in
theorem rcut_any (w : World) (F : Nat → Prop) (b : Nat) (R : DiskC) (v : Value) (u : Int) (i : Nat) (hi : i < R.files.length) (h : RAt w F b R v) (hl : R.files.length ≤ 1000) :
    Calls Try.prog 52 #[.pointer (some ⟨b, 0, none⟩), .int .i64 i] w fun e w' => e = .returned (.tuple #[]) ∧ RPost w F b (cutAt R i u) w' := by
  have hb := block_lt h.blk
  have HH := Lib.hid h
  have hx : w.cell? ⟨b, 1, none⟩ = some v := block_cell h.blk 1
  have f1 := block_free h.blk 1
  rcases h.form with ⟨hnil0, rfl⟩ | ⟨r, cap, rfl, hrb, hrl, hcap, hFr⟩
  · rw [hnil0] at hi
    exact absurd hi (Nat.not_lt_zero _)
  · have hcm : cap ≤ 9223372036854775807 := by
      rcases h.row.2 with ⟨e, _⟩ | ⟨g1, cap1, cur, e, _, _, _, hc, _⟩
      · cases e
      · cases e; unfold maxLen at hc; omega
    have hcells : ∀ j u, (R.files.flatMap fenc)[j]? = some u → w.cell? ⟨r, j, none⟩ = some u := fun j u hu => by
      have hj : j < (R.files.flatMap fenc).length := (List.getElem?_eq_some_iff.1 hu).1
      rw [h.row.cellAt j (by rw [flat_len fenc 3 fenc_len] at hj; exact hj)]
      exact hu
    have hl1 : ((R.files.take i).flatMap fenc).length = i * 3 := by rw [flat_len fenc 3 fenc_len, List.length_take]; congr 1; omega
    have hl2 : ((R.files.drop (i + 1)).flatMap fenc).length = (R.files.length - (i + 1)) * 3 := by rw [flat_len fenc 3 fenc_len, List.length_drop]
    have hn1 : ∀ j u, ((R.files.take i).flatMap fenc)[j]? = some u → w.cell? ((⟨r, 0, none⟩ : Addr).add j) = some u := fun j u hu => by
      rw [flatN_take fenc 3 fenc_len, List.getElem?_take] at hu
      split at hu
      · rw [add_at, Nat.zero_add]; exact hcells j u hu
      · cases hu
    have hc1 : ∀ u ∈ (R.files.take i).flatMap fenc, u.oneCell' = true := fun u hu => by
      obtain ⟨x, hx, hu⟩ := List.mem_flatMap.1 hu
      exact fenc_one x u hu
    have hc2 : ∀ u ∈ (R.files.drop (i + 1)).flatMap fenc, u.oneCell' = true := fun u hu => by
      obtain ⟨x, hx, hu⟩ := List.mem_flatMap.1 hu
      exact fenc_one x u hu
    have HA1 : Hid (∀ w1, w.grownBy w1 none → w1.cell? ⟨b, 1, none⟩ = some (.slice (some ⟨r, 0, none⟩) R.files.length cap) ∧ b < w1.heap.size ∧ w1.frozen? ⟨b, 1, none⟩ = false ∧ w.heap.size ≤ w1.heap.size ∧ ∀ j u, ((R.files.drop (i + 1)).flatMap fenc)[j]? = some u → w1.cell? ((⟨r, (i + 1) * 3, none⟩ : Addr).add j) = some u) := fun w1 hg => by
      have hk : K0 w w1 := (Keeps.refl (fun _ => False) w).grown hg (fun k e => by cases e)
      have hblk := (hk.block b hb (fun e => e)).trans HH.out.blk
      refine ⟨block_cell hblk 1, block_lt hblk, block_free hblk 1, hk.size, fun j u hu => ?_⟩
      rw [flatN_drop fenc 3 fenc_len, List.getElem?_drop] at hu
      rw [add_at]
      exact hk.cell' (hcells _ u hu) (fun e => e)
    have HB2 : Hid (∀ (v1 : Value) (w1 w2 : World) (xs1 : List Value), w.grownBy w1 none → w1.ownsRow w.heap.size 76 3 v1 i xs1 → w1.grownBy w2 v1.ownBlock → K0 w w2 ∧ b < w2.heap.size ∧ w2.frozen? ⟨b, 1, none⟩ = false ∧ w2.cell? ⟨b, 1, none⟩ = some (.slice (some ⟨r, 0, none⟩) R.files.length cap)) := fun v1 w1 w2 xs1 hg hv hg2 => by
      have hk : K0 w w1 := (Keeps.refl (fun _ => False) w).grown hg (fun k e => by cases e)
      have hk2 : K0 w w2 := hk.grown hg2 (fun k e hlt => absurd (hv.lt k e).1 (by omega))
      have hblk := (hk2.block b hb (fun e => e)).trans HH.out.blk
      exact ⟨hk2, block_lt hblk, block_free hblk 1, block_cell hblk 1⟩
    have hown0 : w.ownsRow w.heap.size 76 3 (.slice none 0 0) 0 [] := World.ownsRow_nil _ _ _ _
    have i0 : (0 : Int) ≤ i := by omega
    have i1 : (i : Int) ≤ cap := by omega
    have i2 : (i : Int) < R.files.length := by omega
    have i3 : (i : Int) + 1 ≤ R.files.length := by omega
    have i4 : (R.files.length : Int) ≤ cap := by omega
    clear h hcells
    generalize hx1 : (R.files.take i).flatMap fenc = news1 at hl1 hn1 hc1
    generalize hx2 : (R.files.drop (i + 1)).flatMap fenc = news2 at hl2 hc2 HA1
    have HX1 := Lib.hid hx1
    have HX2 := Lib.hid hx2
    have HI := Lib.hid hi
    clear hx1 hx2
    by_cases hce : cap = i + 1
    · subst hce
      have hnil : ∀ w1 : World, ∀ j u, news2[j]? = some u → w1.cell? ((⟨r, 0, none⟩ : Addr).add j) = some u := fun w1 j u hu => by
        have h9 := (List.getElem?_eq_some_iff.1 hu).1
        omega
      have HNIL := Lib.hid hnil
      have hl20 : news2.length = 0 * 3 := by omega
      clear hnil
      go_enter Try.func52, Try.ntmps52
      go_wp2_with (at_builtin; first | (refine wpList_appN rfl rfl Try.underlying46 infoFile rfl (by decide) rfl hown0 rfl hl1 hn1 hc1 ⟨by omega, by decide⟩ (Nat.le_refl _) ?_; intro v1 w1 hv1 hg1; simp only [Nat.zero_add, List.nil_append] at hv1; obtain ⟨va1, vc1, rfl⟩ := own_slice hv1; obtain ⟨a1, a2, a3, a4, a5⟩ := HA1.out w1 hg1) | (refine wpList_appN rfl rfl Try.underlying46 infoFile rfl (by decide) rfl hv1 rfl hl2 (HNIL.out _) hc2 ⟨by omega, by decide⟩ a4 ?_; intro v2 w2 hv2 hg2; obtain ⟨va2, vc2, rfl⟩ := own_slice hv2; have B2 := HB2.out _ _ _ _ hg1 hv1 hg2; obtain ⟨b1, b2, b3, b4⟩ := B2; have HB := Lib.hid b1; have HV2 := Lib.hid hv2; clear b1 hv1 hg1 hg2 hv2 a1 a2 a3 a4 a5) | (refine wpList_appN rfl rfl Try.underlying46 infoFile rfl (by decide) rfl hv1 rfl hl20 (HNIL.out _) hc2 ⟨by omega, by decide⟩ a4 ?_; intro v2 w2 hv2 hg2; obtain ⟨va2, vc2, rfl⟩ := own_slice hv2; have B2 := HB2.out _ _ _ _ hg1 hv1 hg2; obtain ⟨b1, b2, b3, b4⟩ := B2; have HB := Lib.hid b1; have HV2 := Lib.hid hv2; clear b1 hv1 hg1 hg2 hv2 a1 a2 a3 a4 a5))
      go_end0
      exact ⟨rfl, HH.out.dropped u HI.out HB.out (by omega) (by rw [HX1.out, HX2.out]; exact HV2.out)⟩
    · go_enter Try.func52, Try.ntmps52
      go_wp2_with (at_builtin; first | (refine wpList_appN rfl rfl Try.underlying46 infoFile rfl (by decide) rfl hown0 rfl hl1 hn1 hc1 ⟨by omega, by decide⟩ (Nat.le_refl _) ?_; intro v1 w1 hv1 hg1; simp only [Nat.zero_add, List.nil_append] at hv1; obtain ⟨va1, vc1, rfl⟩ := own_slice hv1; obtain ⟨a1, a2, a3, a4, a5⟩ := HA1.out w1 hg1) | (refine wpList_appN rfl rfl Try.underlying46 infoFile rfl (by decide) rfl hv1 rfl hl2 a5 hc2 ⟨by omega, by decide⟩ a4 ?_; intro v2 w2 hv2 hg2; obtain ⟨va2, vc2, rfl⟩ := own_slice hv2; have B2 := HB2.out _ _ _ _ hg1 hv1 hg2; obtain ⟨b1, b2, b3, b4⟩ := B2; have HB := Lib.hid b1; have HV2 := Lib.hid hv2; clear b1 hv1 hg1 hg2 hv2 a1 a2 a3 a4 a5))
      go_end0
      exact ⟨rfl, HH.out.dropped u HI.out HB.out (by omega) (by rw [HX1.out, HX2.out]; exact HV2.out)⟩
end Go.Proofs.Ytjfblcmpdcbpgaa
