/-
  A text that Parse takes prints the same, in plain Lean.
-/
import Derived.Test.YtegbiekfpcfnnaaUm
namespace Go.Proofs.Ytegbiekfpcfnnaa
open Go.RowKit Fx

def okR (nx : Int) (q : OneP) : Prop := 0 ≤ q.2.1 ∧ q.2.1 < nx ∧ 1 ≤ q.2.2 ∧ q.2.2 ≤ 16 ∧ 1 ≤ q.1.size ∧ q.1.size ≤ 100
structure PInv (s : ByteArray) (nx n : Int) (p : PSt) : Prop where
  lo : 0 ≤ p.a
  hi : p.a ≤ s.size
  pre : s.extract 0 p.a.toNat = printL (putB nx ++ putB n) p.l
  ord : SortF p.l
  ok : ∀ q ∈ p.l, okR nx q
theorem sort_app {l : List OneP} (h : SortF l) {nm : ByteArray} {x : Int × Int} (hl : bltB (lastN l) nm = true) : SortF (l ++ [(nm, x)]) := by
  have hall : ∀ q ∈ l, bltB q.1 nm = true := by
    intro q hq
    rcases List.eq_nil_or_concat l with rfl | ⟨l', z, rfl⟩
    · cases hq
    · rw [List.concat_eq_append] at *
      rw [lastN_app] at hl
      rcases List.mem_append.1 hq with hq | hq
      · have h2 := (List.pairwise_append.1 (List.pairwise_map.1 h)).2.2 q hq z (by simp)
        exact blt_trans h2 hl
      · obtain rfl := List.mem_singleton.1 hq
        exact hl
  refine List.pairwise_map.2 (List.pairwise_append.2 ⟨List.pairwise_map.1 h, by simp, fun a ha b hb => ?_⟩)
  obtain rfl := List.mem_singleton.1 hb
  exact hall a ha
theorem blt_nonempty {a nm : ByteArray} (h : bltB a nm = true) : 1 ≤ nm.size := by
  rw [blt_iff] at h
  have h1 : nm.data.toList.length = nm.size := rfl
  cases hx : nm.data.toList with
  | nil => rw [hx] at h; exact absurd h (List.not_lt_nil _)
  | cons b l => rw [hx] at h1; simp at h1; omega
section
variable {s : ByteArray} {nx n : Int}
theorem PInv.step {p : PSt} (h : PInv s nx n p) (hp : p.e = 0) (he : (pstep s nx p).e = 0) : PInv s nx n (pstep s nx p) := by
  have h3 : st3E s nx p = 0 := he
  obtain ⟨e2, g3, a3, b3, n3, t3⟩ := nuE_zero h3
  obtain ⟨e1, g2, a2, b2, n2, t2⟩ := nuE_zero e2
  obtain ⟨e0, hb⟩ := wE_zero e1
  obtain ⟨_, hk, hS, hT⟩ := txE_zero e0
  have k1 := tk_ok hk
  have k2 := vget_ok g2
  have k3 := vget_ok g3
  obtain ⟨x1, z1⟩ := tk_put hk
  have x2 := get_put g2
  have x3 := get_put g3
  have e2T : st2T s p = vgetT s (txT s p.a p.e) := t2
  have e3T : st3T s nx p = vgetT s (st2T s p) := t3
  have e2N : st2N s p = vgetN s (txT s p.a p.e) := n2
  have e3N : st3N s nx p = vgetN s (st2T s p) := n3
  have hnm := blt_nonempty hb
  rw [hS] at hnm
  rw [← e3T] at x3 k3
  rw [← e2T] at x2 k2
  rw [← e2N] at x2 a2 b2
  rw [← e3N] at x3 a3 b3
  rw [← hT] at x1 k1
  have hlo := h.lo
  refine ⟨?_, ?_, ?_, sort_app h.ord hb, ?_⟩
  · show 0 ≤ st3T s nx p; omega
  · show st3T s nx p ≤ s.size; omega
  · show s.extract 0 (st3T s nx p).toNat = printL _ (p.l ++ [pone s nx p])
    rw [printL_app, ← h.pre]
    rw [ext_split (a := 0) (b := p.a.toNat) (c := (st3T s nx p).toNat) (by omega) (by omega) (by omega)]
    rw [ext_split (a := p.a.toNat) (b := (txT s p.a p.e).toNat) (c := (st3T s nx p).toNat) (by omega) (by omega) (by omega)]
    rw [ext_split (a := (txT s p.a p.e).toNat) (b := (st2T s p).toNat) (c := (st3T s nx p).toNat) (by omega) (by omega) (by omega)]
    rw [x1, x2, x3]
    show _ = _ ++ oneB (txS s p.a p.e, (st2N s p, st3N s nx p))
    unfold oneB
    rw [hS]
    simp only [ByteArray.append_assoc]
  · intro q hq
    have hq : q ∈ p.l ++ [pone s nx p] := hq
    rcases List.mem_append.1 hq with hq | hq
    · exact h.ok q hq
    · obtain rfl := List.mem_singleton.1 hq
      show 0 ≤ st2N s p ∧ st2N s p < nx ∧ 1 ≤ st3N s nx p ∧ st3N s nx p ≤ 16 ∧ 1 ≤ (txS s p.a p.e).size ∧ (txS s p.a p.e).size ≤ 100
      rw [hS]
      exact ⟨a2, by omega, a3, b3, hnm, z1⟩
theorem prun_inv : ∀ (j : Nat) (p : PSt), (p.e = 0 → PInv s nx n p) → (prun s nx j p).e = 0 → PInv s nx n (prun s nx j p) ∧ (prun s nx j p).l.length = p.l.length + j ∧ p.e = 0
  | 0, p, h, he => ⟨h he, rfl, he⟩
  | j + 1, p, h, he => by
    by_cases hp : p.e = 0
    · rw [prun, if_pos hp] at he ⊢
      obtain ⟨h1, h2, _⟩ := prun_inv j (pstep s nx p) (fun h2 => (h hp).step hp h2) he
      refine ⟨h1, ?_, hp⟩
      rw [h2]
      show (p.l ++ [pone s nx p]).length + j = _
      simp
      omega
    · rw [prun, if_neg hp] at he
      exact absurd he hp
theorem PInv.first (h : (paP s).e = 0) : PInv s (paX s) (paC s) (paP s) := by
  obtain ⟨h1, g1, _, _, h4, h5⟩ := nuE_zero h
  obtain ⟨_, g2, _, _, f4, f5⟩ := nuE_zero h1
  have k1 := vget_ok g1
  have k2 := vget_ok g2
  have x1 := get_put g1
  have x2 := get_put g2
  have eA : (paP s).a = vgetT s (nuT s 0 0) := h5
  have eC : paC s = vgetN s (nuT s 0 0) := h4
  have eX : paX s = vgetN s 0 := f4
  rw [← eA] at x1 k1
  rw [← eC] at x1
  rw [f5] at x1 k1
  rw [← eX] at x2
  refine ⟨by omega, by omega, ?_, List.Pairwise.nil, fun q hq => by cases hq⟩
  rw [ext_split (a := 0) (b := (vgetT s 0).toNat) (c := (paP s).a.toNat) (by omega) (by omega) (by omega)]
  have x2 : s.extract 0 (vgetT s 0).toNat = putB (paX s) := x2
  rw [x2, x1]
  rfl
/-- What a text that Parse takes is. -/
theorem parse_good (h : paE s = 0) : mapO (paF s).l = (paF s).l ∧ SortF (paF s).l ∧ WfT ⟨paX s, (paF s).l⟩ ∧ printT ⟨paX s, (paF s).l⟩ = s := by
  obtain ⟨hF, hb⟩ := wE_zero h
  simp only [Bool.and_eq_true, decide_eq_true_eq] at hb
  obtain ⟨ha, hi⟩ := hb
  obtain ⟨hI, hl, hp⟩ := prun_inv (s := s) (nx := paX s) (n := paC s) (paC s).toNat (paP s) PInv.first hF
  have hI : PInv s (paX s) (paC s) (paF s) := hI
  have hl : (paF s).l.length = 0 + (paC s).toNat := hl
  obtain ⟨z1, z2, z3, z4⟩ := paP_zero hp
  have hlen : paC s = (paF s).l.length := by omega
  have hnd : ((paF s).l.map (·.2.1)).Nodup := (idsO_len _).1 (by omega)
  have hkd : KD (paF s).l := hI.ord.kd
  refine ⟨mapO_keys _ hkd, hI.ord, ⟨hkd, ⟨z1, z2⟩, by show (paF s).l.length ≤ 20; omega, fun t x e => ?_, fun t t' x x' e e' hne hx => ?_⟩, ?_⟩
  · have := hI.ok _ (aget_in e)
    exact ⟨this.1, this.2.1, this.2.2.1, this.2.2.2.1, this.2.2.2.2.1, this.2.2.2.2.2⟩
  · obtain ⟨i, hi2, ei⟩ := List.mem_iff_getElem.1 (aget_in e)
    obtain ⟨j, hj2, ej⟩ := List.mem_iff_getElem.1 (aget_in e')
    have hpw := List.pairwise_iff_getElem.1 (List.pairwise_map.1 (List.nodup_iff_pairwise_ne.1 hnd))
    have hij : i ≠ j := fun hh => by subst hh; rw [ei] at ej; exact hne (congrArg Prod.fst ej)
    rcases Nat.lt_or_gt_of_ne hij with hlt | hlt
    · have := hpw i j hi2 hj2 hlt
      rw [ei, ej] at this
      exact this hx
    · have := hpw j i hj2 hi2 hlt
      rw [ei, ej] at this
      exact this hx.symm
  · have hpre := hI.pre
    rw [ha, Int.toNat_natCast, ext_all] at hpre
    show printL (putB (paX s) ++ putB ((paF s).l.length : Int)) (paF s).l = s
    rw [← hlen, ← hpre]
end
end Go.Proofs.Ytegbiekfpcfnnaa
