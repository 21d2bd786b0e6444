/-
  The program's coordinator: Tick.
-/
import Derived.Test.YtklhlffdpojkoaaGreatJ26
namespace Go.Proofs.YtklhlffdpojkoaaGreat
open Go.RowKit Go.Shelf Fx
attribute [local go_sem] Oper.semAt_some

def CellsAt (w : World) (k : Nat) : Prop := ∃ cs t f, w.heap[k]? = some (.cells cs t f)
theorem cells_cell {w : World} {b i : Nat} {v : Value} (h : w.cell? ⟨b, i, none⟩ = some v) : CellsAt w b := by
  cases hb : w.heap[b]? with
  | none => simp [World.cell?, hb] at h
  | some o =>
    cases o with
    | cells cs t f => exact ⟨cs, t, f, hb⟩
    | _ => simp [World.cell?, hb] at h
/-- The blocks that a group needs. -/
def nd (b : Nat) (v : Value) (L : List OneV) (k : Nat) : Prop := k = b ∨ v.ownBlock = some k ∨ ∃ x ∈ L, vblk x.tv k ∨ vblk x.pv k
theorem Out.vcells {α : Type} {n : Nat} {R : Rdr α} {w : World} {G : Nat → Prop} {v : Value} {l : List α} (h : Out n R w G v l) (hn : 0 < n) (hR : ∀ cs x, R w cs x → cs.length = n) {k : Nat} (hk : Go.Proofs.YtklhlffdpojkoaaGreat.vblk v k) : CellsAt w k := by
  obtain ⟨a, cap, rfl, ⟨_, _, h2⟩, _⟩ := h
  obtain ⟨x, m, c, e, hm, rfl⟩ := hk
  simp only [Value.slice.injEq] at e
  obtain ⟨rfl, rfl, _⟩ := e
  obtain ⟨b, off, e2, hr⟩ := h2 (fun e => hm (by rw [e]; rfl))
  cases e2
  obtain ⟨cs, e1, e3, e4⟩ := hr 0 (by omega)
  have h0 := e3 0 hn
  have hl := hR cs _ e4
  have : cs[0]? = some (cs[0]'(by omega)) := List.getElem?_eq_getElem (by omega)
  rw [this] at h0
  exact cells_cell h0
theorem len_str (w : World) (cs : List Value) (x : ByteArray) (h : rStr w cs x) : cs.length = 1 := by
  rw [show cs = _ from h.1]
  rfl
theorem len_part (w : World) (cs : List Value) (x : PartC) (h : rPart w cs x) : cs.length = 2 := by
  rw [show cs = _ from h]
  rfl
section
variable {w w' : World} {F F2 S : Nat → Prop} {b : Nat} {g g2 : GroupC} {v v2 : Value} {L L2 : List OneV}
theorem GrpAt.nd_sub (h : GrpAt w F b g v L) {k : Nat} (e : nd b v L k) : F k := by
  rcases e with rfl | e | ⟨x, hx, e | e⟩
  · exact h.fb
  · exact (h.own k e).1
  · exact ((h.out x hx).1.vblk e).2.1
  · exact ((h.out x hx).2.vblk e).2.1
theorem out_nd {α : Type} {n : Nat} {R : Rdr α} {G G' : Nat → Prop} {l : List α} (h : Out n R w G v l) (hG : ∀ k, G k → vblk v k → G' k) : Out n R w G' v l := by
  obtain ⟨a, cap, rfl, h2, h3⟩ := h
  refine ⟨a, cap, rfl, h2, fun x e hne => ⟨(h3 x e hne).1, hG _ (h3 x e hne).2 ⟨x, l.length, cap, by rw [e], fun e2 => hne (List.eq_nil_of_length_eq_zero e2), rfl⟩⟩⟩
theorem GrpAt.tight (h : GrpAt w F b g v L) : GrpAt w (nd b v L) b g v L where
  blk := h.blk
  row := h.row
  fb := .inl rfl
  lt := fun k e => h.lt k (h.nd_sub e)
  own := fun k e => ⟨.inr (.inl e), (h.own k e).2⟩
  ones := h.ones
  out := fun x hx => ⟨out_nd (h.out x hx).1 fun _k e e2 => ⟨.inr (.inr ⟨x, hx, .inl e2⟩), e.2⟩, out_nd (h.out x hx).2 fun _k e e2 => ⟨.inr (.inr ⟨x, hx, .inr e2⟩), e.2⟩⟩
theorem GrpAt.nd_cells (h : GrpAt w F b g v L) {k : Nat} (e : nd b v L k) : CellsAt w k := by
  rcases e with rfl | e | ⟨x, hx, e | e⟩
  · exact ⟨_, _, _, h.blk⟩
  · rcases h.row.2 with ⟨h1, _⟩ | ⟨r, cap, cur, h1, _, hg, _⟩
    · rw [h1] at e; cases e
    · rw [h1] at e
      have e : some r = some k := e
      cases e
      exact ⟨_, _, _, hg⟩
  · exact (h.out x hx).1.vcells (by decide) (len_str w) e
  · exact (h.out x hx).2.vcells (by decide) (len_part w) e
theorem GrpAt.nd_uniq (h : GrpAt w F b g v L) (h2 : GrpAt w F2 b g2 v2 L2) {k : Nat} (e : nd b v L k) : nd b v2 L2 k := by
  have hb : gCells g v = gCells g2 v2 := by
    have := h.blk.symm.trans h2.blk
    simp only [Option.some.injEq, Obj.cells.injEq] at this
    exact this.1
  have hv : v = v2 := by
    have := congrArg (fun a : Array Value => a[6]?) hb
    simpa [gCells] using this
  subst hv
  rcases e with e | e | ⟨x, hx, e⟩
  · exact .inl e
  · exact .inr (.inl e)
  · obtain ⟨i, hi, rfl⟩ := List.mem_iff_getElem.1 hx
    rcases h.form with ⟨rfl, _⟩ | ⟨r, cap, hv, _⟩
    · exact absurd hi (Nat.not_lt_zero _)
    · rcases h2.form with ⟨_, hv2⟩ | ⟨r2, cap2, hv2, _⟩
      · rw [hv] at hv2; cases hv2
      · have hv3 := hv2
        rw [hv] at hv3
        simp only [Value.slice.injEq, Option.some.injEq, Addr.mk.injEq] at hv3
        obtain ⟨⟨rfl, _⟩, hl, rfl⟩ := hv3
        have hi2 : i < L2.length := by omega
        have c1 := h.cell hv i hi
        have c2 := h2.cell hv2 i hi2
        have e1 : L[i].tv = L2[i].tv := Option.some.inj (c1.2.1.symm.trans c2.2.1)
        have e2 : L[i].pv = L2[i].pv := Option.some.inj (c1.2.2.2.2.symm.trans c2.2.2.2.2)
        exact .inr (.inr ⟨L2[i], List.getElem_mem hi2, by rw [← e1, ← e2]; exact e⟩)
/-- The least blocks that a group at b takes. -/
def mf (w : World) (b k : Nat) : Prop := ∀ F g, Grp w F b g → F k
theorem GrpAt.mf_eq (h : GrpAt w F b g v L) : mf w b = nd b v L := funext fun _k => propext ⟨fun e => e _ g ⟨v, L, h.tight⟩, fun e _F2 _g2 ⟨_v2, _L2, h2⟩ => h2.nd_sub (h.nd_uniq h2 e)⟩
theorem Grp.tight (h : Grp w F b g) : Grp w (mf w b) b g := by
  obtain ⟨v, L, h⟩ := h
  rw [h.mf_eq]
  exact ⟨v, L, h.tight⟩
theorem Grp.mf_sub (h : Grp w F b g) {k : Nat} (e : mf w b k) : F k := e F g h
theorem Grp.mf_cells (h : Grp w F b g) {k : Nat} (e : mf w b k) : CellsAt w k := by
  obtain ⟨v, L, h⟩ := h
  rw [h.mf_eq] at e
  exact h.nd_cells e
theorem CellsAt.keep {k : Nat} (h : CellsAt w k) (e : w'.heap[k]? = w.heap[k]?) : CellsAt w' k := by
  obtain ⟨cs, t, f, h⟩ := h
  exact ⟨cs, t, f, e.trans h⟩
end
/-- What a round that turns groups keeps. -/
def Kt (n0 : Nat) (bs : Nat → Prop) (A B : World) : Prop :=
  A.heap.size ≤ B.heap.size ∧ (∀ b, bs b → (∃ F g, Grp A F b g) → (∃ F g, Grp B F b g) ∧ ∀ k, mf B b k → mf A b k ∨ A.heap.size ≤ k) ∧
    ∀ k o, A.heap[k]? = some o → (∀ b, bs b → ¬ mf A b k) → (k < n0 ∨ CellsAt A k) → B.heap[k]? = some o
section
variable {n0 : Nat} {bs : Nat → Prop} {A B C : World}
theorem no_mf {w : World} {b k : Nat} (h : ¬ mf w b k) : ∃ F g, Grp w F b g := Classical.byContradiction fun h2 => h fun F g hg => absurd ⟨F, g, hg⟩ h2
theorem Kt.refl (n0 : Nat) (bs : Nat → Prop) (A : World) : Kt n0 bs A A := ⟨Nat.le_refl _, fun _b _ h => ⟨h, fun _k e => .inl e⟩, fun _k _o h _ _ => h⟩
theorem Kt.trans (h : Kt n0 bs A B) (g : Kt n0 bs B C) : Kt n0 bs A C := by
  obtain ⟨h1, h2, h3⟩ := h
  obtain ⟨g1, g2, g3⟩ := g
  refine ⟨Nat.le_trans h1 g1, fun b hb hA => ?_, fun k o hk hn hc => ?_⟩
  · obtain ⟨q1, q2⟩ := h2 b hb hA
    obtain ⟨r1, r2⟩ := g2 b hb q1
    exact ⟨r1, fun k e => (r2 k e).elim (q2 k) (fun e => .inr (Nat.le_trans h1 e))⟩
  · have e1 := h3 k o hk hn hc
    refine g3 k o e1 (fun b hb e => ?_) (hc.imp id fun e => e.keep (e1.trans hk.symm))
    have hlt := (Array.getElem?_eq_some_iff.1 hk).1
    rcases (h2 b hb (no_mf (hn b hb))).2 k e with e2 | e2
    · exact hn b hb e2
    · omega
theorem keeps_putObj (W : World) (l : Nat) (o' : Obj) : Keeps (fun k => k = l) W (W.putObj l o') :=
  (Keeps.refl (fun k => k = l) W).grown (grownBy_putObj' W l o') (fun k e _ => by cases e; rfl)
theorem Kt.put {w : World} (hn : n0 ≤ w.heap.size) (W : World) (l : Nat) (o o' : Obj) (hl : w.heap.size ≤ l) (h : W.heap[l]? = some o) (hc : o.isCells = false) (_ : o.isWalk = false) : Kt n0 bs W (W.putObj l o') := by
  have hk := keeps_putObj W l o'
  have hnc : ¬ CellsAt W l := fun ⟨cs, t, f, e⟩ => by rw [h] at e; cases e; simp [Obj.isCells] at hc
  refine ⟨hk.size, fun b _ ⟨F, g, hg⟩ => ?_, fun k o2 hk2 hm hcc => ?_⟩
  · have h1 := hg.tight.keep hk (fun k e e2 => hnc (by subst e2; exact hg.mf_cells e))
    exact ⟨⟨_, g, h1⟩, fun k e => .inl (h1.mf_sub e)⟩
  · have hlt := (Array.getElem?_eq_some_iff.1 hk2).1
    refine (hk.block k hlt (fun e => ?_)).trans hk2
    rcases hcc with e2 | e2
    · omega
    · subst e; exact hnc e2
end
/-- The blocks of the groups. -/
def gbs (Y : CLay) (b : Nat) : Prop := ∃ p ∈ Y.L, p.2.1 = b
section
variable {w0 w w' : World} {cb : Nat} {C : CoordC} {Y : CLay}
theorem CAt.at_mf (h : CAt w0 w cb C Y) {b : Nat} (hb : gbs Y b) : ∃ i, ∃ hi : i < Y.L.length, Y.L[i].2.1 = b ∧ Grp w (Y.fp i) b Y.L[i].2.2 := by
  obtain ⟨p, hp, rfl⟩ := hb
  obtain ⟨i, hi, rfl⟩ := List.mem_iff_getElem.1 hp
  exact ⟨i, hi, rfl, h.grp i hi⟩
theorem iterK_tick {n0 B : Nat} (h : CAt w0 w cb C Y) (hgb : Y.gb < n0) (hB : CellsAt w B) (hBn : ∀ i, i < Y.L.length → ¬ Y.fp i B) : IterK (Kt n0 (gbs Y)) w B cb Y.gb := fun W w2 k1 k2 => by
  have hk := K0.tr k1 k2
  have h2 := h.keep hk
  refine ⟨Kt n0 (gbs Y) w2, Kt.refl _ _ _, fun A A' h g => h.trans g, fun A hA => ?_⟩
  have out : ∀ k, (∀ i, i < Y.L.length → ¬ Y.fp i k) → ∀ b, gbs Y b → ¬ mf w2 b k := fun k hn b hb e => by
    obtain ⟨i, hi, _, hg⟩ := h2.at_mf hb
    exact hn i hi (hg.mf_sub e)
  obtain ⟨a1, a2, a3⟩ := hA
  have go : ∀ k o, w2.heap[k]? = some o → (∀ i, i < Y.L.length → ¬ Y.fp i k) → (k < n0 ∨ CellsAt w2 k) → A.heap[k]? = w2.heap[k]? := fun k o hk2 hn hc => (a3 k o hk2 (out k hn) hc).trans hk2.symm
  obtain ⟨cs, t, f, hB⟩ := hB
  have hB2 : w2.heap[B]? = some (.cells cs t f) := (hk.block B (Array.getElem?_eq_some_iff.1 hB).1 (fun e => e)).trans hB
  have hgl := h2.map.lt
  refine ⟨a1, go B _ hB2 hBn (.inr ⟨_, _, _, hB2⟩), go cb _ h2.blk (fun i hi e => (h.fpn i cb hi e).2.1 rfl) (.inr ⟨_, _, _, h2.blk⟩), go Y.gb w2.heap[Y.gb] (Array.getElem?_eq_getElem hgl) (fun i hi e => (h.fpn i Y.gb hi e).2.2.1 rfl) (.inl hgb), fun g cs t f hg he => go g _ he (fun i hi e => ?_) (.inr ⟨_, _, _, he⟩)⟩
  have := (h.grp i hi).ltF g e
  have := k1.size
  omega
/-- The same with each group's least blocks. -/
def tightY (w : World) (Y : CLay) : CLay := { Y with fp := fun i k => ∃ hi : i < Y.L.length, mf w (Y.L[i]'hi).2.1 k }
theorem tightY_mf {W : World} {Y : CLay} {i k b : Nat} (e : (tightY W Y).fp i k) (hi : i < Y.L.length) (h : (Y.L[i]'hi).2.1 = b) : mf W b k := by
  subst h
  exact e.2
theorem CAt.tight (h : CAt w0 w cb C Y) : CAt w0 w cb C (tightY w Y) where
  k0 := h.k0
  blk := h.blk
  core := h.core
  map := h.map
  off := h.off
  ne1 := h.ne1
  ne2 := h.ne2
  ne3 := h.ne3
  ne4 := h.ne4
  new := h.new
  grp := fun i hi => by
    have e : (tightY w Y).fp i = mf w Y.L[i].2.1 := funext fun k => propext ⟨fun ⟨_, e⟩ => e, fun e => ⟨hi, e⟩⟩
    rw [e]
    exact (h.grp i hi).tight
  fpn := fun i k hi e => h.fpn i k hi ((h.grp i hi).mf_sub e.2)
  apart := fun i j k hi hj hij e1 e2 => h.apart i j k hi hj hij ((h.grp i hi).mf_sub e1.2) ((h.grp j hj).mf_sub e2.2)
theorem CAt.tight_cells (h : CAt w0 w cb C Y) {i k : Nat} (e : (tightY w Y).fp i k) : CellsAt w k := (h.grp i e.1).mf_cells e.2
theorem CAt.tight_sub (h : CAt w0 w cb C Y) {k : Nat} (e : cfoot cb (tightY w Y) k) : cfoot cb Y k := by
  rcases e with e | e | e | e | ⟨i, hi, e⟩
  · exact .inl e
  · exact .inr (.inl e)
  · exact .inr (.inr (.inl e))
  · exact .inr (.inr (.inr (.inl e)))
  · exact .inr (.inr (.inr (.inr ⟨i, hi, (h.grp i hi).mf_sub e.2⟩)))
end
/-! The plain law: all are ticked, one behind the other. -/
def tickU (now : Int) (gs : List (ByteArray × GroupC)) (u : ByteArray) : List (ByteArray × GroupC) := match aget gs u with
  | some g => aput gs u (tickG g now)
  | none => gs
theorem tickU_map (now : Int) {gs : List (ByteArray × GroupC)} (hd : KD gs) (u : ByteArray) : tickU now gs u = gs.map fun p => if p.1 = u then (p.1, tickG p.2 now) else p := by
  induction gs with
  | nil => rfl
  | cons p gs ih =>
    obtain ⟨k, x⟩ := p
    have hd2 : KD gs := (List.nodup_cons.1 hd).2
    have hp := (List.nodup_cons.1 hd).1
    have ih := ih hd2
    unfold tickU at ih ⊢
    by_cases h : k = u
    · subst h
      have hmap : gs.map (fun p => if p.1 = k then (p.1, tickG p.2 now) else p) = gs := by
        conv => rhs; rw [← List.map_id gs]
        apply List.map_congr_left
        intro q hq
        have : q.1 ≠ k := fun e => hp (List.mem_map.2 ⟨q, hq, e⟩)
        simp [this]
      simp only [aget, if_true, aput, List.map_cons, hmap]
    · simp only [aget, if_neg h, aput, List.map_cons]
      cases hg : aget gs u with
      | none => rw [hg] at ih; dsimp only at ih ⊢; rw [← ih]
      | some g => rw [hg] at ih; dsimp only at ih ⊢; rw [← ih]
theorem tickU_keys (now : Int) {gs : List (ByteArray × GroupC)} (hd : KD gs) (u : ByteArray) : (tickU now gs u).map (·.1) = gs.map (·.1) := by
  rw [tickU_map now hd, List.map_map]
  apply List.map_congr_left
  intro p _
  simp only [Function.comp]
  split <;> rfl
open Classical in
theorem tickN_map (now : Int) : ∀ (us : List ByteArray) {gs : List (ByteArray × GroupC)}, KD gs → us.Nodup → us.foldl (tickU now) gs = gs.map fun p : ByteArray × GroupC => if p.1 ∈ us then (p.1, tickG p.2 now) else p
  | [], gs, _, _ => by
    simp only [List.foldl_nil]
    conv => lhs; rw [← List.map_id gs]
    apply List.map_congr_left
    intro p _
    simp
  | u :: us, gs, hd, hn => by
    have hu := (List.nodup_cons.1 hn).1
    have hd2 : KD (tickU now gs u) := by unfold KD; rw [tickU_keys now hd]; exact hd
    rw [List.foldl_cons, tickN_map now us hd2 (List.nodup_cons.1 hn).2, tickU_map now hd, List.map_map]
    apply List.map_congr_left
    intro p _
    simp only [Function.comp]
    by_cases h : p.1 = u
    · have : p.1 ∉ us := by rw [h]; exact hu
      simp [h, hu]
    · simp [h]
theorem Ok.newBig {s r : Int} (h1 : 1 ≤ s ∧ s ≤ 100000) (h2 : 1 ≤ r ∧ r ≤ 100000) : Ok 1000000 (newG s r) := ⟨WfG.new h1 h2, EmpG.new s r, BndG.new s r, by show (0 : Int) + 1000000 ≤ _; omega, by show (0 : Int) + 1000000 ≤ _; omega⟩
theorem aput_blk {L : List (ByteArray × (Nat × GroupC))} {s : ByteArray} {b : Nat} {g : GroupC} (h : aget L s = some (b, g)) (g' : GroupC) : (aput L s (b, g')).map (fun p => (p.1, p.2.1)) = L.map (fun p => (p.1, p.2.1)) := by
  induction L with
  | nil => simp [aget] at h
  | cons p L ih =>
    obtain ⟨k, u⟩ := p
    simp only [aget] at h
    by_cases hk : k = s
    · rw [if_pos hk] at h
      cases h
      simp [aput, hk]
    · rw [if_neg hk] at h
      simp only [aput, if_neg hk, List.map_cons, ih h]
theorem mem_aputG {L : List (ByteArray × GroupC)} {k : ByteArray} {v : GroupC} {p : ByteArray × GroupC} (h : p ∈ aput L k v) : p = (k, v) ∨ p ∈ L := by
  induction L with
  | nil => exact .inl (by simpa [aput] using h)
  | cons q L ih =>
    obtain ⟨q, x⟩ := q
    by_cases e : q = k
    · simp only [aput, if_pos e, List.mem_cons] at h
      exact h.imp (fun h => by rw [h, e]) (fun h => List.mem_cons_of_mem _ h)
    · simp only [aput, if_neg e, List.mem_cons] at h
      rcases h with h | h
      · exact .inr (by rw [h]; exact List.mem_cons_self ..)
      · exact (ih h).imp id (fun h => List.mem_cons_of_mem _ h)
theorem kd_core {L : List (ByteArray × (Nat × GroupC))} (h : KD (gcore L)) : KD L := by
  unfold KD gcore at h
  unfold KD
  rw [List.map_map] at h
  exact h
theorem Ok.leX {n m : Nat} {g : GroupC} (h : Ok n g) (hm : m ≤ n) : Ok m g := h.le hm
/-- What holds between two rounds. -/
structure TickI (w0 w : World) (cb : Nat) (C : CoordC) (Y : CLay) (now : Int) (n : Nat) (us : List ByteArray) (W : World) : Prop where
  keep : Keeps (cfoot cb Y) w W
  st : ∃ gs Y1, CAt w0 W cb ⟨C.s, C.r, gs, C.off⟩ Y1 ∧ gs = us.foldl (tickU now) C.gs ∧ Y1.gb = Y.gb ∧ Y1.tb = Y.tb ∧ Y1.ob = Y.ob ∧ Y1.L.map (fun p => (p.1, p.2.1)) = Y.L.map (fun p => (p.1, p.2.1)) ∧ (∀ k, cfoot cb Y1 k → cfoot cb Y k ∨ w.heap.size ≤ k) ∧ (∀ i k, i < Y1.L.length → Y1.fp i k → CellsAt W k) ∧ (us.length ≤ 20 → ∀ p ∈ gs, Ok (n + 2 * (20 - us.length)) p.2) ∧ KD gs
section
variable {w0 w W W' : World} {cb : Nat} {C : CoordC} {Y : CLay} {now : Int} {n : Nat} {us : List ByteArray}
theorem TickI.start (h : CAt w0 w cb C Y) (hd : KD C.gs) (ok : ∀ p ∈ C.gs, Ok (n + 40) p.2) : TickI w0 w cb C Y now n [] w :=
  ⟨Keeps.refl _ _, C.gs, tightY w Y, h.tight, rfl, rfl, rfl, rfl, rfl, fun _k e => .inl (h.tight_sub e), fun _i _k _ e => h.tight_cells e, fun _ => ok, hd⟩
theorem TickI.grow {row : Option Nat} (h : TickI w0 w cb C Y now n us W) (hl : ∀ k, cfoot cb Y k → k < w.heap.size) (hg : W.grownBy W' row) (hr : ∀ r, row = some r → w.heap.size ≤ r ∧ ∃ o : Obj, W.heap[r]? = some o ∧ o.isCells = false) : TickI w0 w cb C Y now n us W' := by
  obtain ⟨h0, gs, Y1, h1, h2, h3, h3b, h3c, h4, h5, h6, h7, h8⟩ := h
  have hkr : Keeps (fun k => row = some k) W W' := (Keeps.refl (fun k => row = some k) W).grown hg (fun k e _ => e)
  have hnc : ∀ k, row = some k → ¬ CellsAt W k := fun k e ⟨cs, t, f, e2⟩ => by
    obtain ⟨_, o, ho, hc⟩ := hr k e
    rw [ho] at e2
    cases e2
    simp [Obj.isCells] at hc
  have hw := h0.size
  refine ⟨h0.trans hkr (fun k hk e => by have := (hr k e).1; omega), gs, Y1, h1.keepS hkr (fun k e => ?_), h2, h3, h3b, h3c, h4, h5, fun i k hi e => ?_, h7, h8⟩
  · obtain ⟨hB, o, ho, hc⟩ := hr k e
    have hcl : ∀ b, cfoot cb Y b → k ≠ b := fun b hb e2 => by have := hl b hb; omega
    exact ⟨by have := h1.newC cb (.inl rfl); have := hl cb (.inl rfl); omega, hcl _ (.inl rfl), by rw [h3]; exact hcl _ (.inr (.inl rfl)), by rw [h3b]; exact hcl _ (.inr (.inr (.inl rfl))), by rw [h3c]; exact hcl _ (.inr (.inr (.inr (.inl rfl)))), fun i hi e2 => hnc k e (h6 i k hi e2)⟩
  · exact (h6 i k hi e).keep (hkr.block k ((h1.grp i hi).ltF k e) (fun e2 => hnc k e2 (h6 i k hi e)))
theorem TickI.round {n0 : Nat} (h : TickI w0 w cb C Y now n us W) {x : ByteArray × Value} (hx : x ∈ avals gptr Y.L) (hus : us.length < 20) :
    ∃ b, x.2 = .pointer (some ⟨b, 0, none⟩) ∧ Calls Tryz.prog 45 #[.pointer (some ⟨b, 0, none⟩), .int .i64 now] W fun e W' => e = .returned (.tuple #[]) ∧ KeepsOthers W W' ∧ Kt n0 (gbs Y) W W' ∧ TickI w0 w cb C Y now n (us ++ [x.1]) W' := by
  obtain ⟨h0, gs, Y1, h1, h2, h3, h3b, h3c, h4, h5, h6, h7, h8⟩ := h
  obtain ⟨p, hp, rfl⟩ : ∃ p ∈ Y.L, x = (p.1, gptr p.2) := by
    unfold avals at hx
    obtain ⟨p, hp, e⟩ := List.mem_map.1 hx
    exact ⟨p, hp, e.symm⟩
  have hm : (p.1, p.2.1) ∈ Y1.L.map (fun p => (p.1, p.2.1)) := by rw [h4]; exact List.mem_map.2 ⟨p, hp, rfl⟩
  obtain ⟨q, hq, e⟩ := List.mem_map.1 hm
  simp only [Prod.mk.injEq] at e
  obtain ⟨eq1, eq2⟩ := e
  have hkd : KD Y1.L := kd_core (by rw [h1.core]; exact h8)
  have ha : aget Y1.L q.1 = some (q.2.1, q.2.2) := aget_of_mem hkd hq
  have T := h1.tight
  obtain ⟨i, hi, hiq, hix, hg⟩ := T.at (s := q.1) (b := q.2.1) (g := q.2.2) ha
  have hmg : (q.1, q.2.2) ∈ gs := by
    have h9 : gcore Y1.L = gs := h1.core
    rw [← h9]
    exact List.mem_map.2 ⟨q, hq, rfl⟩
  have hok := h7 (by omega) _ hmg
  refine ⟨p.2.1, rfl, ?_⟩
  rw [← eq2]
  refine (tick_any W _ q.2.1 q.2.2 now hg hok.wf hok.emp (by have h9 : q.2.2.gen + ((n + 2 * (20 - us.length) : Nat) : Int) ≤ 1152921504606846976 := hok.gen; omega)).mono ?_
  rintro e W' ⟨rfl, hpost⟩
  have hpost2 := hpost
  obtain ⟨F', r1, r2, r3⟩ := hpost2
  obtain ⟨Y2, q1, ⟨e1, e2, e3, e4⟩, q6⟩ := T.turn ha (hix ▸ hpost)
  have hcell : ∀ k, (tightY W Y1).fp i k → CellsAt W k := fun k e => h1.tight_cells e
  have hag : aget gs p.1 = some q.2.2 := by rw [← eq1]; exact aget_of_mem h8 hmg
  have hstep : (us ++ [p.1]).foldl (tickU now) C.gs = aput gs q.1 (tickG q.2.2 now) := by
    rw [List.foldl_append, ← h2]
    simp only [List.foldl_cons, List.foldl_nil]
    unfold tickU
    rw [hag, ← eq1]
  refine ⟨rfl, ⟨r3.size, fun k o hk ho => ?_⟩, ⟨r3.size, fun b' hb' hG => ?_, fun k o hk hn _ => ?_⟩, ?_⟩
  · refine (r3.block k (Array.getElem?_eq_some_iff.1 hk).1 (fun e => ?_)).trans hk
    obtain ⟨cs, t, f, e2⟩ := hcell k e
    rw [hk] at e2
    cases e2
    simp [Obj.isCells] at ho
  · have hb1 : gbs (tightY W Y1) b' := by
      obtain ⟨p', hp', e'⟩ := hb'
      have hm' : (p'.1, p'.2.1) ∈ Y1.L.map (fun p => (p.1, p.2.1)) := by rw [h4]; exact List.mem_map.2 ⟨p', hp', rfl⟩
      obtain ⟨q', hq', e''⟩ := List.mem_map.1 hm'
      simp only [Prod.mk.injEq] at e''
      exact ⟨q', hq', e''.2.trans e'⟩
    obtain ⟨j, hj, hjb, hgj⟩ := T.at_mf hb1
    by_cases hij : j = i
    · subst hij
      have hbb : b' = q.2.1 := by rw [← hjb]; rw [hiq]
      rw [hbb]
      refine ⟨⟨F', _, r1⟩, fun k e => ?_⟩
      rcases r2 k (r1.mf_sub e) with e5 | e5
      · left
        exact tightY_mf e5 hj (by rw [show Y1.L[j]'hj = (tightY W Y1).L[j]'hj from rfl, hiq])
      · exact .inr e5
    · have hk2 := hgj.keep r3 (fun k e5 e6 => T.apart j i k hj hi hij e5 e6)
      refine ⟨⟨_, _, hk2⟩, fun k e => .inl ?_⟩
      exact tightY_mf (hk2.mf_sub e) hj hjb
  · refine (r3.block k (Array.getElem?_eq_some_iff.1 hk).1 (fun e => ?_)).trans hk
    exact hn q.2.1 ⟨p, hp, eq2.symm⟩ (tightY_mf e hi (by rw [show Y1.L[i]'hi = (tightY W Y1).L[i]'hi from rfl, hiq]))
  · have hfi : ∀ k, (tightY W Y1).fp i k → cfoot cb Y k ∨ w.heap.size ≤ k := fun k e => h5 k (h1.tight_sub (.inr (.inr (.inr (.inr ⟨i, hi, e⟩)))))
    refine ⟨h0.trans r3 (fun k hk e => (hfi k e).elim id (fun e => by omega)), _, tightY W' Y2, q1.tight, hstep.symm, e1.trans h3, e2.trans h3b, e3.trans h3c, ?_, fun k e => ?_, fun i k _ e => q1.tight_cells e, fun hl p' hp' => ?_, ?_⟩
    · show Y2.L.map _ = _
      rw [e4]
      exact (aput_blk ha _).trans h4
    · have e := q1.tight_sub e
      have h9 : cfoot cb Y1 k ∨ W.heap.size ≤ k := by
        rcases e with e | e | e | e | ⟨j, hj, e⟩
        · exact .inl (.inl e)
        · exact .inl (.inr (.inl (e.trans e1)))
        · exact .inl (.inr (.inr (.inl (e.trans e2))))
        · exact .inl (.inr (.inr (.inr (.inl (e.trans e3)))))
        · exact (q6 j k hj e).imp (fun e => h1.tight_sub (.inr (.inr (.inr (.inr ⟨j, e.1, e.2⟩))))) id
      rcases h9 with h9 | h9
      · exact h5 k h9
      · exact .inr (Nat.le_trans h0.size h9)
    · rw [List.length_append] at hl
      simp only [List.length_cons, List.length_nil] at hl
      rw [List.length_append]
      simp only [List.length_cons, List.length_nil]
      rcases mem_aputG hp' with rfl | hp'
      · exact Ok.tick now (hok.le (by omega))
      · exact (h7 (by omega) p' hp').le (by omega)
    · have h9 := tickU_keys now h8 p.1
      have h10 : tickU now gs p.1 = aput gs q.1 (tickG q.2.2 now) := by unfold tickU; rw [hag, ← eq1]
      rw [h10] at h9
      unfold KD
      rw [h9]
      exact h8
set_option maxRecDepth 100000 in
set_option maxHeartbeats 4000000 in
theorem ptick_at (h : CAt w0 w cb C Y) (now : Int) (hd : KD C.gs) (hl : C.gs.length ≤ 20) (hks : ∀ p ∈ C.gs, p.1.size ≤ 100000) (ok : ∀ p ∈ C.gs, Ok (n + 40) p.2) :
    Calls Tryz.prog 15 #[.pointer (some ⟨cb, 0, none⟩), .int .i64 now] w fun e w' => e = .returned (.tuple #[]) ∧ CPost w0 w cb Y ⟨C.s, C.r, C.gs.map (fun p => (p.1, tickG p.2 now)), C.off⟩ w' := by
  refine (callsIn_wide (n := 6)).1 ?_
  have h1 : 1 ≤ 6 := by omega
  have hA : Fence.wide.fn 44 := trivial
  have hlen : C.gs.length = Y.L.length := by rw [← h.core]; simp [gcore]
  have hks' : ∀ p ∈ avals gptr Y.L, p.1.size ≤ 100000 := fun p hp => by
    unfold avals at hp
    obtain ⟨q, hq, rfl⟩ := List.mem_map.1 hp
    exact hks (q.1, q.2.2) (by rw [← h.core]; exact List.mem_map.2 ⟨q, hq, rfl⟩)
  have HH := Lib.hid h
  have HFIN : Hid (∀ us wz, OrdN us (avals gptr Y.L) → TickI w0 ((w.alloc (.cells #[.int .i64 now] 3)).alloc (.cells #[.pointer (some ⟨cb, 0, none⟩)] 23)) cb C Y now n us wz → CPost w0 w cb Y ⟨C.s, C.r, C.gs.map (fun p => (p.1, tickG p.2 now)), C.off⟩ wz) := fun us wz ho hi => by
    have hkeys : (avals gptr Y.L).map (·.1) = C.gs.map (·.1) := by rw [← h.core]; unfold avals gcore; rw [List.map_map, List.map_map]; rfl
    have hp := ho.perm
    rw [hkeys] at hp
    obtain ⟨k0, gs, Y1, c1, c2, c3, c3b, c3c, c4, c5, c6, c7, c8⟩ := hi
    have hgs : gs = C.gs.map (fun p => (p.1, tickG p.2 now)) := by
      rw [c2, tickN_map now us hd (hp.nodup_iff.2 hd)]
      apply List.map_congr_left
      intro p hp2
      rw [if_pos (hp.mem_iff.2 (List.mem_map.2 ⟨p, hp2, rfl⟩))]
    rw [← hgs]
    exact CPost.pre (((Keeps.refl _ w).alloc _).alloc _) ⟨Y1, c1, c5, k0⟩
  have bN := Boxed.new w 3 (.int .i64 now)
  have hcb := block_lt h.blk
  have hgb := h.map.lt
  have hB0 : K0 w ((w.alloc (.cells #[.int .i64 now] 3)).alloc (.cells #[.pointer (some ⟨cb, 0, none⟩)] 23)) := ((Keeps.refl _ w).alloc _).alloc _
  have hBC : CellsAt ((w.alloc (.cells #[.int .i64 now] 3)).alloc (.cells #[.pointer (some ⟨cb, 0, none⟩)] 23)) (w.heap.size + 1) := ⟨_, _, _, by have h9 := heap_new (w.alloc (.cells #[.int .i64 now] 3)) (.cells #[.pointer (some ⟨cb, 0, none⟩)] 23) _ rfl; rw [World.size_alloc] at h9; exact h9⟩
  have hBP : ((w.alloc (.cells #[.int .i64 now] 3)).alloc (.cells #[.pointer (some ⟨cb, 0, none⟩)] 23)).cell? ⟨w.heap.size + 1, 0, none⟩ = some (.pointer (some ⟨cb, 0, none⟩)) := block_cell (b := w.heap.size + 1) (by have h9 := heap_new (w.alloc (.cells #[.int .i64 now] 3)) (.cells #[.pointer (some ⟨cb, 0, none⟩)] 23) _ rfl; rw [World.size_alloc] at h9; exact h9) 0
  have hst := Lib.hid (all_stops_g (B := w.heap.size + 1) (Kp := Kt ((w.alloc (.cells #[.int .i64 now] 3)).alloc (.cells #[.pointer (some ⟨cb, 0, none⟩)] 23)).heap.size (gbs Y)) (h.keep hB0) (by omega) hks' hBP (by simp) (iterK_tick (h.keep hB0) (by simp; omega) hBC (fun i hi e => by have := (h.grp i hi).ltF _ e; omega)) (6 - 1) (by omega))
  have HI0 := Lib.hid (TickI.start (n := n) (now := now) (h.keep hB0) hd ok)
  have HCN : Hid (∀ W us, TickI w0 ((w.alloc (.cells #[.int .i64 now] 3)).alloc (.cells #[.pointer (some ⟨cb, 0, none⟩)] 23)) cb C Y now n us W → W.cell? ⟨w.heap.size, 0, none⟩ = some (.int .i64 now) ∧ w.heap.size < W.heap.size) := fun W us hi => by
    have hs := hi.keep.size
    have h9 : ((w.alloc (.cells #[.int .i64 now] 3)).alloc (.cells #[.pointer (some ⟨cb, 0, none⟩)] 23)).cell? ⟨w.heap.size, 0, none⟩ = some (.int .i64 now) := (bN.alloc _).cell
    exact ⟨hi.keep.cell' h9 (fun e => Nat.lt_irrefl _ (h.ltC _ e)), by simp at hs; omega⟩
  have HGR := Lib.hid (fun us W W' row hi hg hr => TickI.grow (w0 := w0) (w := (w.alloc (.cells #[.int .i64 now] 3)).alloc (.cells #[.pointer (some ⟨cb, 0, none⟩)] 23)) (cb := cb) (C := C) (Y := Y) (now := now) (n := n) (us := us) (W := W) (W' := W') (row := row) hi (h.keep hB0).ltC hg hr)
  have HN : Hid (Y.L.length ≤ 20) := by show _ ≤ _; omega
  clear h hd hl hks ok hks' hlen bN hB0 hBC hBP
  refine callsIn_of_wp_marks Tryz.func15 rfl trivial ?_ rfl
  simp only [Tryz.ntmps15, List.size_toArray, List.length_cons, List.length_nil, Nat.reduceAdd, Nat.reduceSub, Array.replicate_succ, Array.replicate_zero, List.push_toArray, List.append_toArray, List.nil_append, List.cons_append]
  gi_wp2_with (gi_at_call 44; refine (callsIn_wide.2 (all_box cb _)).mono ?_; rintro e w' ⟨rfl, rfl⟩)
  refine wpIn_rangeFunc_ownF rfl h1 (gf := 73) (lb := #[.pointer (some ⟨w.heap.size + 1, 0, none⟩)]) rfl trivial (enters_of Tryz.func73 (by kernel_rfl) rfl) hst.out (fun h g => Kt.trans h g) (Kt.put (Nat.le_refl _)) (Below.refl _ _) (fun _ => rfl)
    (fun pre W => TickI w0 ((w.alloc (.cells #[.int .i64 now] 3)).alloc (.cells #[.pointer (some ⟨cb, 0, none⟩)] 23)) cb C Y now n (pre.map fun x => x.1.1) W) (fun _ _ _ => False)
    (fun s W W' row hi hg hr => HGR.out (s.map fun x => x.1.1) W W' row hi hg hr)
    (fun _ _ _ _ _ hs _ _ => hs) HI0.out
    (fun x => { tmps := #[.pointer (some ⟨cb, 0, none⟩), .int .i64 now, undef, .pointer (some ⟨w.heap.size, 0, none⟩), undef, x.1.2, .pointer (some ⟨cb, 0, none⟩), .func (.func 73) #[] #[.pointer (some ⟨w.heap.size + 1, 0, none⟩)], .string x.1.1, x.1.2, undef, undef, undef], defers := [] }) ?assign ?body ?done ?stop
  case assign =>
    intro l x W K hK
    dsimp only [encE]
    gi_wp2
    exact hK
  case body =>
    intro l pre x W hI hlt
    obtain ⟨b, hb, hc⟩ := hI.round (n0 := ((w.alloc (.cells #[.int .i64 now] 3)).alloc (.cells #[.pointer (some ⟨cb, 0, none⟩)] 23)).heap.size) x.2 (by rw [List.length_map]; have := HN.out; omega)
    obtain ⟨d0, d1⟩ := HCN.out W _ hI
    have HC := Lib.hid hc
    have HPM : Hid ((pre ++ [x]).map (fun x => x.1.1) = pre.map (fun x => x.1.1) ++ [x.1.1]) := by show _ = _; rw [List.map_append]; rfl
    rw [hb]
    clear hc hI hb hlt
    gi_wp2_with (first | (refine ⟨trivial, ?_⟩; gi_at_call 45; refine ((callsIn_wide.2 HC.out).inRound l).mono ?_; rintro e w2 ⟨rfl, q1, q2, q3⟩) | (gi_at_call 45; refine ((callsIn_wide.2 HC.out).inRound l).mono ?_; rintro e w2 ⟨rfl, q1, q2, q3⟩))
    exact ⟨q1, q2, by show TickI _ _ _ _ _ _ _ _ _; rw [HPM.out]; exact q3⟩
  case done =>
    intro D xs W hD hxs hI hK
    have HX := Lib.hid hxs
    have HI := Lib.hid hI
    clear hxs hI
    gi_wp2
    refine ⟨by simp, Or.inl ⟨_, _, rfl, run_takeDeferred hK, ?_⟩⟩
    exact ⟨_, results_none rfl _ _ _, rfl, HFIN.out _ _ HX.out (HGR.out _ W _ (some D) HI.out (grownBy_putObj' W D _) (fun r e => by cases e; exact ⟨hD, _, hK, rfl⟩))⟩
  case stop =>
    rintro D c pre W _ _ h _
    exact h.elim
end
end Go.Proofs.YtklhlffdpojkoaaGreat
