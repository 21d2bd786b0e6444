/-
  A coordinator's names in order: the iterator's contract.
-/
import Derived.Test.YtklhlffdpojkoaaPb
namespace Go.Proofs.Ytklhlffdpojkoaa
open Go.RowKit Go.Shelf Fx
attribute [local go_sem] Oper.semAt_some

theorem grown_of_k0 {w w' : World} (h : K0 w w') : w.grownBy w' none := ⟨h.os, h.tape, h.output, h.size, fun k hk _ => h.block k hk (fun e => e)⟩
/-- The names as the walk reads them. -/
def RowF (base : Nat) (w' : World) (a : Option Addr) (ss : List ByteArray) : Prop :=
  ∀ i (hi : i < ss.length), ∃ g, a = some ⟨g, 0, none⟩ ∧ base ≤ g ∧ g < w'.heap.size ∧ w'.cell? ⟨g, i, none⟩ = some (.string ss[i])
theorem NamesAt.form {base : Nat} {w' : World} {v : Value} {ss : List ByteArray} {L : List (ByteArray × Value)} (h : NamesAt base w' v ss L) : ∃ a c, v = .slice a ss.length c ∧ RowF base w' a ss := by
  have hr := h.row
  rcases hr.2 with ⟨h1, h2⟩ | ⟨g, cp, cur, h1, h2, h3, h4⟩
  · exact ⟨none, 0, by rw [h1, h2], fun i hi => by omega⟩
  · subst h1
    refine ⟨_, _, rfl, fun i hi => ⟨g, rfl, h2, (Array.getElem?_eq_some_iff.1 h3).1, ?_⟩⟩
    rw [hr.cellAt i (by omega), List.getElem?_map, List.getElem?_eq_getElem hi]
    rfl
theorem w64s {n : Nat} (h : n < 1000000) : wrap64 ((n : Int) + 1) = (n : Int) + 1 := by unfold wrap64; omega
set_option maxRecDepth 100000 in
set_option maxHeartbeats 4000000 in
theorem all_stops {w0 w : World} {cb B Bx n0 : Nat} {C : CoordC} {Y : CLay} (h : CAt w0 w cb C Y) (hl : Y.L.length ≤ 100000) (hks : ∀ p ∈ avals gptr Y.L, p.1.size ≤ 100000) (hcb : cb < n0) (hgb : Y.gb < n0) (hB : w.cell? ⟨B, 0, none⟩ = some (.pointer (some ⟨cb, 0, none⟩))) (hBl : B < w.heap.size) (hne : B ≠ Bx)
    (hx : w.cell? ⟨Bx, 0, none⟩ = some (.slice none 0 0)) (hxl : Bx < w.heap.size) (hn0 : n0 ≤ Bx) (n : Nat) (hn : 1 ≤ n) :
    SeqStopsK Fence.wide n Try.prog 36 #[.pointer (some ⟨B, 0, none⟩)] (fun x : ByteArray × Value => #[.string x.1, x.2]) (Kq n0 Bx) (fun xs => xs.length = Y.L.length) (fun _ => True) Y.L.length w := fun l J Jx W hb hJ hJx hY h0 => by
  have hkW := K0.of_below hb
  have hW := h.keep hkW
  have cB : W.cell? ⟨B, 0, none⟩ = some (.pointer (some ⟨cb, 0, none⟩)) := hkW.cell' hB (fun e => e)
  have c2 : W.cell? ⟨cb, 2, none⟩ = some (.map (some Y.gb)) := block_cell hW.blk 2
  have hBW : B < W.heap.size := Nat.lt_of_lt_of_le hBl hkW.size
  have hltc : cb < W.heap.size := block_lt hW.blk
  have cX := Lib.hid (hkW.cell' hx (fun e => e))
  have hXW : Bx < W.heap.size := Nat.lt_of_lt_of_le hxl hkW.size
  have S := Lib.hid (sorted_any hW.map hks (by rw [avals_len]; exact hl))
  have HM := Lib.hid hW.map
  have HL : Hid ((avals gptr Y.L).length = Y.L.length) := avals_len _ _
  clear hW h hb hkW
  refine callsIn_of_wp Try.func36 rfl trivial ?_ rfl
  simp only [Try.ntmps36, List.size_toArray, List.length_cons, List.length_nil, Nat.reduceAdd, Nat.reduceSub, Array.replicate_succ, Array.replicate_zero, List.push_toArray, List.append_toArray, List.nil_append, List.cons_append]
  gi_wp2_with (first | (refine ⟨trivial, ?_⟩; gi_at_call 38; refine (callsIn_wide.2 (keys_any (some Y.gb) W)).mono ?_; rintro e w1 ⟨rfl, rfl⟩) | (refine ⟨trivial, ?_⟩; gi_at_call 37; refine (callsIn_wide.2 S.out).mono ?_; rintro e w2 ⟨v, ss, rfl, hN, hk2⟩; obtain ⟨a, c, rfl, hF⟩ := hN.form))
  have kA : K0 W (W.alloc (.cells #[.map (some Y.gb)] 51)) := (Keeps.refl _ _).alloc _
  have k2 := K0.tr kA hk2
  have HJ0 : Hid (J [] w2) := hJ _ _ _ none h0 (grown_of_k0 k2) (by simp)
  have HKN : Hid (KN n0 Bx w2 w2) := KN.start (k2.cell' cX.out (fun e => e))
  have HE : Hid (ss.length = Y.L.length) := by have := hN.perm.length_eq; simp only [List.length_map] at this; exact this.trans HL.out
  have HFF := Lib.hid hF
  have dB := Lib.hid (k2.cell' cB (fun e => e))
  have d2 := Lib.hid (k2.cell' c2 (fun e => e))
  have HM2 : Hid (MapAt .string w2 Y.gb (avals gptr Y.L)) := HM.out.keep k2 (fun e => e)
  have HS : Hid (B < w2.heap.size ∧ cb < w2.heap.size ∧ Bx < W.heap.size) := ⟨Nat.lt_of_lt_of_le hBW k2.size, Nat.lt_of_lt_of_le hltc k2.size, hXW⟩
  clear hk2 hN hF kA k2 cB c2 hBW hltc hXW h0
  gi_loopw [14] (fun p wr => ∃ pre : List (ByteArray × Value), p = .int .i64 pre.length ∧ pre.length ≤ ss.length ∧ J pre wr ∧ KN n0 Bx w2 wr) (fun p _ => ss.length - (intOf p).toNat)
  case atStart => exact ⟨[], rfl, Nat.zero_le _, HJ0.out, HKN.out⟩
  case round =>
    obtain ⟨pre, rfl, hle, hJs, hkn⟩ := hrel
    by_cases hlt : pre.length < ss.length
    · obtain ⟨g, rfl, hg1, hg2, hc⟩ := HFF.out pre.length hlt
      have cg : wr.cell? ⟨g, pre.length, none⟩ = some (.string ss[pre.length]) := hkn.cell hc (by have := HS.out; omega)
      have cB : wr.cell? ⟨B, 0, none⟩ = some (.pointer (some ⟨cb, 0, none⟩)) := hkn.cell dB.out hne
      have c2 : wr.cell? ⟨cb, 2, none⟩ = some (.map (some Y.gb)) := hkn.cell d2.out (by omega)
      have hm : Hid (MapAt .string wr Y.gb (avals gptr Y.L)) := HM2.out.of_block (hkn.1.block _ hgb)
      have hz := hkn.1.size
      have b1 : B < wr.heap.size := by have := HS.out; omega
      have b2 : cb < wr.heap.size := by have := HS.out; omega
      have b3 : g < wr.heap.size := by omega
      obtain ⟨x, hx⟩ : ∃ x, x = (ss[pre.length], ((aget (avals gptr Y.L) ss[pre.length]).getD (.pointer none) : Value)) := ⟨_, rfl⟩
      obtain ⟨fn, tmps, assign, body, hy, hR⟩ := hY pre x wr hJs (by have := HE.out; omega)
      have HKN2 := Lib.hid hkn
      clear hkn hJs
      rw [hx] at hy hR
      dsimp only at hy hR
      have HV : Hid (aget (avals gptr Y.L) ss[pre.length] = aget (avals gptr Y.L) ss[pre.length]) := rfl
      gi_wp2_with (gi_at_lookup; refine wpListIn_look (strKey Try.underlying9) rfl rfl Try.underlying51 zeroPtr rfl ss[pre.length] rfl hm.out _ HV.out ?_)
      refine hR.mono ?_
      rintro e W3 (⟨rfl, hJ3, hk3⟩ | ⟨rfl, hJx3⟩)
      · have HKN3 := Lib.hid (HKN2.out.step hk3)
        have HJ3 := Lib.hid hJ3
        clear hk3 hJ3
        have hm0 : (pre ++ [x]).length ≤ ss.length := by rw [List.length_append]; exact hlt
        have hm1 : ss.length - ((pre.length : Int) + 1).toNat < ss.length - (pre.length : Int).toNat := by
          clear HKN3 HJ3 HV HKN2 hm HM2 HM HS HE
          omega
        have hw : wrap64 ((pre.length : Int) + 1) = (pre.length : Int) + 1 := w64s (by have := HE.out; omega)
        gi_wp2
        go_roundw
        case rel => exact ⟨pre ++ [x], by rw [hw, List.length_append]; rfl, hm0, by rw [hx]; exact HJ3.out, HKN3.out⟩
        case measure => rw [hw]; exact hm1
      · gi_wp2
        refine bodyPost_ret (results_none rfl _ _ _) rfl ?_
        exact ⟨⟨_, rfl⟩, .inr ⟨_, trivial, hJx3⟩⟩
    · have he : pre.length = ss.length := by omega
      have hxs : pre.length = Y.L.length := he.trans HE.out
      gi_wp2
      go_end0
      exact ⟨⟨_, rfl⟩, .inl ⟨pre, hxs, hJs⟩⟩
end Go.Proofs.Ytklhlffdpojkoaa
